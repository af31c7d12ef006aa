/-
  The residual forms of the program's functions under the interpreter by value, printed by program (wip/pv/gen2.py); each equation is checked by the kernel.
  Conditions: none.
-/
import Derived.Test.YtmjhgkmiafemfaaVDef
import Derived.Test.YtmjhgkmiafemfaaProg
import Derived.KernelRfl
set_option linter.all false
set_option maxRecDepth 1000000
namespace Go.Proofs.Ytmjhgkmiafemfaa
open Go.Ev Go.Pv

theorem fuel_is : ∃ n : Nat, n = 4194304 := ⟨_, rfl⟩
noncomputable def fuelN : Nat := Classical.choose fuel_is
theorem fuelN_eq : fuelN = 4194304 := Classical.choose_spec fuel_is
def pvSig : FuncId → Sig
  | 5 => ⟨[(.ro, (.sl (.int .u8))), (.ro, (.sl (.int .u8)))], [(false, .bool)]⟩
  | 12 => ⟨[(.ro, (.sl (.int .u8))), (.ro, (.sl (.int .u8)))], [(false, .bool)]⟩
  | 16 => ⟨[(.ro, (.sl (.int .i64))), (.ro, (.sl (.int .i64)))], [(false, .bool)]⟩
  | 51 => ⟨[(.ro, (.sl (.int .u8)))], [(false, (.pair (.int .i64) (.pair (.int .i64) (.pair (.int .i64) (.int .i64))))), (false, (.int .i64)), (false, (.int .i64))]⟩
  | 52 => ⟨[(.ro, (.pair (.int .i64) (.pair (.int .i64) (.pair (.int .i64) (.int .i64))))), (.ro, (.int .i64)), (.ro, (.int .i64))], [(false, (.int .i64)), (false, (.int .i64)), (false, .bool)]⟩
  | 53 => ⟨[(.ro, (.pair (.int .i64) (.pair (.int .i64) (.pair (.int .i64) (.int .i64))))), (.ro, (.int .i64)), (.ro, (.int .i64))], [(false, (.int .i64)), (false, (.int .i64)), (false, .bool)]⟩
  | 54 => ⟨[(.ro, (.sl (.int .u8)))], [(false, (.pair (.int .i64) (.pair (.int .i64) (.pair (.int .i64) (.int .i64))))), (false, (.int .i64)), (true, (.sl (.int .i64))), (false, (.int .i64))]⟩
  | 55 => ⟨[(.ro, (.pair (.int .i64) (.pair (.int .i64) (.pair (.int .i64) (.int .i64))))), (.ro, (.int .i64)), (.ro, (.sl (.int .i64))), (.ro, (.int .i64))], [(true, (.sl (.int .i64))), (false, .bool)]⟩
  | 56 => ⟨[(.ro, (.pair (.int .i64) (.pair (.int .i64) (.pair (.int .i64) (.int .i64))))), (.ro, (.int .i64)), (.ro, (.sl (.int .i64))), (.ro, (.int .i64))], [(true, (.sl (.int .i64))), (false, .bool)]⟩
  | 57 => ⟨[(.ro, (.pair (.int .i64) (.pair (.int .i64) (.pair (.int .i64) (.int .i64))))), (.ro, (.int .i64)), (.ro, (.sl (.int .i64)))], [(true, (.sl (.int .i64))), (false, .bool)]⟩
  | 58 => ⟨[(.ro, (.sl (.int .i64)))], [(false, (.int .i64)), (false, (.int .i64)), (false, .bool)]⟩
  | 59 => ⟨[(.ro, (.pair (.int .i64) (.pair (.int .i64) (.pair (.int .i64) (.int .i64))))), (.ro, (.int .i64)), (.ro, (.int .i64)), (.ro, (.int .i64)), (.ro, (.int .i64))], [(false, (.int .i64)), (false, .bool)]⟩
  | 60 => ⟨[(.ro, (.sl (.int .u8)))], [(false, (.pair (.int .i64) (.pair (.int .i64) (.pair (.int .i64) (.int .i64))))), (false, (.int .i64)), (false, (.int .i64)), (false, (.int .i64)), (false, (.int .i64))]⟩
  | 61 => ⟨[(.ro, (.pair (.int .i64) (.pair (.int .i64) (.pair (.int .i64) (.int .i64))))), (.ro, (.int .i64)), (.ro, (.int .i64)), (.ro, (.int .i64)), (.ro, (.int .i64))], [(false, (.int .i64)), (false, .bool)]⟩
  | 62 => ⟨[(.ro, (.sl (.int .u8)))], [(false, (.pair (.int .i64) (.pair (.int .i64) (.pair (.int .i64) (.int .i64))))), (false, (.pair (.int .i64) (.pair (.int .i64) (.pair (.int .i64) (.int .i64))))), (false, (.int .i64))]⟩
  | 63 => ⟨[(.ro, (.pair (.int .i64) (.pair (.int .i64) (.pair (.int .i64) (.int .i64))))), (.ro, (.pair (.int .i64) (.pair (.int .i64) (.pair (.int .i64) (.int .i64))))), (.ro, (.int .i64))], [(false, (.int .i64)), (false, .bool)]⟩
  | 64 => ⟨[(.ro, (.pair (.int .i64) (.pair (.int .i64) (.pair (.int .i64) (.int .i64))))), (.ro, (.pair (.int .i64) (.pair (.int .i64) (.pair (.int .i64) (.int .i64))))), (.ro, (.int .i64))], [(false, (.int .i64)), (false, .bool)]⟩
  | 65 => ⟨[(.ro, (.sl (.int .u8)))], [(false, (.int .i64)), (false, (.int .i64))]⟩
  | 66 => ⟨[(.ro, (.int .i64)), (.ro, (.int .i64))], [(false, (.int .i64)), (false, .bool)]⟩
  | 67 => ⟨[(.ro, (.int .i64)), (.ro, (.int .i64))], [(false, (.int .i64)), (false, .bool)]⟩
  | 158 => ⟨[(.ps, (.pair (.sl (.int .u8)) (.pair (.int .i64) (.int .u64)))), (.ro, (.sl (.int .i64)))], [(false, (.int .i64))]⟩
  | 177 => ⟨[(.ps, (.pair (.sl (.int .u8)) (.pair (.int .i64) (.int .u64)))), (.ro, (.int .i64))], [(false, (.int .i64))]⟩
  | 179 => ⟨[(.ro, (.int .i64)), (.ro, (.int .i64)), (.ro, (.int .i64))], [(false, .bool)]⟩
  | 192 => ⟨[(.ps, (.pair (.sl (.int .u8)) (.pair (.int .i64) (.int .u64))))], [(false, (.pair (.int .i64) (.pair (.int .i64) (.pair (.int .i64) (.int .i64)))))]⟩
  | 193 => ⟨[(.ps, (.pair (.sl (.int .u8)) (.pair (.int .i64) (.int .u64))))], [(false, (.int .i64))]⟩
  | 194 => ⟨[(.ro, (.pair (.int .i64) (.pair (.int .i64) (.pair (.int .i64) (.int .i64)))))], [(false, .bool)]⟩
  | 195 => ⟨[(.ro, (.int .i64))], [(false, .bool)]⟩
  | 196 => ⟨[(.ro, (.int .i64))], [(false, .bool)]⟩
  | 197 => ⟨[(.ro, (.pair (.int .i64) (.pair (.int .i64) (.pair (.int .i64) (.int .i64))))), (.ro, (.int .i64)), (.ro, (.int .i64))], [(false, (.int .i64)), (false, (.int .i64))]⟩
  | 198 => ⟨[(.ro, (.pair (.int .i64) (.pair (.int .i64) (.pair (.int .i64) (.int .i64)))))], [(false, .bool)]⟩
  | 199 => ⟨[(.ro, (.int .i64))], [(false, .bool)]⟩
  | 200 => ⟨[(.ro, (.int .i64))], [(false, .bool)]⟩
  | 201 => ⟨[(.ro, (.pair (.int .i64) (.pair (.int .i64) (.pair (.int .i64) (.int .i64))))), (.ro, (.int .i64)), (.ro, (.int .i64))], [(false, (.int .i64)), (false, (.int .i64))]⟩
  | 202 => ⟨[(.ps, (.pair (.sl (.int .u8)) (.pair (.int .i64) (.int .u64))))], [(true, (.sl (.int .i64)))]⟩
  | 203 => ⟨[(.ro, (.sl (.int .i64)))], [(false, .bool)]⟩
  | 204 => ⟨[(.ro, (.int .i64))], [(false, .bool)]⟩
  | 205 => ⟨[(.ro, (.pair (.int .i64) (.pair (.int .i64) (.pair (.int .i64) (.int .i64))))), (.ro, (.int .i64)), (.ro, (.int .i64))], [(false, (.int .i64))]⟩
  | 206 => ⟨[(.ro, (.pair (.int .i64) (.pair (.int .i64) (.pair (.int .i64) (.int .i64))))), (.ro, (.int .i64)), (.ro, (.int .i64)), (.ro, (.int .i64)), (.ro, (.int .i64))], [(false, (.int .i64))]⟩
  | 207 => ⟨[(.ro, (.sl (.int .i64)))], [(false, .bool)]⟩
  | 208 => ⟨[(.ro, (.int .i64)), (.ro, (.int .i64))], [(false, .bool)]⟩
  | 209 => ⟨[(.ro, (.pair (.int .i64) (.pair (.int .i64) (.pair (.int .i64) (.int .i64))))), (.ro, (.int .i64)), (.ro, (.int .i64))], [(false, (.int .i64))]⟩
  | 210 => ⟨[(.ro, (.pair (.int .i64) (.pair (.int .i64) (.pair (.int .i64) (.int .i64))))), (.ro, (.int .i64)), (.ro, (.int .i64)), (.ro, (.int .i64)), (.ro, (.int .i64))], [(false, (.int .i64))]⟩
  | 211 => ⟨[(.ps, (.pair (.sl (.int .u8)) (.pair (.int .i64) (.int .u64)))), (.ro, (.int .i64))], [(false, .bool)]⟩
  | 212 => ⟨[(.ro, (.int .i64)), (.ro, (.int .i64))], [(false, (.int .i64))]⟩
  | 213 => ⟨[(.ro, (.int .i64))], [(false, (.int .i64))]⟩
  | 214 => ⟨[(.ro, (.int .i64)), (.ro, (.int .i64))], [(false, (.int .i64))]⟩
  | 215 => ⟨[(.ro, (.int .i64)), (.ro, (.int .i64))], [(false, (.int .i64))]⟩
  | 228 => ⟨[(.ro, (.sl (.int .i64))), (.ro, (.int .i64)), (.ro, (.int .i64))], [(false, .bool)]⟩
  | 289 => ⟨[(.ps, (.pair (.sl (.int .u8)) (.pair (.int .i64) (.int .u64))))], [(false, (.int .i64))]⟩
  | 291 => ⟨[(.ro, (.int .i64)), (.ro, (.int .i64))], [(false, (.int .i64))]⟩
  | 292 => ⟨[(.ro, (.int .i64)), (.ro, (.int .i64))], [(false, (.int .i64))]⟩
  | 293 => ⟨[(.ro, (.int .i64))], [(false, .bool)]⟩
  | _ => ⟨[], []⟩
def pvLoops : FuncId → Nat → LoopA
  | 5, 0 => ⟨[(4, false, .bool), (30, false, (.int .i64)), (31, false, (.int .i64)), (32, false, (.int .i64)), (213, false, (.int .i64))], [], [], []⟩
  | 16, 0 => ⟨[(4, false, .bool), (13, false, (.int .i64))], [], [], []⟩
  | 55, 0 => ⟨[(1, false, (.int .i64)), (10, true, (.sl (.int .i64))), (11, false, (.int .i64)), (36, false, (.int .i64))], [], [], []⟩
  | 56, 0 => ⟨[(1, false, (.int .i64)), (10, true, (.sl (.int .i64))), (11, false, (.int .i64)), (35, false, (.int .i64))], [], [], []⟩
  | 57, 0 => ⟨[(1, false, (.int .i64)), (8, true, (.sl (.int .i64))), (27, false, (.int .i64))], [], [], []⟩
  | 58, 0 => ⟨[(2, false, (.int .i64)), (3, false, (.int .i64)), (4, false, .bool), (14, false, (.int .i64))], [(5, (.pair (.int .i64) (.pair (.int .i64) (.int .i64))))], [], []⟩
  | 202, 0 => ⟨[(3, true, (.sl (.int .i64))), (4, false, (.int .i64))], [(0, (.pair (.sl (.int .u8)) (.pair (.int .i64) (.int .u64))))], [], []⟩
  | 203, 0 => ⟨[(2, false, .bool), (7, false, (.int .i64))], [], [], []⟩
  | 214, 0 => ⟨[(5, false, (.int .i64)), (11, false, (.int .i64))], [], [], []⟩
  | 215, 0 => ⟨[(5, false, (.int .i64)), (12, false, (.int .i64))], [], [], []⟩
  | 228, 0 => ⟨[(6, false, .bool), (11, false, (.int .i64))], [], [], []⟩
  | 291, 0 => ⟨[(0, false, (.int .i64)), (1, false, (.int .i64))], [], [], []⟩
  | 292, 0 => ⟨[(0, false, (.int .i64)), (1, false, (.int .i64))], [], [], []⟩
  | _, _ => ⟨[], [], [], []⟩
def pvEloops : FuncId → Nat → List (Nat × Value)
  | 5, 0 => [(1, (.slice none 0 0)), (4, (.bool false)), (17, (.pointer (some ⟨0, 0, none⟩))), (20, (.int .i64 0)), (25, (.slice none 0 0)), (27, (.int .i64 0)), (28, (.int .i64 0)), (30, (.int .i64 0)), (31, (.int .i64 0)), (32, (.int .i64 0)), (211, (.slice none 0 0)), (212, (.int .i64 0)), (213, (.int .i64 0))]
  | 16, 0 => [(0, (.slice none 0 0)), (1, (.slice none 0 0)), (4, (.bool false)), (12, (.int .i64 0)), (13, (.int .i64 0))]
  | 55, 0 => [(1, (.int .i64 0)), (3, (.int .i64 0)), (4, (.pointer (some ⟨0, 0, none⟩))), (8, (.slice none 0 0)), (9, (.bool false)), (10, (.slice none 0 0)), (11, (.int .i64 0)), (34, (.slice none 0 0)), (35, (.int .i64 0)), (36, (.int .i64 0))]
  | 56, 0 => [(1, (.int .i64 0)), (3, (.int .i64 0)), (4, (.pointer (some ⟨0, 0, none⟩))), (8, (.slice none 0 0)), (9, (.bool false)), (10, (.slice none 0 0)), (11, (.int .i64 0)), (33, (.slice none 0 0)), (34, (.int .i64 0)), (35, (.int .i64 0))]
  | 57, 0 => [(1, (.int .i64 0)), (3, (.pointer (some ⟨0, 0, none⟩))), (6, (.slice none 0 0)), (7, (.bool false)), (8, (.slice none 0 0)), (25, (.slice none 0 0)), (26, (.int .i64 0)), (27, (.int .i64 0))]
  | 58, 0 => [(2, (.int .i64 0)), (3, (.int .i64 0)), (4, (.bool false)), (5, (.pointer (some ⟨0, 0, none⟩))), (12, (.slice none 0 0)), (13, (.int .i64 0)), (14, (.int .i64 0))]
  | 202, 0 => [(0, (.pointer (some ⟨0, 0, none⟩))), (2, (.slice none 0 0)), (3, (.slice none 0 0)), (4, (.int .i64 0))]
  | 203, 0 => [(0, (.slice none 0 0)), (2, (.bool false)), (5, (.slice none 0 0)), (6, (.int .i64 0)), (7, (.int .i64 0))]
  | 214, 0 => [(4, (.int .i64 0)), (5, (.int .i64 0)), (10, (.agg #[(.int .i64 0), (.int .i64 0), (.int .i64 0)])), (11, (.int .i64 0))]
  | 215, 0 => [(4, (.int .i64 0)), (5, (.int .i64 0)), (10, (.slice none 0 0)), (11, (.int .i64 0)), (12, (.int .i64 0))]
  | 228, 0 => [(1, (.int .i64 0)), (2, (.int .i64 0)), (6, (.bool false)), (9, (.slice none 0 0)), (10, (.int .i64 0)), (11, (.int .i64 0))]
  | 291, 0 => [(0, (.int .i64 0)), (1, (.int .i64 0)), (4, (.int .i64 0))]
  | 292, 0 => [(0, (.int .i64 0)), (1, (.int .i64 0)), (4, (.int .i64 0))]
  | _, _ => []
def pvInline : FuncId → Bool
  | 216 => true
  | 217 => true
  | 294 => true
  | 310 => true
  | 317 => true
  | 318 => true
  | 333 => true
  | 342 => true
  | _ => false
noncomputable def pvAnn : AnnV := ⟨fuelN, pvSig, pvLoops, pvEloops, pvInline⟩

/-- loop.example/g00838/laws.big -/
noncomputable def g12 (d : Nat) (l1 : List Int) (l2 : List Int) : Option Bool := (lev Try.prog pvAnn d).call 12 (l1, l2)
/-- loop.example/g00838/laws.sameInts -/
noncomputable def g16 (d : Nat) (l1 : List Int) (l2 : List Int) : Option Bool := (lev Try.prog pvAnn d).call 16 (l1, l2)
/-- (*loop.example/g00838/spec.l1Cur).next -/
noncomputable def g289 (d : Nat) (x1 : ((List Int) × Int × Int)) : Option (Int × ((List Int) × Int × Int)) := (lev Try.prog pvAnn d).call 289 (x1)
/-- (*loop.example/g00838/spec.l1Cur).pick -/
noncomputable def g177 (d : Nat) (x1 : ((List Int) × Int × Int)) (n2 : Int) : Option (Int × ((List Int) × Int × Int)) := (lev Try.prog pvAnn d).call 177 (x1, n2)
/-- (*loop.example/g00838/spec.l1Cur).among -/
noncomputable def g158 (d : Nat) (x1 : ((List Int) × Int × Int)) (l2 : List Int) : Option (Int × ((List Int) × Int × Int)) := (lev Try.prog pvAnn d).call 158 (x1, l2)
/-- (*loop.example/g00838/spec.l1Cur).early -/
noncomputable def g192 (d : Nat) (x1 : ((List Int) × Int × Int)) : Option ((Int × Int × Int × Int) × ((List Int) × Int × Int)) := (lev Try.prog pvAnn d).call 192 (x1)
/-- (*loop.example/g00838/spec.l1Cur).average -/
noncomputable def g193 (d : Nat) (x1 : ((List Int) × Int × Int)) : Option (Int × ((List Int) × Int × Int)) := (lev Try.prog pvAnn d).call 193 (x1)
/-- loop.example/g00838/spec.DrawDropChance -/
noncomputable def g51 (d : Nat) (l1 : List Int) : Option ((Int × Int × Int × Int) × Int × Int) := (lev Try.prog pvAnn d).call 51 (l1)
/-- loop.example/g00838/impl.IsEarly -/
noncomputable def g194 (d : Nat) (x1 : (Int × Int × Int × Int)) : Option Bool := (lev Try.prog pvAnn d).call 194 (x1)
/-- loop.example/g00838/impl.isAverage -/
noncomputable def g195 (d : Nat) (n1 : Int) : Option Bool := (lev Try.prog pvAnn d).call 195 (n1)
/-- loop.example/g00838/impl.isSince -/
noncomputable def g196 (d : Nat) (n1 : Int) : Option Bool := (lev Try.prog pvAnn d).call 196 (n1)
/-- loop.example/g00838/impl.gcd -/
noncomputable def g291 (d : Nat) (n1 : Int) (n2 : Int) : Option Int := (lev Try.prog pvAnn d).call 291 (n1, n2)
/-- loop.example/g00838/impl.dropChance -/
noncomputable def g197 (d : Nat) (x1 : (Int × Int × Int × Int)) (n2 : Int) (n3 : Int) : Option (Int × Int) := (lev Try.prog pvAnn d).call 197 (x1, n2, n3)
/-- loop.example/g00838/impl.DropChance -/
noncomputable def g52 (d : Nat) (x1 : (Int × Int × Int × Int)) (n2 : Int) (n3 : Int) : Option (Int × Int × Bool) := (lev Try.prog pvAnn d).call 52 (x1, n2, n3)
/-- loop.example/g00838/spec.l1In -/
noncomputable def g179 (d : Nat) (n1 : Int) (n2 : Int) (n3 : Int) : Option Bool := (lev Try.prog pvAnn d).call 179 (n1, n2, n3)
/-- loop.example/g00838/spec.rdGood -/
noncomputable def g198 (d : Nat) (x1 : (Int × Int × Int × Int)) : Option Bool := (lev Try.prog pvAnn d).call 198 (x1)
/-- loop.example/g00838/spec.rdAverage -/
noncomputable def g199 (d : Nat) (n1 : Int) : Option Bool := (lev Try.prog pvAnn d).call 199 (n1)
/-- loop.example/g00838/spec.rdSince -/
noncomputable def g200 (d : Nat) (n1 : Int) : Option Bool := (lev Try.prog pvAnn d).call 200 (n1)
/-- loop.example/g00838/spec.rdGcd -/
noncomputable def g292 (d : Nat) (n1 : Int) (n2 : Int) : Option Int := (lev Try.prog pvAnn d).call 292 (n1, n2)
/-- loop.example/g00838/spec.rdChance -/
noncomputable def g201 (d : Nat) (x1 : (Int × Int × Int × Int)) (n2 : Int) (n3 : Int) : Option (Int × Int) := (lev Try.prog pvAnn d).call 201 (x1, n2, n3)
/-- loop.example/g00838/spec.DropChance -/
noncomputable def g53 (d : Nat) (x1 : (Int × Int × Int × Int)) (n2 : Int) (n3 : Int) : Option (Int × Int × Bool) := (lev Try.prog pvAnn d).call 53 (x1, n2, n3)
/-- (*loop.example/g00838/spec.l1Cur).lengths -/
noncomputable def g202 (d : Nat) (x1 : ((List Int) × Int × Int)) : Option ((List Int) × ((List Int) × Int × Int)) := (lev Try.prog pvAnn d).call 202 (x1)
/-- loop.example/g00838/spec.DrawRunEarly -/
noncomputable def g54 (d : Nat) (l1 : List Int) : Option ((Int × Int × Int × Int) × Int × (List Int) × Int) := (lev Try.prog pvAnn d).call 54 (l1)
/-- loop.example/g00838/impl.isLength -/
noncomputable def g293 (d : Nat) (n1 : Int) : Option Bool := (lev Try.prog pvAnn d).call 293 (n1)
/-- loop.example/g00838/impl.areLengths -/
noncomputable def g203 (d : Nat) (l1 : List Int) : Option Bool := (lev Try.prog pvAnn d).call 203 (l1)
/-- loop.example/g00838/impl.isKey20 -/
noncomputable def g204 (d : Nat) (n1 : Int) : Option Bool := (lev Try.prog pvAnn d).call 204 (n1)
/-- loop.example/g00838/impl.nextAverage -/
noncomputable def g205 (d : Nat) (x1 : (Int × Int × Int × Int)) (n2 : Int) (n3 : Int) : Option Int := (lev Try.prog pvAnn d).call 205 (x1, n2, n3)
/-- loop.example/g00838/impl.keyedNumber -/
noncomputable def g214 (d : Nat) (n1 : Int) (n2 : Int) : Option Int := (lev Try.prog pvAnn d).call 214 (n1, n2)
/-- loop.example/g00838/impl.decideEarly -/
noncomputable def g206 (d : Nat) (x1 : (Int × Int × Int × Int)) (n2 : Int) (n3 : Int) (n4 : Int) (n5 : Int) : Option Int := (lev Try.prog pvAnn d).call 206 (x1, n2, n3, n4, n5)
/-- loop.example/g00838/impl.RunEarly -/
noncomputable def g55 (d : Nat) (x1 : (Int × Int × Int × Int)) (n2 : Int) (l3 : List Int) (n4 : Int) : Option ((List Int) × Bool) := (lev Try.prog pvAnn d).call 55 (x1, n2, l3, n4)
/-- loop.example/g00838/spec.l1All -/
noncomputable def g228 (d : Nat) (l1 : List Int) (n2 : Int) (n3 : Int) : Option Bool := (lev Try.prog pvAnn d).call 228 (l1, n2, n3)
/-- loop.example/g00838/spec.rdLengths -/
noncomputable def g207 (d : Nat) (l1 : List Int) : Option Bool := (lev Try.prog pvAnn d).call 207 (l1)
/-- loop.example/g00838/spec.rdKey -/
noncomputable def g208 (d : Nat) (n1 : Int) (n2 : Int) : Option Bool := (lev Try.prog pvAnn d).call 208 (n1, n2)
/-- loop.example/g00838/spec.rdNext -/
noncomputable def g209 (d : Nat) (x1 : (Int × Int × Int × Int)) (n2 : Int) (n3 : Int) : Option Int := (lev Try.prog pvAnn d).call 209 (x1, n2, n3)
/-- loop.example/g00838/spec.rdKeyed -/
noncomputable def g215 (d : Nat) (n1 : Int) (n2 : Int) : Option Int := (lev Try.prog pvAnn d).call 215 (n1, n2)
/-- loop.example/g00838/spec.rdDecide -/
noncomputable def g210 (d : Nat) (x1 : (Int × Int × Int × Int)) (n2 : Int) (n3 : Int) (n4 : Int) (n5 : Int) : Option Int := (lev Try.prog pvAnn d).call 210 (x1, n2, n3, n4, n5)
/-- loop.example/g00838/spec.RunEarly -/
noncomputable def g56 (d : Nat) (x1 : (Int × Int × Int × Int)) (n2 : Int) (l3 : List Int) (n4 : Int) : Option ((List Int) × Bool) := (lev Try.prog pvAnn d).call 56 (x1, n2, l3, n4)
/-- loop.example/g00838/impl.AverageOver -/
noncomputable def g57 (d : Nat) (x1 : (Int × Int × Int × Int)) (n2 : Int) (l3 : List Int) : Option ((List Int) × Bool) := (lev Try.prog pvAnn d).call 57 (x1, n2, l3)
/-- loop.example/g00838/impl.DropsOf -/
noncomputable def g58 (d : Nat) (l1 : List Int) : Option (Int × Int × Bool) := (lev Try.prog pvAnn d).call 58 (l1)
/-- loop.example/g00838/impl.DecideEarly -/
noncomputable def g59 (d : Nat) (x1 : (Int × Int × Int × Int)) (n2 : Int) (n3 : Int) (n4 : Int) (n5 : Int) : Option (Int × Bool) := (lev Try.prog pvAnn d).call 59 (x1, n2, n3, n4, n5)
/-- loop.example/g00838/spec.DrawDecideEarly -/
noncomputable def g60 (d : Nat) (l1 : List Int) : Option ((Int × Int × Int × Int) × Int × Int × Int × Int) := (lev Try.prog pvAnn d).call 60 (l1)
/-- loop.example/g00838/spec.DecideEarly -/
noncomputable def g61 (d : Nat) (x1 : (Int × Int × Int × Int)) (n2 : Int) (n3 : Int) (n4 : Int) (n5 : Int) : Option (Int × Bool) := (lev Try.prog pvAnn d).call 61 (x1, n2, n3, n4, n5)
/-- (*loop.example/g00838/spec.l1Cur).one -/
noncomputable def g211 (d : Nat) (x1 : ((List Int) × Int × Int)) (n2 : Int) : Option (Bool × ((List Int) × Int × Int)) := (lev Try.prog pvAnn d).call 211 (x1, n2)
/-- loop.example/g00838/spec.DrawCompareEarly -/
noncomputable def g62 (d : Nat) (l1 : List Int) : Option ((Int × Int × Int × Int) × (Int × Int × Int × Int) × Int) := (lev Try.prog pvAnn d).call 62 (l1)
/-- loop.example/g00838/impl.compareInts -/
noncomputable def g212 (d : Nat) (n1 : Int) (n2 : Int) : Option Int := (lev Try.prog pvAnn d).call 212 (n1, n2)
/-- loop.example/g00838/impl.CompareEarly -/
noncomputable def g63 (d : Nat) (x1 : (Int × Int × Int × Int)) (x2 : (Int × Int × Int × Int)) (n3 : Int) : Option (Int × Bool) := (lev Try.prog pvAnn d).call 63 (x1, x2, n3)
/-- loop.example/g00838/spec.l1Sign -/
noncomputable def g213 (d : Nat) (n1 : Int) : Option Int := (lev Try.prog pvAnn d).call 213 (n1)
/-- loop.example/g00838/spec.CompareEarly -/
noncomputable def g64 (d : Nat) (x1 : (Int × Int × Int × Int)) (x2 : (Int × Int × Int × Int)) (n3 : Int) : Option (Int × Bool) := (lev Try.prog pvAnn d).call 64 (x1, x2, n3)
/-- loop.example/g00838/spec.DrawKeyedNumber -/
noncomputable def g65 (d : Nat) (l1 : List Int) : Option (Int × Int) := (lev Try.prog pvAnn d).call 65 (l1)
/-- loop.example/g00838/impl.KeyedNumber -/
noncomputable def g66 (d : Nat) (n1 : Int) (n2 : Int) : Option (Int × Bool) := (lev Try.prog pvAnn d).call 66 (n1, n2)
/-- loop.example/g00838/spec.KeyedNumber -/
noncomputable def g67 (d : Nat) (n1 : Int) (n2 : Int) : Option (Int × Bool) := (lev Try.prog pvAnn d).call 67 (n1, n2)
/-- loop.example/g00838/laws.FnEarlyDrops -/
noncomputable def g5 (d : Nat) (l1 : List Int) (l2 : List Int) : Option Bool := (lev Try.prog pvAnn d).call 5 (l1, l2)

theorem e12 (d : Nat) (l1 : List Int) (l2 : List Int) : g12 (d + 1) l1 l2 =
 oif (decide ((((l1.length : Nat) : Int) : Int) > 1048576)) (
 some true) (
 some (decide ((((l2.length : Nat) : Int) : Int) > (IntKind.i64.wrap ((1048576 : Int) - ((l1.length : Nat) : Int)))))) := by kernel_rfl

noncomputable def j16_0 (d : Nat)  (b4 : Bool) : Option Bool :=
 some true
noncomputable def l16_0_b (d : Nat) (l1 : List Int) (l2 : List Int) (kx16_0_0 : Bool → Option Bool) (ag3 : (Bool × Int) → Option Bool) (b4 : Bool) (n5 : Int) : Option Bool :=
 oif (decide ((n5 : Int) < ((l1.length : Nat) : Int))) (
 oif (decide (0 ≤ (n5 : Int))) (
 obind (l1[(n5 : Int).toNat]?) fun n6 =>
 oif (decide (0 ≤ (n5 : Int))) (
 obind (l2[(n5 : Int).toNat]?) fun n7 =>
 oif ((n6 : Int) != n7) (
 some false) (
 ag3 (b4, (IntKind.i64.wrap (n5 + 1))))) none) none) (
 kx16_0_0 b4)
noncomputable def l16_0 (d : Nat) (l1 : List Int) (l2 : List Int) (kx16_0_0 : Bool → Option Bool) (ag3 : (Bool × Int) → Option Bool) (s : (Bool × Int)) : Option Bool := l16_0_b d l1 l2 kx16_0_0 ag3 s.1 s.2
theorem e16 (d : Nat) (l1 : List Int) (l2 : List Int) : g16 (d + 1) l1 l2 =
 oif ((((l1.length : Nat) : Int) : Int) != ((l2.length : Nat) : Int)) (
 some false) (
 iterP (l16_0 d l1 l2 (j16_0 d)) fuelN (false, 0)) := by kernel_rfl

noncomputable def j289_0 (d : Nat) (x1 : ((List Int) × Int × Int)) (n2 : Int) : Option (Int × ((List Int) × Int × Int)) :=
 oif (decide (((IntKind.i64.wrap (x1.2.1 + 1)) : Int) ≤ ((x1.1.length : Nat) : Int))) (
 some (n2, (x1.1, (IntKind.i64.wrap (x1.2.1 + 1)), (IntKind.u64.wrap ((IntKind.u64.wrap ((IntKind.u64.wrap (x1.2.2 * 6364136223846793005)) + (IntKind.u64.wrap n2))) + 1442695040888963407))))) (
 some ((IntKind.i64.wrap (IntKind.u64.wrap ((BitVec.ofInt IntKind.u64.bits ((IntKind.u64.wrap ((IntKind.u64.wrap ((IntKind.u64.wrap (x1.2.2 * 6364136223846793005)) + (IntKind.u64.wrap n2))) + 1442695040888963407)).fdiv (2 ^ (min (40 : Int).toNat IntKind.u64.bits))) &&& BitVec.ofInt IntKind.u64.bits 255).toNat : Int))), (x1.1, (IntKind.i64.wrap (x1.2.1 + 1)), (IntKind.u64.wrap ((IntKind.u64.wrap ((IntKind.u64.wrap (x1.2.2 * 6364136223846793005)) + (IntKind.u64.wrap n2))) + 1442695040888963407)))))
theorem e289 (d : Nat) (x1 : ((List Int) × Int × Int)) : g289 (d + 1) x1 =
 oif (decide ((x1.2.1 : Int) < ((x1.1.length : Nat) : Int))) (
 oif (decide (0 ≤ (x1.2.1 : Int))) (
 obind (x1.1[(x1.2.1 : Int).toNat]?) fun n2 =>
 j289_0 d x1 (IntKind.i64.wrap n2)) none) (
 j289_0 d x1 0) := by kernel_rfl

theorem e177 (d : Nat) (x1 : ((List Int) × Int × Int)) (n2 : Int) : g177 (d + 1) x1 n2 =
 oif (decide ((n2 : Int) ≤ 1)) (
 some (0, x1)) (
 obind (g289 d x1) fun r3 =>
 oif (decide ((n2 : Int) > 200)) (
 obind (g289 d r3.2) fun r4 =>
 oif ((n2 : Int) == 0) none (
 some (((IntKind.i64.wrap ((IntKind.i64.wrap (r3.1 * 256)) + r4.1)).tmod n2), r4.2))) (
 oif ((n2 : Int) == 0) none (
 some ((r3.1.tmod n2), r3.2)))) := by kernel_rfl

theorem e158 (d : Nat) (x1 : ((List Int) × Int × Int)) (l2 : List Int) : g158 (d + 1) x1 l2 =
 obind (g177 d x1 ((l2.length : Nat) : Int)) fun r3 =>
 oif (decide (0 ≤ (r3.1 : Int))) (
 obind (l2[(r3.1 : Int).toNat]?) fun n4 =>
 some (n4, r3.2)) none := by kernel_rfl

noncomputable def j192_0 (d : Nat) (r2 : (Int × ((List Int) × Int × Int))) (r5 : (Int × ((List Int) × Int × Int))) (n9 : Int) (n10 : Int) (l11 : List Int) (n12 : Int) (n13 : Int) : Option ((Int × Int × Int × Int) × ((List Int) × Int × Int)) :=
 some ((r2.1, (IntKind.i64.wrap ((IntKind.i64.wrap (r2.1 + 1)) + r5.1)), n9, n10), (l11, n12, n13))
theorem e192 (d : Nat) (x1 : ((List Int) × Int × Int)) : g192 (d + 1) x1 =
 obind (g177 d x1 6) fun r2 =>
 obind (g158 d r2.2 [1, 8, 64, 128, 256]) fun r3 =>
 obind (g158 d r3.2 [1, 20, 100, 500, 1000]) fun r4 =>
 obind (g177 d r4.2 8) fun r5 =>
 obind (g177 d r5.2 24) fun r6 =>
 oif ((r6.1 : Int) == 0) (
 obind (g158 d r6.2 [(-1), 0, (IntKind.i64.wrap ((IntKind.i64.wrap ((IntKind.i64.wrap (r2.1 + 1)) + r5.1)) - 1)), (IntKind.i64.wrap ((IntKind.i64.wrap (r2.1 + 1)) + r5.1))]) fun r7 =>
 some ((r7.1, (IntKind.i64.wrap ((IntKind.i64.wrap (r2.1 + 1)) + r5.1)), r3.1, r4.1), r7.2)) (
 oif ((r6.1 : Int) == 1) (
 obind (g158 d r6.2 [60, 61, r2.1]) fun r8 =>
 some ((r2.1, r8.1, r3.1, r4.1), r8.2)) (
 oif ((r6.1 : Int) == 2) (
 obind (g158 d r6.2 [0, 257]) fun r9 =>
 j192_0 d r2 r5 r9.1 r4.1 r9.2.1 r9.2.2.1 r9.2.2.2) (
 oif ((r6.1 : Int) == 3) (
 obind (g158 d r6.2 [0, 1001]) fun r10 =>
 j192_0 d r2 r5 r3.1 r10.1 r10.2.1 r10.2.2.1 r10.2.2.2) (
 j192_0 d r2 r5 r3.1 r4.1 r6.2.1 r6.2.2.1 r6.2.2.2)))) := by kernel_rfl

theorem e193 (d : Nat) (x1 : ((List Int) × Int × Int)) : g193 (d + 1) x1 =
 obind (g177 d x1 4000) fun r2 =>
 obind (g177 d r2.2 4000) fun r3 =>
 obind (g177 d r3.2 4000) fun r4 =>
 obind (g158 d r4.2 [0, 1, 255, 256, 512, 1000, 1024, 1535, 2560, 15360, 15361, (-1), r2.1, r3.1, r4.1]) fun r5 =>
 some (r5.1, r5.2) := by kernel_rfl

theorem e51 (d : Nat) (l1 : List Int) : g51 (d + 1) l1 =
 obind (g192 d (l1, 0, 0)) fun r2 =>
 obind (g193 d r2.2) fun r3 =>
 obind (g158 d r3.2 [0, 1, 5, 10, 100, 1000, 1001, (-1)]) fun r4 =>
 some (r2.1, r3.1, r4.1) := by kernel_rfl

theorem e194 (d : Nat) (x1 : (Int × Int × Int × Int)) : g194 (d + 1) x1 =
 oif (decide ((x1.1 : Int) ≥ 0)) (
 oif (decide ((x1.1 : Int) < x1.2.1)) (
 oif (decide ((x1.2.1 : Int) ≤ 60)) (
 oif (decide ((x1.2.2.1 : Int) ≥ 1)) (
 oif (decide ((x1.2.2.1 : Int) ≤ 256)) (
 oif (decide ((x1.2.2.2 : Int) ≥ 1)) (
 some (decide ((x1.2.2.2 : Int) ≤ 1000))) (
 some false)) (
 some false)) (
 some false)) (
 some false)) (
 some false)) (
 some false) := by kernel_rfl

theorem e195 (d : Nat) (n1 : Int) : g195 (d + 1) n1 =
 oif (decide ((n1 : Int) ≥ 0)) (
 some (decide ((n1 : Int) ≤ 15360))) (
 some false) := by kernel_rfl

theorem e196 (d : Nat) (n1 : Int) : g196 (d + 1) n1 =
 oif (decide ((n1 : Int) ≥ 0)) (
 some (decide ((n1 : Int) ≤ 1000))) (
 some false) := by kernel_rfl

noncomputable def j291_0 (d : Nat)  (n4 : Int) : Option Int :=
 some n4
noncomputable def l291_0_b (d : Nat)  (kx291_0_0 : Int → Option Int) (ag3 : (Int × Int) → Option Int) (n4 : Int) (n5 : Int) : Option Int :=
 oif ((n5 : Int) != 0) (
 oif ((n5 : Int) == 0) none (
 ag3 (n5, (n4.tmod n5)))) (
 kx291_0_0 n4)
noncomputable def l291_0 (d : Nat)  (kx291_0_0 : Int → Option Int) (ag3 : (Int × Int) → Option Int) (s : (Int × Int)) : Option Int := l291_0_b d kx291_0_0 ag3 s.1 s.2
theorem e291 (d : Nat) (n1 : Int) (n2 : Int) : g291 (d + 1) n1 n2 =
 iterP (l291_0 d (j291_0 d)) fuelN (n1, n2) := by kernel_rfl

theorem e197 (d : Nat) (x1 : (Int × Int × Int × Int)) (n2 : Int) (n3 : Int) : g197 (d + 1) x1 n2 n3 =
 oif (decide ((n2 : Int) < (IntKind.i64.wrap ((256 : Int) * x1.1)))) (
 some (0, 1)) (
 oif (decide ((n2 : Int) ≥ (IntKind.i64.wrap ((256 : Int) * x1.2.1)))) (
 some (1, 1)) (
 oif (decide (((IntKind.i64.wrap (x1.2.2.2 * (IntKind.i64.wrap (n2 - (IntKind.i64.wrap ((256 : Int) * x1.1)))))) : Int) ≥ (IntKind.i64.wrap ((IntKind.i64.wrap ((256000 : Int) * (IntKind.i64.wrap (x1.2.1 - x1.1)))) - (IntKind.i64.wrap (n3 * (IntKind.i64.wrap (x1.2.2.2 * (IntKind.i64.wrap (n2 - (IntKind.i64.wrap ((256 : Int) * x1.1)))))))))))) (
 some (1, 1)) (
 obind (g291 d (IntKind.i64.wrap (x1.2.2.2 * (IntKind.i64.wrap (n2 - (IntKind.i64.wrap ((256 : Int) * x1.1)))))) (IntKind.i64.wrap ((IntKind.i64.wrap ((256000 : Int) * (IntKind.i64.wrap (x1.2.1 - x1.1)))) - (IntKind.i64.wrap (n3 * (IntKind.i64.wrap (x1.2.2.2 * (IntKind.i64.wrap (n2 - (IntKind.i64.wrap ((256 : Int) * x1.1))))))))))) fun r4 =>
 oif ((r4 : Int) == 0) none (
 oif ((r4 : Int) == 0) none (
 some ((IntKind.i64.wrap ((IntKind.i64.wrap (x1.2.2.2 * (IntKind.i64.wrap (n2 - (IntKind.i64.wrap ((256 : Int) * x1.1)))))).tdiv r4)), (IntKind.i64.wrap ((IntKind.i64.wrap ((IntKind.i64.wrap ((256000 : Int) * (IntKind.i64.wrap (x1.2.1 - x1.1)))) - (IntKind.i64.wrap (n3 * (IntKind.i64.wrap (x1.2.2.2 * (IntKind.i64.wrap (n2 - (IntKind.i64.wrap ((256 : Int) * x1.1)))))))))).tdiv r4)))))))) := by kernel_rfl

theorem e52 (d : Nat) (x1 : (Int × Int × Int × Int)) (n2 : Int) (n3 : Int) : g52 (d + 1) x1 n2 n3 =
 obind (g194 d x1) fun r4 =>
 oif (!r4) (
 some (0, 0, false)) (
 obind (g195 d n2) fun r5 =>
 oif (!r5) (
 some (0, 0, false)) (
 obind (g196 d n3) fun r6 =>
 oif (!r6) (
 some (0, 0, false)) (
 obind (g197 d x1 n2 n3) fun r7 =>
 some (r7.1, r7.2, true)))) := by kernel_rfl

theorem e179 (d : Nat) (n1 : Int) (n2 : Int) (n3 : Int) : g179 (d + 1) n1 n2 n3 =
 oif (decide ((n1 : Int) ≥ n2)) (
 some (decide ((n1 : Int) ≤ n3))) (
 some false) := by kernel_rfl

theorem e198 (d : Nat) (x1 : (Int × Int × Int × Int)) : g198 (d + 1) x1 =
 obind (g179 d x1.2.1 1 60) fun r2 =>
 oif r2 (
 obind (g179 d x1.1 0 (IntKind.i64.wrap (x1.2.1 - 1))) fun r3 =>
 oif r3 (
 obind (g179 d x1.2.2.1 1 256) fun r4 =>
 oif r4 (
 obind (g179 d x1.2.2.2 1 1000) fun r5 =>
 some r5) (
 some false)) (
 some false)) (
 some false) := by kernel_rfl

theorem e199 (d : Nat) (n1 : Int) : g199 (d + 1) n1 =
 obind (g179 d n1 0 15360) fun r2 =>
 some r2 := by kernel_rfl

theorem e200 (d : Nat) (n1 : Int) : g200 (d + 1) n1 =
 obind (g179 d n1 0 1000) fun r2 =>
 some r2 := by kernel_rfl

noncomputable def j292_0 (d : Nat)  (n4 : Int) : Option Int :=
 some n4
noncomputable def l292_0_b (d : Nat)  (kx292_0_0 : Int → Option Int) (ag3 : (Int × Int) → Option Int) (n4 : Int) (n5 : Int) : Option Int :=
 oif (decide ((n5 : Int) > 0)) (
 oif ((n5 : Int) == 0) none (
 ag3 (n5, (n4.tmod n5)))) (
 kx292_0_0 n4)
noncomputable def l292_0 (d : Nat)  (kx292_0_0 : Int → Option Int) (ag3 : (Int × Int) → Option Int) (s : (Int × Int)) : Option Int := l292_0_b d kx292_0_0 ag3 s.1 s.2
theorem e292 (d : Nat) (n1 : Int) (n2 : Int) : g292 (d + 1) n1 n2 =
 iterP (l292_0 d (j292_0 d)) fuelN (n1, n2) := by kernel_rfl

noncomputable def j201_0 (d : Nat) (x1 : (Int × Int × Int × Int)) (n2 : Int) (n3 : Int) (b4 : Bool) : Option (Int × Int) :=
 oif b4 (
 some (1, 1)) (
 obind (g292 d (IntKind.i64.wrap ((IntKind.i64.wrap ((256000 : Int) * (IntKind.i64.wrap (x1.2.1 - x1.1)))) - (IntKind.i64.wrap (n3 * (IntKind.i64.wrap (x1.2.2.2 * (IntKind.i64.wrap (n2 - (IntKind.i64.wrap ((256 : Int) * x1.1)))))))))) (IntKind.i64.wrap (x1.2.2.2 * (IntKind.i64.wrap (n2 - (IntKind.i64.wrap ((256 : Int) * x1.1))))))) fun r5 =>
 oif ((r5 : Int) == 0) none (
 oif ((r5 : Int) == 0) none (
 some ((IntKind.i64.wrap ((IntKind.i64.wrap (x1.2.2.2 * (IntKind.i64.wrap (n2 - (IntKind.i64.wrap ((256 : Int) * x1.1)))))).tdiv r5)), (IntKind.i64.wrap ((IntKind.i64.wrap ((IntKind.i64.wrap ((256000 : Int) * (IntKind.i64.wrap (x1.2.1 - x1.1)))) - (IntKind.i64.wrap (n3 * (IntKind.i64.wrap (x1.2.2.2 * (IntKind.i64.wrap (n2 - (IntKind.i64.wrap ((256 : Int) * x1.1)))))))))).tdiv r5))))))
theorem e201 (d : Nat) (x1 : (Int × Int × Int × Int)) (n2 : Int) (n3 : Int) : g201 (d + 1) x1 n2 n3 =
 oif (decide ((n2 : Int) < (IntKind.i64.wrap ((256 : Int) * x1.1)))) (
 some (0, 1)) (
 oif (decide ((n2 : Int) ≥ (IntKind.i64.wrap ((256 : Int) * x1.2.1)))) (
 some (1, 1)) (
 oif (decide (((IntKind.i64.wrap ((IntKind.i64.wrap ((256000 : Int) * (IntKind.i64.wrap (x1.2.1 - x1.1)))) - (IntKind.i64.wrap (n3 * (IntKind.i64.wrap (x1.2.2.2 * (IntKind.i64.wrap (n2 - (IntKind.i64.wrap ((256 : Int) * x1.1)))))))))) : Int) ≤ 0)) (
 j201_0 d x1 n2 n3 true) (
 j201_0 d x1 n2 n3 (decide (((IntKind.i64.wrap (x1.2.2.2 * (IntKind.i64.wrap (n2 - (IntKind.i64.wrap ((256 : Int) * x1.1)))))) : Int) > (IntKind.i64.wrap ((IntKind.i64.wrap ((256000 : Int) * (IntKind.i64.wrap (x1.2.1 - x1.1)))) - (IntKind.i64.wrap (n3 * (IntKind.i64.wrap (x1.2.2.2 * (IntKind.i64.wrap (n2 - (IntKind.i64.wrap ((256 : Int) * x1.1))))))))))))))) := by kernel_rfl

theorem e53 (d : Nat) (x1 : (Int × Int × Int × Int)) (n2 : Int) (n3 : Int) : g53 (d + 1) x1 n2 n3 =
 obind (g198 d x1) fun r4 =>
 oif (!r4) (
 some (0, 0, false)) (
 obind (g199 d n2) fun r5 =>
 oif (!r5) (
 some (0, 0, false)) (
 obind (g200 d n3) fun r6 =>
 oif (!r6) (
 some (0, 0, false)) (
 obind (g201 d x1 n2 n3) fun r7 =>
 some (r7.1, r7.2, true)))) := by kernel_rfl

noncomputable def j202_0 (d : Nat)  (l4 : List Int) (n5 : Int) (n6 : Int) (l7 : List Int) : Option ((List Int) × ((List Int) × Int × Int)) :=
 obind (g177 d (l4, n5, n6) 20) fun r8 =>
 oif ((r8.1 : Int) == 0) (
 obind (g158 d r8.2 [(-1), 61]) fun r9 =>
 oif (Nat.ble ((l7.length + [r9.1].length) * 8) roomMax) (
 some ((l7 ++ [r9.1]), r9.2)) none) (
 oif ((r8.1 : Int) == 1) (
 obind (g177 d r8.2 2) fun r10 =>
 oif (decide (0 ≤ ((IntKind.i64.wrap ((60 : Int) + r10.1)) : Int))) (
 oif (decide (0 ≤ ((IntKind.i64.wrap ((60 : Int) + r10.1)) : Int))) (
 oif (Nat.ble (((IntKind.i64.wrap ((60 : Int) + r10.1)) : Int).toNat) (((IntKind.i64.wrap ((60 : Int) + r10.1)) : Int).toNat) && Nat.ble ((((IntKind.i64.wrap ((60 : Int) + r10.1)) : Int).toNat) * 8) roomMax) (
 some ((List.replicate (((IntKind.i64.wrap ((60 : Int) + r10.1)) : Int).toNat) (0 : Int)), r10.2)) none) none) none) (
 some (l7, r8.2)))
noncomputable def l202_0_b (d : Nat)  (kx202_0_0 : (List Int) → Int → Int → (List Int) → Option ((List Int) × ((List Int) × Int × Int))) (ag3 : ((List Int) × Int × ((List Int) × Int × Int)) → Option ((List Int) × ((List Int) × Int × Int))) (l4 : List Int) (n5 : Int) (x6 : ((List Int) × Int × Int)) : Option ((List Int) × ((List Int) × Int × Int)) :=
 oif (decide ((n5 : Int) > 0)) (
 obind (g158 d x6 [0, 1, 2, 4, 6, 10, 20, 60]) fun r7 =>
 oif (Nat.ble ((l4.length + [r7.1].length) * 8) roomMax) (
 ag3 ((l4 ++ [r7.1]), (IntKind.i64.wrap (n5 - 1)), r7.2)) none) (
 kx202_0_0 x6.1 x6.2.1 x6.2.2 l4)
noncomputable def l202_0 (d : Nat)  (kx202_0_0 : (List Int) → Int → Int → (List Int) → Option ((List Int) × ((List Int) × Int × Int))) (ag3 : ((List Int) × Int × ((List Int) × Int × Int)) → Option ((List Int) × ((List Int) × Int × Int))) (s : ((List Int) × Int × ((List Int) × Int × Int))) : Option ((List Int) × ((List Int) × Int × Int)) := l202_0_b d kx202_0_0 ag3 s.1 s.2.1 s.2.2
theorem e202 (d : Nat) (x1 : ((List Int) × Int × Int)) : g202 (d + 1) x1 =
 obind (g177 d x1 12) fun r2 =>
 iterP (l202_0 d (j202_0 d)) fuelN ([], r2.1, r2.2) := by kernel_rfl

theorem e54 (d : Nat) (l1 : List Int) : g54 (d + 1) l1 =
 obind (g192 d (l1, 0, 0)) fun r2 =>
 obind (g193 d r2.2) fun r3 =>
 obind (g202 d r3.2) fun r4 =>
 obind (g177 d r4.2 60000) fun r5 =>
 obind (g177 d r5.2 60000) fun r6 =>
 obind (g177 d r6.2 60000) fun r7 =>
 obind (g158 d r7.2 [0, (-1), r5.1, r6.1, r7.1]) fun r8 =>
 some (r2.1, r3.1, r4.1, r8.1) := by kernel_rfl

theorem e293 (d : Nat) (n1 : Int) : g293 (d + 1) n1 =
 oif (decide ((n1 : Int) ≥ 0)) (
 some (decide ((n1 : Int) ≤ 60))) (
 some false) := by kernel_rfl

noncomputable def j203_0 (d : Nat) (l1 : List Int) (b3 : Bool) : Option Bool :=
 some (decide ((((l1.length : Nat) : Int) : Int) ≤ 60))
noncomputable def l203_0_b (d : Nat) (l1 : List Int) (kx203_0_0 : Bool → Option Bool) (ag2 : (Bool × Int) → Option Bool) (b3 : Bool) (n4 : Int) : Option Bool :=
 oif (decide ((n4 : Int) < ((l1.length : Nat) : Int))) (
 oif (decide (0 ≤ (n4 : Int))) (
 obind (l1[(n4 : Int).toNat]?) fun n5 =>
 obind (g293 d n5) fun r6 =>
 oif (!r6) (
 some false) (
 ag2 (b3, (IntKind.i64.wrap (n4 + 1))))) none) (
 kx203_0_0 b3)
noncomputable def l203_0 (d : Nat) (l1 : List Int) (kx203_0_0 : Bool → Option Bool) (ag2 : (Bool × Int) → Option Bool) (s : (Bool × Int)) : Option Bool := l203_0_b d l1 kx203_0_0 ag2 s.1 s.2
theorem e203 (d : Nat) (l1 : List Int) : g203 (d + 1) l1 =
 iterP (l203_0 d l1 (j203_0 d l1)) fuelN (false, 0) := by kernel_rfl

theorem e204 (d : Nat) (n1 : Int) : g204 (d + 1) n1 =
 oif (decide ((n1 : Int) ≥ 0)) (
 some (decide ((n1 : Int) ≤ 1000000000))) (
 some false) := by kernel_rfl

theorem e205 (d : Nat) (x1 : (Int × Int × Int × Int)) (n2 : Int) (n3 : Int) : g205 (d + 1) x1 n2 n3 =
 some (IntKind.i64.wrap (n2 + ((IntKind.i64.wrap (x1.2.2.1 * (IntKind.i64.wrap ((IntKind.i64.wrap ((256 : Int) * n3)) - n2)))).fdiv (2 ^ (min (8 : Int).toNat IntKind.i64.bits))))) := by kernel_rfl

noncomputable def j214_0 (d : Nat)  (n4 : Int) : Option Int :=
 some n4
noncomputable def l214_0_b (d : Nat) (n1 : Int) (n2 : Int) (kx214_0_0 : Int → Option Int) (ag3 : (Int × Int) → Option Int) (n4 : Int) (n5 : Int) : Option Int :=
 oif (decide ((n5 : Int) < 3)) (
 oif (decide (0 ≤ (n5 : Int))) (
 obind (([n1, n2, 20] : List Int)[(n5 : Int).toNat]?) fun n6 =>
 ag3 (((IntKind.i64.wrap (((IntKind.i64.wrap ((IntKind.i64.wrap ((IntKind.i64.wrap ((25 : Int) * n4)) + n6)) + 1)).tmod 1000003) * (IntKind.i64.wrap ((IntKind.i64.wrap (((IntKind.i64.wrap ((IntKind.i64.wrap ((IntKind.i64.wrap ((25 : Int) * n4)) + n6)) + 1)).tmod 1000003).tdiv 16)) + 3)))).tmod 1000003), (IntKind.i64.wrap (n5 + 1)))) none) (
 kx214_0_0 n4)
noncomputable def l214_0 (d : Nat) (n1 : Int) (n2 : Int) (kx214_0_0 : Int → Option Int) (ag3 : (Int × Int) → Option Int) (s : (Int × Int)) : Option Int := l214_0_b d n1 n2 kx214_0_0 ag3 s.1 s.2
theorem e214 (d : Nat) (n1 : Int) (n2 : Int) : g214 (d + 1) n1 n2 =
 iterP (l214_0 d n1 n2 (j214_0 d)) fuelN (7919, 0) := by kernel_rfl

theorem e206 (d : Nat) (x1 : (Int × Int × Int × Int)) (n2 : Int) (n3 : Int) (n4 : Int) (n5 : Int) : g206 (d + 1) x1 n2 n3 n4 n5 =
 oif (decide ((n2 : Int) ≥ (IntKind.i64.wrap ((256 : Int) * x1.2.1)))) (
 some 2) (
 obind (g197 d x1 n2 n3) fun r6 =>
 obind (g214 d n4 n5) fun r7 =>
 oif (decide (((IntKind.i64.wrap (r7 * r6.2)) : Int) < (IntKind.i64.wrap ((1000003 : Int) * r6.1)))) (
 some 1) (
 some 0)) := by kernel_rfl

noncomputable def j55_0 (d : Nat)  (l7 : List Int) : Option ((List Int) × Bool) :=
 some (l7, true)
noncomputable def l55_0_b (d : Nat) (x1 : (Int × Int × Int × Int)) (l3 : List Int) (n4 : Int) (kx55_0_0 : (List Int) → Option ((List Int) × Bool)) (ag6 : (Int × (List Int) × Int × Int) → Option ((List Int) × Bool)) (n7 : Int) (l8 : List Int) (n9 : Int) (n10 : Int) : Option ((List Int) × Bool) :=
 oif (decide ((n10 : Int) < ((l3.length : Nat) : Int))) (
 oif (decide (0 ≤ (n10 : Int))) (
 obind (l3[(n10 : Int).toNat]?) fun n11 =>
 obind (g205 d x1 n7 n11) fun r12 =>
 obind (g206 d x1 r12 n9 n4 n10) fun r13 =>
 oif (Nat.ble ((l8.length + [r13].length) * 8) roomMax) (
 oif ((r13 : Int) != 0) (
 ag6 (r12, (l8 ++ [r13]), 0, (IntKind.i64.wrap (n10 + 1)))) (
 ag6 (r12, (l8 ++ [r13]), (IntKind.i64.wrap (n9 + 1)), (IntKind.i64.wrap (n10 + 1))))) none) none) (
 kx55_0_0 l8)
noncomputable def l55_0 (d : Nat) (x1 : (Int × Int × Int × Int)) (l3 : List Int) (n4 : Int) (kx55_0_0 : (List Int) → Option ((List Int) × Bool)) (ag6 : (Int × (List Int) × Int × Int) → Option ((List Int) × Bool)) (s : (Int × (List Int) × Int × Int)) : Option ((List Int) × Bool) := l55_0_b d x1 l3 n4 kx55_0_0 ag6 s.1 s.2.1 s.2.2.1 s.2.2.2
noncomputable def j55_1 (d : Nat) (x1 : (Int × Int × Int × Int)) (n2 : Int) (l3 : List Int) (n4 : Int) (b5 : Bool) : Option ((List Int) × Bool) :=
 oif b5 (
 some ([], false)) (
 iterP (l55_0 d x1 l3 n4 (j55_0 d)) fuelN (n2, ([] : List Int), 0, 0))
theorem e55 (d : Nat) (x1 : (Int × Int × Int × Int)) (n2 : Int) (l3 : List Int) (n4 : Int) : g55 (d + 1) x1 n2 l3 n4 =
 obind (g194 d x1) fun r5 =>
 oif (!r5) (
 j55_1 d x1 n2 l3 n4 true) (
 obind (g195 d n2) fun r6 =>
 oif (!r6) (
 j55_1 d x1 n2 l3 n4 true) (
 obind (g203 d l3) fun r7 =>
 oif (!r7) (
 j55_1 d x1 n2 l3 n4 true) (
 obind (g204 d n4) fun r8 =>
 j55_1 d x1 n2 l3 n4 (!r8)))) := by kernel_rfl

noncomputable def j228_0 (d : Nat)  (b5 : Bool) : Option Bool :=
 some true
noncomputable def l228_0_b (d : Nat) (l1 : List Int) (n2 : Int) (n3 : Int) (kx228_0_0 : Bool → Option Bool) (ag4 : (Bool × Int) → Option Bool) (b5 : Bool) (n6 : Int) : Option Bool :=
 oif (decide ((n6 : Int) < ((l1.length : Nat) : Int))) (
 oif (decide (0 ≤ (n6 : Int))) (
 obind (l1[(n6 : Int).toNat]?) fun n7 =>
 obind (g179 d n7 n2 n3) fun r8 =>
 oif (!r8) (
 some false) (
 ag4 (b5, (IntKind.i64.wrap (n6 + 1))))) none) (
 kx228_0_0 b5)
noncomputable def l228_0 (d : Nat) (l1 : List Int) (n2 : Int) (n3 : Int) (kx228_0_0 : Bool → Option Bool) (ag4 : (Bool × Int) → Option Bool) (s : (Bool × Int)) : Option Bool := l228_0_b d l1 n2 n3 kx228_0_0 ag4 s.1 s.2
theorem e228 (d : Nat) (l1 : List Int) (n2 : Int) (n3 : Int) : g228 (d + 1) l1 n2 n3 =
 iterP (l228_0 d l1 n2 n3 (j228_0 d)) fuelN (false, 0) := by kernel_rfl

theorem e207 (d : Nat) (l1 : List Int) : g207 (d + 1) l1 =
 oif (decide ((((l1.length : Nat) : Int) : Int) ≤ 60)) (
 obind (g228 d l1 0 60) fun r2 =>
 some r2) (
 some false) := by kernel_rfl

theorem e208 (d : Nat) (n1 : Int) (n2 : Int) : g208 (d + 1) n1 n2 =
 obind (g179 d n1 0 1000000000) fun r3 =>
 oif r3 (
 obind (g179 d n2 0 1000) fun r4 =>
 some r4) (
 some false) := by kernel_rfl

theorem e209 (d : Nat) (x1 : (Int × Int × Int × Int)) (n2 : Int) (n3 : Int) : g209 (d + 1) x1 n2 n3 =
 oif (decide ((((IntKind.i64.wrap (x1.2.2.1 * (IntKind.i64.wrap ((IntKind.i64.wrap ((256 : Int) * n3)) - n2)))).tmod 256) : Int) < 0)) (
 some (IntKind.i64.wrap (n2 + (IntKind.i64.wrap ((IntKind.i64.wrap ((IntKind.i64.wrap (x1.2.2.1 * (IntKind.i64.wrap ((IntKind.i64.wrap ((256 : Int) * n3)) - n2)))).tdiv 256)) - 1))))) (
 some (IntKind.i64.wrap (n2 + (IntKind.i64.wrap ((IntKind.i64.wrap (x1.2.2.1 * (IntKind.i64.wrap ((IntKind.i64.wrap ((256 : Int) * n3)) - n2)))).tdiv 256))))) := by kernel_rfl

noncomputable def j215_0 (d : Nat)  (n4 : Int) : Option Int :=
 some n4
noncomputable def l215_0_b (d : Nat) (n1 : Int) (n2 : Int) (kx215_0_0 : Int → Option Int) (ag3 : (Int × Int) → Option Int) (n4 : Int) (n5 : Int) : Option Int :=
 oif (decide ((n5 : Int) < (([n1, n2, 20].length : Nat) : Int))) (
 oif (decide (0 ≤ (n5 : Int))) (
 oif (Nat.blt ((n5 : Int).toNat) ([n1, n2, 20].length)) (
 obind ([n1, n2, 20][(n5 : Int).toNat]?) fun n6 =>
 ag3 (((IntKind.i64.wrap (((IntKind.i64.wrap ((IntKind.i64.wrap ((IntKind.i64.wrap ((25 : Int) * n4)) + n6)) + 1)).tmod 1000003) * (IntKind.i64.wrap ((IntKind.i64.wrap (((IntKind.i64.wrap ((IntKind.i64.wrap ((IntKind.i64.wrap ((25 : Int) * n4)) + n6)) + 1)).tmod 1000003).tdiv 16)) + 3)))).tmod 1000003), (IntKind.i64.wrap (n5 + 1)))) none) none) (
 kx215_0_0 n4)
noncomputable def l215_0 (d : Nat) (n1 : Int) (n2 : Int) (kx215_0_0 : Int → Option Int) (ag3 : (Int × Int) → Option Int) (s : (Int × Int)) : Option Int := l215_0_b d n1 n2 kx215_0_0 ag3 s.1 s.2
theorem e215 (d : Nat) (n1 : Int) (n2 : Int) : g215 (d + 1) n1 n2 =
 iterP (l215_0 d n1 n2 (j215_0 d)) fuelN (7919, 0) := by kernel_rfl

theorem e210 (d : Nat) (x1 : (Int × Int × Int × Int)) (n2 : Int) (n3 : Int) (n4 : Int) (n5 : Int) : g210 (d + 1) x1 n2 n3 n4 n5 =
 oif (decide ((n2 : Int) ≥ (IntKind.i64.wrap ((256 : Int) * x1.2.1)))) (
 some 2) (
 obind (g201 d x1 n2 n3) fun r6 =>
 obind (g215 d n4 n5) fun r7 =>
 oif (decide (((IntKind.i64.wrap (r7 * r6.2)) : Int) < (IntKind.i64.wrap ((1000003 : Int) * r6.1)))) (
 some 1) (
 some 0)) := by kernel_rfl

noncomputable def j56_0 (d : Nat)  (l7 : List Int) : Option ((List Int) × Bool) :=
 some (l7, true)
noncomputable def l56_0_b (d : Nat) (x1 : (Int × Int × Int × Int)) (l3 : List Int) (n4 : Int) (kx56_0_0 : (List Int) → Option ((List Int) × Bool)) (ag6 : (Int × (List Int) × Int × Int) → Option ((List Int) × Bool)) (n7 : Int) (l8 : List Int) (n9 : Int) (n10 : Int) : Option ((List Int) × Bool) :=
 oif (decide ((n10 : Int) < ((l3.length : Nat) : Int))) (
 oif (decide (0 ≤ (n10 : Int))) (
 obind (l3[(n10 : Int).toNat]?) fun n11 =>
 obind (g209 d x1 n7 n11) fun r12 =>
 obind (g210 d x1 r12 n9 n4 n10) fun r13 =>
 oif (decide ((r13 : Int) > 0)) (
 oif (Nat.ble ((l8.length + [r13].length) * 8) roomMax) (
 ag6 (r12, (l8 ++ [r13]), 0, (IntKind.i64.wrap (n10 + 1)))) none) (
 oif (Nat.ble ((l8.length + [r13].length) * 8) roomMax) (
 ag6 (r12, (l8 ++ [r13]), (IntKind.i64.wrap (n9 + 1)), (IntKind.i64.wrap (n10 + 1)))) none)) none) (
 kx56_0_0 l8)
noncomputable def l56_0 (d : Nat) (x1 : (Int × Int × Int × Int)) (l3 : List Int) (n4 : Int) (kx56_0_0 : (List Int) → Option ((List Int) × Bool)) (ag6 : (Int × (List Int) × Int × Int) → Option ((List Int) × Bool)) (s : (Int × (List Int) × Int × Int)) : Option ((List Int) × Bool) := l56_0_b d x1 l3 n4 kx56_0_0 ag6 s.1 s.2.1 s.2.2.1 s.2.2.2
noncomputable def j56_1 (d : Nat) (x1 : (Int × Int × Int × Int)) (n2 : Int) (l3 : List Int) (n4 : Int) (b5 : Bool) : Option ((List Int) × Bool) :=
 oif b5 (
 some ([], false)) (
 iterP (l56_0 d x1 l3 n4 (j56_0 d)) fuelN (n2, [], 0, 0))
theorem e56 (d : Nat) (x1 : (Int × Int × Int × Int)) (n2 : Int) (l3 : List Int) (n4 : Int) : g56 (d + 1) x1 n2 l3 n4 =
 obind (g198 d x1) fun r5 =>
 oif (!r5) (
 j56_1 d x1 n2 l3 n4 true) (
 obind (g199 d n2) fun r6 =>
 oif (!r6) (
 j56_1 d x1 n2 l3 n4 true) (
 obind (g207 d l3) fun r7 =>
 oif (!r7) (
 j56_1 d x1 n2 l3 n4 true) (
 obind (g208 d n4 0) fun r8 =>
 j56_1 d x1 n2 l3 n4 (!r8)))) := by kernel_rfl

noncomputable def j57_0 (d : Nat)  (l6 : List Int) : Option ((List Int) × Bool) :=
 some (l6, true)
noncomputable def l57_0_b (d : Nat) (x1 : (Int × Int × Int × Int)) (l3 : List Int) (kx57_0_0 : (List Int) → Option ((List Int) × Bool)) (ag5 : (Int × (List Int) × Int) → Option ((List Int) × Bool)) (n6 : Int) (l7 : List Int) (n8 : Int) : Option ((List Int) × Bool) :=
 oif (decide ((n8 : Int) < ((l3.length : Nat) : Int))) (
 oif (decide (0 ≤ (n8 : Int))) (
 obind (l3[(n8 : Int).toNat]?) fun n9 =>
 obind (g205 d x1 n6 n9) fun r10 =>
 oif (Nat.ble ((l7.length + [r10].length) * 8) roomMax) (
 ag5 (r10, (l7 ++ [r10]), (IntKind.i64.wrap (n8 + 1)))) none) none) (
 kx57_0_0 l7)
noncomputable def l57_0 (d : Nat) (x1 : (Int × Int × Int × Int)) (l3 : List Int) (kx57_0_0 : (List Int) → Option ((List Int) × Bool)) (ag5 : (Int × (List Int) × Int) → Option ((List Int) × Bool)) (s : (Int × (List Int) × Int)) : Option ((List Int) × Bool) := l57_0_b d x1 l3 kx57_0_0 ag5 s.1 s.2.1 s.2.2
noncomputable def j57_1 (d : Nat) (x1 : (Int × Int × Int × Int)) (n2 : Int) (l3 : List Int) (b4 : Bool) : Option ((List Int) × Bool) :=
 oif b4 (
 some ([], false)) (
 iterP (l57_0 d x1 l3 (j57_0 d)) fuelN (n2, ([] : List Int), 0))
theorem e57 (d : Nat) (x1 : (Int × Int × Int × Int)) (n2 : Int) (l3 : List Int) : g57 (d + 1) x1 n2 l3 =
 obind (g194 d x1) fun r4 =>
 oif (!r4) (
 j57_1 d x1 n2 l3 true) (
 obind (g195 d n2) fun r5 =>
 oif (!r5) (
 j57_1 d x1 n2 l3 true) (
 obind (g203 d l3) fun r6 =>
 j57_1 d x1 n2 l3 (!r6))) := by kernel_rfl

noncomputable def j58_0 (d : Nat)  (n3 : Int) (n4 : Int) (b5 : Bool) (n6 : Int) (n7 : Int) (n8 : Int) : Option (Int × Int × Bool) :=
 some (n7, n8, true)
noncomputable def j58_1 (d : Nat) (ag2 : (Int × Int × Bool × Int × (Int × Int × Int)) → Option (Int × Int × Bool)) (n3 : Int) (n4 : Int) (b5 : Bool) (n6 : Int) (x7 : (Int × Int × Int)) (n8 : Int) (b9 : Bool) (b10 : Bool) : Option (Int × Int × Bool) :=
 oif b10 (
 some (0, 0, false)) (
 oif (decide (0 ≤ (n8 : Int))) (
 oif (Nat.blt ((n8 : Int).toNat) 3) (
 obind (([x7.1, x7.2.1, x7.2.2] : List Int)[(n8 : Int).toNat]?) fun n11 =>
 oif (decide (0 ≤ (n8 : Int))) (
 oif (Nat.blt ((n8 : Int).toNat) 3) (
 obind (setV 3 (.int .i64) [x7.1, x7.2.1, x7.2.2] (n8 : Int).toNat (IntKind.i64.wrap (n11 + 1))) fun x12 =>
 ag2 (n3, n4, b5, (IntKind.i64.wrap (n6 + 1)), x12)) none) none) none) none)
noncomputable def l58_0_b (d : Nat) (l1 : List Int) (kx58_0_0 : Int → Int → Bool → Int → Int → Int → Option (Int × Int × Bool)) (ag2 : (Int × Int × Bool × Int × (Int × Int × Int)) → Option (Int × Int × Bool)) (n3 : Int) (n4 : Int) (b5 : Bool) (n6 : Int) (x7 : (Int × Int × Int)) : Option (Int × Int × Bool) :=
 oif (decide ((n6 : Int) < ((l1.length : Nat) : Int))) (
 oif (decide (0 ≤ (n6 : Int))) (
 obind (l1[(n6 : Int).toNat]?) fun n8 =>
 oif (decide ((n8 : Int) < 0)) (
 j58_1 d ag2 n3 n4 b5 n6 x7 n8 true true) (
 j58_1 d ag2 n3 n4 b5 n6 x7 n8 false (decide ((n8 : Int) > 2)))) none) (
 kx58_0_0 n3 n4 b5 x7.1 x7.2.1 x7.2.2)
noncomputable def l58_0 (d : Nat) (l1 : List Int) (kx58_0_0 : Int → Int → Bool → Int → Int → Int → Option (Int × Int × Bool)) (ag2 : (Int × Int × Bool × Int × (Int × Int × Int)) → Option (Int × Int × Bool)) (s : (Int × Int × Bool × Int × (Int × Int × Int))) : Option (Int × Int × Bool) := l58_0_b d l1 kx58_0_0 ag2 s.1 s.2.1 s.2.2.1 s.2.2.2.1 s.2.2.2.2
theorem e58 (d : Nat) (l1 : List Int) : g58 (d + 1) l1 =
 oif (decide ((((l1.length : Nat) : Int) : Int) > 60)) (
 some (0, 0, false)) (
 iterP (l58_0 d l1 (j58_0 d)) fuelN (0, 0, false, 0, (0, 0, 0))) := by kernel_rfl

noncomputable def j59_0 (d : Nat) (x1 : (Int × Int × Int × Int)) (n2 : Int) (n3 : Int) (n4 : Int) (n5 : Int) (b6 : Bool) : Option (Int × Bool) :=
 oif b6 (
 some (0, false)) (
 obind (g206 d x1 n2 n3 n4 n5) fun r7 =>
 some (r7, true))
theorem e59 (d : Nat) (x1 : (Int × Int × Int × Int)) (n2 : Int) (n3 : Int) (n4 : Int) (n5 : Int) : g59 (d + 1) x1 n2 n3 n4 n5 =
 obind (g194 d x1) fun r6 =>
 oif (!r6) (
 j59_0 d x1 n2 n3 n4 n5 true) (
 obind (g195 d n2) fun r7 =>
 oif (!r7) (
 j59_0 d x1 n2 n3 n4 n5 true) (
 obind (g196 d n3) fun r8 =>
 oif (!r8) (
 j59_0 d x1 n2 n3 n4 n5 true) (
 obind (g204 d n4) fun r9 =>
 oif (!r9) (
 j59_0 d x1 n2 n3 n4 n5 true) (
 oif (decide ((n5 : Int) < 0)) (
 j59_0 d x1 n2 n3 n4 n5 true) (
 j59_0 d x1 n2 n3 n4 n5 (decide ((n5 : Int) > 1000))))))) := by kernel_rfl

theorem e60 (d : Nat) (l1 : List Int) : g60 (d + 1) l1 =
 obind (g192 d (l1, 0, 0)) fun r2 =>
 obind (g193 d r2.2) fun r3 =>
 obind (g158 d r3.2 [0, 1, 5, 10, 100, 1000]) fun r4 =>
 obind (g177 d r4.2 60000) fun r5 =>
 obind (g177 d r5.2 60000) fun r6 =>
 obind (g177 d r6.2 60000) fun r7 =>
 obind (g158 d r7.2 [0, 1000000001, r5.1, r6.1, r7.1]) fun r8 =>
 obind (g177 d r8.2 30) fun r9 =>
 some (r2.1, r3.1, r4.1, r8.1, r9.1) := by kernel_rfl

noncomputable def j61_0 (d : Nat) (x1 : (Int × Int × Int × Int)) (n2 : Int) (n3 : Int) (n4 : Int) (n5 : Int) (b6 : Bool) : Option (Int × Bool) :=
 oif b6 (
 some (0, false)) (
 obind (g210 d x1 n2 n3 n4 n5) fun r7 =>
 some (r7, true))
theorem e61 (d : Nat) (x1 : (Int × Int × Int × Int)) (n2 : Int) (n3 : Int) (n4 : Int) (n5 : Int) : g61 (d + 1) x1 n2 n3 n4 n5 =
 obind (g198 d x1) fun r6 =>
 oif (!r6) (
 j61_0 d x1 n2 n3 n4 n5 true) (
 obind (g199 d n2) fun r7 =>
 oif (!r7) (
 j61_0 d x1 n2 n3 n4 n5 true) (
 obind (g200 d n3) fun r8 =>
 oif (!r8) (
 j61_0 d x1 n2 n3 n4 n5 true) (
 obind (g208 d n4 n5) fun r9 =>
 j61_0 d x1 n2 n3 n4 n5 (!r9)))) := by kernel_rfl

theorem e211 (d : Nat) (x1 : ((List Int) × Int × Int)) (n2 : Int) : g211 (d + 1) x1 n2 =
 obind (g177 d x1 n2) fun r3 =>
 some (((r3.1 : Int) == 0), r3.2) := by kernel_rfl

theorem e62 (d : Nat) (l1 : List Int) : g62 (d + 1) l1 =
 obind (g192 d (l1, 0, 0)) fun r2 =>
 obind (g211 d r2.2 4) fun r3 =>
 oif r3.1 (
 obind (g193 d r3.2) fun r4 =>
 some (r2.1, r2.1, r4.1)) (
 obind (g192 d r3.2) fun r5 =>
 obind (g193 d r5.2) fun r6 =>
 some (r2.1, r5.1, r6.1)) := by kernel_rfl

theorem e212 (d : Nat) (n1 : Int) (n2 : Int) : g212 (d + 1) n1 n2 =
 oif (decide ((n1 : Int) < n2)) (
 some (-1)) (
 oif (decide ((n1 : Int) > n2)) (
 some 1) (
 some 0)) := by kernel_rfl

noncomputable def j63_0 (d : Nat) (x1 : (Int × Int × Int × Int)) (x2 : (Int × Int × Int × Int)) (n3 : Int) (b4 : Bool) : Option (Int × Bool) :=
 oif b4 (
 some (0, false)) (
 obind (g197 d x1 n3 0) fun r5 =>
 obind (g197 d x2 n3 0) fun r6 =>
 obind (g212 d (IntKind.i64.wrap (r5.1 * r6.2)) (IntKind.i64.wrap (r6.1 * r5.2))) fun r7 =>
 some (r7, true))
theorem e63 (d : Nat) (x1 : (Int × Int × Int × Int)) (x2 : (Int × Int × Int × Int)) (n3 : Int) : g63 (d + 1) x1 x2 n3 =
 obind (g194 d x1) fun r4 =>
 oif (!r4) (
 j63_0 d x1 x2 n3 true) (
 obind (g194 d x2) fun r5 =>
 oif (!r5) (
 j63_0 d x1 x2 n3 true) (
 obind (g195 d n3) fun r6 =>
 j63_0 d x1 x2 n3 (!r6))) := by kernel_rfl

theorem e213 (d : Nat) (n1 : Int) : g213 (d + 1) n1 =
 oif (decide ((n1 : Int) > 0)) (
 some 1) (
 oif (decide ((n1 : Int) < 0)) (
 some (-1)) (
 some 0)) := by kernel_rfl

noncomputable def j64_0 (d : Nat) (x1 : (Int × Int × Int × Int)) (x2 : (Int × Int × Int × Int)) (n3 : Int) (b4 : Bool) : Option (Int × Bool) :=
 oif b4 (
 some (0, false)) (
 obind (g201 d x1 n3 0) fun r5 =>
 obind (g201 d x2 n3 0) fun r6 =>
 obind (g213 d (IntKind.i64.wrap ((IntKind.i64.wrap (r5.1 * r6.2)) - (IntKind.i64.wrap (r6.1 * r5.2))))) fun r7 =>
 some (r7, true))
theorem e64 (d : Nat) (x1 : (Int × Int × Int × Int)) (x2 : (Int × Int × Int × Int)) (n3 : Int) : g64 (d + 1) x1 x2 n3 =
 obind (g198 d x1) fun r4 =>
 oif (!r4) (
 j64_0 d x1 x2 n3 true) (
 obind (g198 d x2) fun r5 =>
 oif (!r5) (
 j64_0 d x1 x2 n3 true) (
 obind (g199 d n3) fun r6 =>
 j64_0 d x1 x2 n3 (!r6))) := by kernel_rfl

theorem e65 (d : Nat) (l1 : List Int) : g65 (d + 1) l1 =
 obind (g177 d (l1, 0, 0) 60000) fun r2 =>
 obind (g177 d r2.2 60000) fun r3 =>
 obind (g158 d r3.2 [0, 1, 1000000000, 1000000001, (-1), r2.1, r3.1]) fun r4 =>
 obind (g158 d r4.2 [0, 1, 5, 1000, 1001, (-1)]) fun r5 =>
 some (r4.1, r5.1) := by kernel_rfl

theorem e66 (d : Nat) (n1 : Int) (n2 : Int) : g66 (d + 1) n1 n2 =
 obind (g204 d n1) fun r3 =>
 oif (!r3) (
 some (0, false)) (
 oif (decide ((n2 : Int) < 0)) (
 some (0, false)) (
 oif (decide ((n2 : Int) > 1000)) (
 some (0, false)) (
 obind (g214 d n1 n2) fun r4 =>
 some (r4, true)))) := by kernel_rfl

theorem e67 (d : Nat) (n1 : Int) (n2 : Int) : g67 (d + 1) n1 n2 =
 obind (g208 d n1 n2) fun r3 =>
 oif (!r3) (
 some (0, false)) (
 obind (g215 d n1 n2) fun r4 =>
 some (r4, true)) := by kernel_rfl

noncomputable def j5_0 (d : Nat) (l2 : List Int) (b14 : Bool) : Option Bool :=
 obind (g60 d l2) fun r15 =>
 obind (g59 d r15.1 r15.2.1 r15.2.2.1 r15.2.2.2.1 r15.2.2.2.2) fun r16 =>
 obind (g61 d r15.1 r15.2.1 r15.2.2.1 r15.2.2.2.1 r15.2.2.2.2) fun r17 =>
 obind (g62 d l2) fun r18 =>
 obind (g63 d r18.1 r18.2.1 r18.2.2) fun r19 =>
 obind (g64 d r18.1 r18.2.1 r18.2.2) fun r20 =>
 obind (g65 d l2) fun r21 =>
 obind (g66 d r21.1 r21.2) fun r22 =>
 obind (g67 d r21.1 r21.2) fun r23 =>
 oif (r16.2 == r17.2) (
 oif ((r16.1 : Int) == r17.1) (
 oif (r19.2 == r20.2) (
 oif ((r19.1 : Int) == r20.1) (
 oif (r22.2 == r23.2) (
 oif ((r22.1 : Int) == r23.1) (
 oif (!r22.2) (
 some true) (
 oif (decide ((r22.1 : Int) ≥ 0)) (
 some (decide ((r22.1 : Int) < 1000003))) (
 some false))) (
 some false)) (
 some false)) (
 some false)) (
 some false)) (
 some false)) (
 some false)
noncomputable def j5_1 (d : Nat) (l2 : List Int) (r15 : (Int × Int × Bool)) (b18 : Bool) (n19 : Int) (n20 : Int) : Option Bool :=
 oif ((r15.1 : Int) != n19) (
 some false) (
 oif ((r15.2.1 : Int) != n20) (
 some false) (
 j5_0 d l2 b18))
noncomputable def j5_2 (d : Nat) (ag17 : (Bool × Int × Int × Int × Int) → Option Bool) (b18 : Bool) (n19 : Int) (n20 : Int) (n21 : Int) (n22 : Int) (n23 : Int) (b26 : Bool) (b27 : Bool) : Option Bool :=
 oif b27 (
 some false) (
 oif ((n23 : Int) == 1) (
 ag17 (b18, (IntKind.i64.wrap (n19 + 1)), n20, 0, (IntKind.i64.wrap (n22 + 1)))) (
 oif ((n23 : Int) == 2) (
 ag17 (b18, n19, (IntKind.i64.wrap (n20 + 1)), 0, (IntKind.i64.wrap (n22 + 1)))) (
 ag17 (b18, n19, n20, (IntKind.i64.wrap (n21 + 1)), (IntKind.i64.wrap (n22 + 1))))))
noncomputable def l5_0_b (d : Nat) (r10 : ((Int × Int × Int × Int) × Int × (List Int) × Int)) (r12 : ((List Int) × Bool)) (r14 : ((List Int) × Bool)) (kx5_0_0 : Bool → Int → Int → Option Bool) (ag17 : (Bool × Int × Int × Int × Int) → Option Bool) (b18 : Bool) (n19 : Int) (n20 : Int) (n21 : Int) (n22 : Int) : Option Bool :=
 oif (decide ((n22 : Int) < ((r12.1.length : Nat) : Int))) (
 oif (decide (0 ≤ (n22 : Int))) (
 oif (Nat.blt ((n22 : Int).toNat) r12.1.length) (
 obind (r12.1[(n22 : Int).toNat]?) fun n23 =>
 oif (decide (0 ≤ (n22 : Int))) (
 oif (Nat.blt ((n22 : Int).toNat) r14.1.length) (
 obind (r14.1[(n22 : Int).toNat]?) fun n24 =>
 obind (g59 d r10.1 n24 n21 r10.2.2.2 n22) fun r25 =>
 oif (!r25.2) (
 j5_2 d ag17 b18 n19 n20 n21 n22 n23 true true) (
 j5_2 d ag17 b18 n19 n20 n21 n22 n23 false ((r25.1 : Int) != n23))) none) none) none) none) (
 kx5_0_0 b18 n19 n20)
noncomputable def l5_0 (d : Nat) (r10 : ((Int × Int × Int × Int) × Int × (List Int) × Int)) (r12 : ((List Int) × Bool)) (r14 : ((List Int) × Bool)) (kx5_0_0 : Bool → Int → Int → Option Bool) (ag17 : (Bool × Int × Int × Int × Int) → Option Bool) (s : (Bool × Int × Int × Int × Int)) : Option Bool := l5_0_b d r10 r12 r14 kx5_0_0 ag17 s.1 s.2.1 s.2.2.1 s.2.2.2.1 s.2.2.2.2
noncomputable def j5_3 (d : Nat) (l2 : List Int) (r10 : ((Int × Int × Int × Int) × Int × (List Int) × Int)) (r12 : ((List Int) × Bool)) (r14 : ((List Int) × Bool)) (r15 : (Int × Int × Bool)) (b16 : Bool) : Option Bool :=
 oif b16 (
 some false) (
 iterP (l5_0 d r10 r12 r14 (j5_1 d l2 r15)) fuelN (false, 0, 0, 0, 0))
noncomputable def j5_4 (d : Nat) (l2 : List Int) (r10 : ((Int × Int × Int × Int) × Int × (List Int) × Int)) (r11 : ((List Int) × Bool)) (r12 : ((List Int) × Bool)) (b13 : Bool) : Option Bool :=
 oif b13 (
 some false) (
 oif r11.2 (
 obind (g57 d r10.1 r10.2.1 r10.2.2.1) fun r14 =>
 obind (g58 d r11.1) fun r15 =>
 oif (!r14.2) (
 j5_3 d l2 r10 r12 r14 r15 true) (
 oif ((((r14.1.length : Nat) : Int) : Int) != ((r10.2.2.1.length : Nat) : Int)) (
 j5_3 d l2 r10 r12 r14 r15 true) (
 j5_3 d l2 r10 r12 r14 r15 (!r15.2.2)))) (
 j5_0 d l2 false))
noncomputable def j5_5 (d : Nat) (l2 : List Int)  : Option Bool :=
 obind (g54 d l2) fun r10 =>
 obind (g55 d r10.1 r10.2.1 r10.2.2.1 r10.2.2.2) fun r11 =>
 obind (g56 d r10.1 r10.2.1 r10.2.2.1 r10.2.2.2) fun r12 =>
 oif (!(r11.2 == r12.2)) (
 j5_4 d l2 r10 r11 r12 true) (
 obind (g16 d r11.1 r12.1) fun r13 =>
 j5_4 d l2 r10 r11 r12 (!r13))
noncomputable def j5_6 (d : Nat) (l2 : List Int) (r4 : ((Int × Int × Int × Int) × Int × Int)) (r6 : (Int × Int × Bool)) (b9 : Bool) : Option Bool :=
 oif b9 (
 obind (g52 d r4.1 (IntKind.i64.wrap (r4.2.1 + 1)) r4.2.2) fun r10 =>
 oif (!r10.2.2) (
 some false) (
 oif (decide ((r10.1 : Int) < 0)) (
 some false) (
 oif (decide ((r10.2.1 : Int) < 1)) (
 some false) (
 oif (decide ((r10.1 : Int) > 1000000000)) (
 some false) (
 oif (decide ((r10.2.1 : Int) > 1000000000)) (
 some false) (
 oif (decide (((IntKind.i64.wrap (r10.1 * r6.2.1)) : Int) < (IntKind.i64.wrap (r6.1 * r10.2.1)))) (
 some false) (
 j5_5 d l2))))))) (
 j5_5 d l2)
noncomputable def j5_7 (d : Nat) (l2 : List Int) (r4 : ((Int × Int × Int × Int) × Int × Int)) (r5 : (Int × Int × Bool)) (r6 : (Int × Int × Bool)) (b8 : Bool) : Option Bool :=
 oif b8 (
 some false) (
 oif r5.2.2 (
 j5_6 d l2 r4 r6 (decide ((r4.2.1 : Int) < 15360))) (
 j5_6 d l2 r4 r6 false))
noncomputable def j5_8 (d : Nat) (l2 : List Int) (r4 : ((Int × Int × Int × Int) × Int × Int)) (r5 : (Int × Int × Bool)) (r6 : (Int × Int × Bool)) (b7 : Bool) : Option Bool :=
 oif b7 (
 some false) (
 oif r5.2.2 (
 oif (decide ((r6.2.1 : Int) < 1)) (
 j5_7 d l2 r4 r5 r6 true) (
 oif (decide ((r6.1 : Int) < 0)) (
 j5_7 d l2 r4 r5 r6 true) (
 j5_7 d l2 r4 r5 r6 (decide ((r6.1 : Int) > r6.2.1))))) (
 j5_7 d l2 r4 r5 r6 false))
theorem e5 (d : Nat) (l1 : List Int) (l2 : List Int) : g5 (d + 1) l1 l2 =
 obind (g12 d l1 l2) fun r3 =>
 oif r3 (
 some true) (
 obind (g51 d l1) fun r4 =>
 obind (g52 d r4.1 r4.2.1 r4.2.2) fun r5 =>
 obind (g53 d r4.1 r4.2.1 r4.2.2) fun r6 =>
 oif (!(r5.2.2 == r6.2.2)) (
 j5_8 d l2 r4 r5 r6 true) (
 oif ((r5.1 : Int) != r6.1) (
 j5_8 d l2 r4 r5 r6 true) (
 j5_8 d l2 r4 r5 r6 ((r5.2.1 : Int) != r6.2.1)))) := by kernel_rfl

end Go.Proofs.Ytmjhgkmiafemfaa
