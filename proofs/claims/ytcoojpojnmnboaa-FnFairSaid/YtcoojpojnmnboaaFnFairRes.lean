/-
  The residual forms of the program's functions under the interpreter by value, printed by program (wip/pv/gen2.py); each equation is checked by the kernel.
  Conditions: none.
-/
import Derived.Test.YtcoojpojnmnboaaVDef
import Derived.Test.YtcoojpojnmnboaaProg
import Derived.KernelRfl
set_option linter.all false
set_option maxRecDepth 1000000
namespace Go.Proofs.Ytcoojpojnmnboaa
open Go.Ev Go.Pv

theorem fuel_is : ∃ n : Nat, n = 4194304 := ⟨_, rfl⟩
noncomputable def fuelN : Nat := Classical.choose fuel_is
theorem fuelN_eq : fuelN = 4194304 := Classical.choose_spec fuel_is
def pvSig : FuncId → Sig
  | 8 => ⟨[(.ro, (.sl (.int .u8))), (.ro, (.sl (.int .u8)))], [(false, .bool)]⟩
  | 46 => ⟨[(.ro, (.sl (.int .i64))), (.ro, (.sl (.int .i64)))], [(false, .bool)]⟩
  | 98 => ⟨[(.ro, (.sl (.int .i64)))], [(false, (.int .i64))]⟩
  | 100 => ⟨[(.ro, (.sl (.int .u8)))], [(false, (.sl (.int .i64))), (false, (.int .i64))]⟩
  | 101 => ⟨[(.ro, (.sl (.int .i64))), (.ro, (.int .i64))], [(true, (.sl (.int .i64))), (false, .bool)]⟩
  | 102 => ⟨[(.ro, (.sl (.int .i64))), (.ro, (.int .i64))], [(true, (.sl (.int .i64))), (false, .bool)]⟩
  | 103 => ⟨[(.ro, (.sl (.int .u8)))], [(true, (.sl (.int .i64))), (true, (.sl (.int .i64))), (false, (.int .i64))]⟩
  | 104 => ⟨[(.ro, (.sl (.int .i64))), (.ro, (.sl (.int .i64))), (.ro, (.int .i64))], [(true, (.sl (.int .i64))), (false, .bool)]⟩
  | 105 => ⟨[(.ro, (.sl (.int .i64))), (.ro, (.sl (.int .i64))), (.ro, (.int .i64))], [(true, (.sl (.int .i64))), (false, .bool)]⟩
  | 106 => ⟨[(.ro, (.sl (.int .u8)))], [(false, (.sl (.int .i64))), (false, (.sl (.int .i64))), (false, (.int .i64))]⟩
  | 107 => ⟨[(.ro, (.sl (.int .i64))), (.ro, (.sl (.int .i64))), (.ro, (.int .i64))], [(false, .bool), (false, .bool)]⟩
  | 108 => ⟨[(.ro, (.sl (.int .i64))), (.ro, (.sl (.int .i64))), (.ro, (.int .i64))], [(false, .bool), (false, .bool)]⟩
  | 109 => ⟨[(.ro, (.sl (.int .u8)))], [(false, (.sl (.int .i64))), (false, (.sl (.int .i64)))]⟩
  | 110 => ⟨[(.ro, (.sl (.int .i64))), (.ro, (.sl (.int .i64)))], [(false, (.int .i64)), (false, .bool)]⟩
  | 111 => ⟨[(.ro, (.sl (.int .i64))), (.ro, (.sl (.int .i64)))], [(false, (.int .i64)), (false, .bool)]⟩
  | 190 => ⟨[(.ps, (.pair (.sl (.int .u8)) (.pair (.int .i64) (.int .u64)))), (.ro, (.sl (.int .i64)))], [(false, (.int .i64))]⟩
  | 203 => ⟨[(.ps, (.pair (.sl (.int .u8)) (.pair (.int .i64) (.int .u64)))), (.ro, (.int .i64))], [(false, (.int .i64))]⟩
  | 204 => ⟨[(.ro, (.int .i64)), (.ro, (.int .i64))], [(false, (.int .i64))]⟩
  | 211 => ⟨[(.ro, (.int .i64)), (.ro, (.int .i64)), (.ro, (.int .i64))], [(false, .bool)]⟩
  | 230 => ⟨[(.ps, (.pair (.sl (.int .u8)) (.pair (.int .i64) (.int .u64)))), (.ro, (.int .i64))], [(false, .bool)]⟩
  | 257 => ⟨[(.ro, (.sl (.int .i64))), (.ro, (.int .i64)), (.ro, (.int .i64))], [(false, .bool)]⟩
  | 261 => ⟨[(.ps, (.pair (.sl (.int .u8)) (.pair (.int .i64) (.int .u64))))], [(true, (.sl (.int .i64)))]⟩
  | 262 => ⟨[(.ps, (.pair (.sl (.int .u8)) (.pair (.int .i64) (.int .u64)))), (.ro, (.sl (.int .i64)))], [(false, (.int .i64))]⟩
  | 263 => ⟨[(.ro, (.sl (.int .i64)))], [(false, .bool)]⟩
  | 264 => ⟨[(.ro, (.int .i64))], [(false, .bool)]⟩
  | 266 => ⟨[(.ro, (.sl (.int .i64)))], [(false, (.int .i64))]⟩
  | 267 => ⟨[(.ro, (.sl (.int .i64))), (.ro, (.int .i64))], [(true, (.sl (.int .i64)))]⟩
  | 268 => ⟨[(.ro, (.sl (.int .i64)))], [(false, .bool)]⟩
  | 269 => ⟨[(.ro, (.int .i64))], [(false, .bool)]⟩
  | 270 => ⟨[(.ro, (.sl (.int .i64)))], [(false, (.int .i64))]⟩
  | 271 => ⟨[(.ro, (.sl (.int .i64))), (.ro, (.int .i64))], [(true, (.sl (.int .i64)))]⟩
  | 272 => ⟨[(.ro, (.sl (.int .i64))), (.ro, (.sl (.int .i64))), (.ro, (.int .i64))], [(false, .bool)]⟩
  | 273 => ⟨[(.ro, (.sl (.int .i64))), (.ro, (.sl (.int .i64)))], [(false, .bool)]⟩
  | 274 => ⟨[(.ro, (.int .i64)), (.ro, (.int .i64))], [(false, (.int .i64))]⟩
  | 352 => ⟨[(.ps, (.pair (.sl (.int .u8)) (.pair (.int .i64) (.int .u64))))], [(false, (.int .i64))]⟩
  | _ => ⟨[], []⟩
def pvLoops : FuncId → Nat → LoopA
  | 8, 0 => ⟨[(4, false, .bool), (185, false, (.int .i64))], [], [], []⟩
  | 8, 1 => ⟨[(202, false, (.int .i64))], [], [(34, (.int .i64))], []⟩
  | 46, 0 => ⟨[(4, false, .bool), (13, false, (.int .i64))], [], [], []⟩
  | 98, 0 => ⟨[(3, false, (.int .i64)), (8, false, (.int .i64))], [], [], []⟩
  | 101, 0 => ⟨[(8, false, (.int .i64)), (31, false, (.int .i64))], [], [(7, (.int .i64))], []⟩
  | 102, 0 => ⟨[(6, false, (.int .i64)), (7, false, (.int .i64))], [], [], []⟩
  | 102, 1 => ⟨[(9, false, (.int .i64)), (44, false, (.int .i64))], [], [(8, (.int .i64))], []⟩
  | 103, 0 => ⟨[(7, true, (.sl (.int .i64))), (15, false, (.int .i64))], [(5, (.pair (.sl (.int .u8)) (.pair (.int .i64) (.int .u64))))], [], []⟩
  | 104, 0 => ⟨[(6, true, (.sl (.int .i64))), (7, false, .bool), (39, false, (.int .i64))], [], [], []⟩
  | 104, 1 => ⟨[(2, false, (.int .i64))], [], [(10, (.int .i64))], []⟩
  | 104, 2 => ⟨[(11, false, (.int .i64)), (59, false, (.int .i64))], [], [], []⟩
  | 105, 0 => ⟨[(2, false, (.int .i64))], [], [(8, (.int .i64))], []⟩
  | 105, 1 => ⟨[(9, false, (.int .i64)), (26, false, (.int .i64))], [], [], []⟩
  | 107, 0 => ⟨[(6, false, .bool), (7, false, .bool), (41, false, (.int .i64))], [], [], []⟩
  | 107, 1 => ⟨[(6, false, .bool), (7, false, .bool), (54, false, (.int .i64))], [], [], []⟩
  | 108, 0 => ⟨[(6, false, .bool), (7, false, .bool), (23, false, (.int .i64))], [], [], []⟩
  | 108, 1 => ⟨[(6, false, .bool), (7, false, .bool), (36, false, (.int .i64))], [], [], []⟩
  | 110, 0 => ⟨[(6, false, (.int .i64)), (26, false, (.int .i64))], [], [], []⟩
  | 111, 0 => ⟨[(6, false, (.int .i64)), (15, false, (.int .i64))], [], [], []⟩
  | 220, 0 => ⟨[(0, false, (.int .i64)), (1, false, (.int .i64))], [], [], []⟩
  | 257, 0 => ⟨[(6, false, .bool), (11, false, (.int .i64))], [], [], []⟩
  | 261, 0 => ⟨[(3, true, (.sl (.int .i64)))], [(0, (.pair (.sl (.int .u8)) (.pair (.int .i64) (.int .u64))))], [], []⟩
  | 261, 1 => ⟨[(45, false, (.int .i64))], [], [(3, (.int .i64))], []⟩
  | 263, 0 => ⟨[(2, false, .bool), (7, false, (.int .i64))], [], [], []⟩
  | 266, 0 => ⟨[(3, false, (.int .i64)), (8, false, (.int .i64))], [], [], []⟩
  | 267, 0 => ⟨[(5, true, (.sl (.int .i64))), (11, false, (.int .i64))], [], [], []⟩
  | 270, 0 => ⟨[(3, false, (.int .i64)), (8, false, (.int .i64))], [], [], []⟩
  | 271, 0 => ⟨[(5, true, (.sl (.int .i64))), (10, false, (.int .i64))], [], [], []⟩
  | _, _ => ⟨[], [], [], []⟩
def pvEloops : FuncId → Nat → List (Nat × Value)
  | 8, 0 => [(4, (.bool false)), (5, (.slice none 0 0)), (6, (.int .i64 0)), (7, (.slice none 0 0)), (8, (.bool false)), (9, (.slice none 0 0)), (11, (.slice none 0 0)), (13, (.int .i64 0)), (183, (.slice none 0 0)), (184, (.int .i64 0)), (185, (.int .i64 0))]
  | 8, 1 => [(4, (.bool false)), (5, (.slice none 0 0)), (6, (.int .i64 0)), (7, (.slice none 0 0)), (8, (.bool false)), (9, (.slice none 0 0)), (11, (.slice none 0 0)), (13, (.int .i64 0)), (34, (.slice none 0 0)), (201, (.int .i64 0)), (202, (.int .i64 0))]
  | 46, 0 => [(0, (.slice none 0 0)), (1, (.slice none 0 0)), (4, (.bool false)), (12, (.int .i64 0)), (13, (.int .i64 0))]
  | 98, 0 => [(2, (.int .i64 0)), (3, (.int .i64 0)), (6, (.slice none 0 0)), (7, (.int .i64 0)), (8, (.int .i64 0))]
  | 101, 0 => [(4, (.slice none 0 0)), (5, (.bool false)), (7, (.slice none 0 0)), (8, (.int .i64 0)), (29, (.slice none 0 0)), (30, (.int .i64 0)), (31, (.int .i64 0))]
  | 102, 0 => [(0, (.slice none 0 0)), (1, (.int .i64 0)), (4, (.slice none 0 0)), (5, (.bool false)), (6, (.int .i64 0)), (7, (.int .i64 0))]
  | 102, 1 => [(4, (.slice none 0 0)), (5, (.bool false)), (6, (.int .i64 0)), (8, (.slice none 0 0)), (9, (.int .i64 0)), (42, (.slice none 0 0)), (43, (.int .i64 0)), (44, (.int .i64 0))]
  | 103, 0 => [(2, (.slice none 0 0)), (3, (.slice none 0 0)), (4, (.int .i64 0)), (5, (.pointer (some ⟨0, 0, none⟩))), (6, (.slice none 0 0)), (7, (.slice none 0 0)), (14, (.int .i64 0)), (15, (.int .i64 0))]
  | 104, 0 => [(0, (.slice none 0 0)), (1, (.slice none 0 0)), (2, (.int .i64 0)), (6, (.slice none 0 0)), (7, (.bool false)), (37, (.slice none 0 0)), (38, (.int .i64 0)), (39, (.int .i64 0))]
  | 104, 1 => [(0, (.slice none 0 0)), (1, (.slice none 0 0)), (2, (.int .i64 0)), (6, (.slice none 0 0)), (7, (.bool false)), (10, (.slice none 0 0))]
  | 104, 2 => [(0, (.slice none 0 0)), (1, (.slice none 0 0)), (2, (.int .i64 0)), (6, (.slice none 0 0)), (7, (.bool false)), (10, (.slice none 0 0)), (11, (.int .i64 0)), (53, (.int .i64 0)), (54, (.bool false)), (57, (.slice none 0 0)), (58, (.int .i64 0)), (59, (.int .i64 0))]
  | 105, 0 => [(0, (.slice none 0 0)), (1, (.slice none 0 0)), (2, (.int .i64 0)), (6, (.slice none 0 0)), (7, (.bool false)), (8, (.slice none 0 0))]
  | 105, 1 => [(0, (.slice none 0 0)), (1, (.slice none 0 0)), (2, (.int .i64 0)), (6, (.slice none 0 0)), (7, (.bool false)), (8, (.slice none 0 0)), (9, (.int .i64 0)), (20, (.int .i64 0)), (21, (.bool false)), (24, (.slice none 0 0)), (25, (.int .i64 0)), (26, (.int .i64 0))]
  | 107, 0 => [(1, (.slice none 0 0)), (6, (.bool false)), (7, (.bool false)), (39, (.slice none 0 0)), (40, (.int .i64 0)), (41, (.int .i64 0))]
  | 107, 1 => [(1, (.slice none 0 0)), (6, (.bool false)), (7, (.bool false)), (8, (.int .i64 0)), (9, (.int .i64 0)), (39, (.slice none 0 0)), (40, (.int .i64 0)), (41, (.int .i64 0)), (42, (.bool false)), (43, (.int .i64 0)), (44, (.pointer (some ⟨0, 0, none⟩))), (45, (.int .i64 0)), (46, (.slice none 0 0)), (47, (.int .i64 0)), (48, (.pointer (some ⟨0, 0, none⟩))), (49, (.int .i64 0)), (50, (.int .i64 0)), (51, (.bool false)), (52, (.slice none 0 0)), (53, (.int .i64 0)), (54, (.int .i64 0))]
  | 108, 0 => [(0, (.slice none 0 0)), (1, (.slice none 0 0)), (2, (.int .i64 0)), (6, (.bool false)), (7, (.bool false)), (21, (.slice none 0 0)), (22, (.int .i64 0)), (23, (.int .i64 0))]
  | 108, 1 => [(0, (.slice none 0 0)), (1, (.slice none 0 0)), (2, (.int .i64 0)), (6, (.bool false)), (7, (.bool false)), (8, (.int .i64 0)), (9, (.int .i64 0)), (21, (.slice none 0 0)), (22, (.int .i64 0)), (23, (.int .i64 0)), (24, (.bool false)), (25, (.int .i64 0)), (26, (.pointer (some ⟨0, 0, none⟩))), (27, (.int .i64 0)), (28, (.int .i64 0)), (29, (.slice none 0 0)), (30, (.int .i64 0)), (31, (.pointer (some ⟨0, 0, none⟩))), (32, (.int .i64 0)), (33, (.bool false)), (34, (.slice none 0 0)), (35, (.int .i64 0)), (36, (.int .i64 0))]
  | 110, 0 => [(1, (.slice none 0 0)), (4, (.int .i64 0)), (5, (.bool false)), (6, (.int .i64 0)), (24, (.slice none 0 0)), (25, (.int .i64 0)), (26, (.int .i64 0))]
  | 111, 0 => [(0, (.slice none 0 0)), (1, (.slice none 0 0)), (4, (.int .i64 0)), (5, (.bool false)), (6, (.int .i64 0)), (13, (.slice none 0 0)), (14, (.int .i64 0)), (15, (.int .i64 0))]
  | 220, 0 => [(0, (.int .i64 0)), (1, (.int .i64 0)), (2, .nilFunc), (6, (.int .i64 0))]
  | 257, 0 => [(1, (.int .i64 0)), (2, (.int .i64 0)), (6, (.bool false)), (9, (.slice none 0 0)), (10, (.int .i64 0)), (11, (.int .i64 0))]
  | 261, 0 => [(0, (.pointer (some ⟨0, 0, none⟩))), (2, (.slice none 0 0)), (3, (.slice none 0 0)), (4, (.int .i64 0))]
  | 261, 1 => [(2, (.slice none 0 0)), (3, (.slice none 0 0)), (44, (.int .i64 0)), (45, (.int .i64 0))]
  | 263, 0 => [(0, (.slice none 0 0)), (2, (.bool false)), (5, (.slice none 0 0)), (6, (.int .i64 0)), (7, (.int .i64 0))]
  | 266, 0 => [(2, (.int .i64 0)), (3, (.int .i64 0)), (6, (.slice none 0 0)), (7, (.int .i64 0)), (8, (.int .i64 0))]
  | 267, 0 => [(1, (.int .i64 0)), (4, (.slice none 0 0)), (5, (.slice none 0 0)), (9, (.slice none 0 0)), (10, (.int .i64 0)), (11, (.int .i64 0))]
  | 270, 0 => [(2, (.int .i64 0)), (3, (.int .i64 0)), (6, (.slice none 0 0)), (7, (.int .i64 0)), (8, (.int .i64 0))]
  | 271, 0 => [(1, (.int .i64 0)), (4, (.slice none 0 0)), (5, (.slice none 0 0)), (8, (.slice none 0 0)), (9, (.int .i64 0)), (10, (.int .i64 0))]
  | _, _ => []
def pvInline : FuncId → Bool
  | 220 => true
  | 221 => true
  | 265 => true
  | 353 => true
  | _ => false
noncomputable def pvAnn : AnnV := ⟨fuelN, pvSig, pvLoops, pvEloops, pvInline⟩

/-- loop.example/g00838/laws.qInts -/
noncomputable def g46 (d : Nat) (l1 : List Int) (l2 : List Int) : Option Bool := (lev Try.prog pvAnn d).call 46 (l1, l2)
/-- loop.example/g00838/laws.qSum -/
noncomputable def g98 (d : Nat) (l1 : List Int) : Option Int := (lev Try.prog pvAnn d).call 98 (l1)
/-- (*loop.example/g00838/spec.l1Cur).next -/
noncomputable def g352 (d : Nat) (x1 : ((List Int) × Int × Int)) : Option (Int × ((List Int) × Int × Int)) := (lev Try.prog pvAnn d).call 352 (x1)
/-- (*loop.example/g00838/spec.l1Cur).pick -/
noncomputable def g203 (d : Nat) (x1 : ((List Int) × Int × Int)) (n2 : Int) : Option (Int × ((List Int) × Int × Int)) := (lev Try.prog pvAnn d).call 203 (x1, n2)
/-- (*loop.example/g00838/spec.l1Cur).among -/
noncomputable def g190 (d : Nat) (x1 : ((List Int) × Int × Int)) (l2 : List Int) : Option (Int × ((List Int) × Int × Int)) := (lev Try.prog pvAnn d).call 190 (x1, l2)
/-- (*loop.example/g00838/spec.l1Cur).one -/
noncomputable def g230 (d : Nat) (x1 : ((List Int) × Int × Int)) (n2 : Int) : Option (Bool × ((List Int) × Int × Int)) := (lev Try.prog pvAnn d).call 230 (x1, n2)
/-- (*loop.example/g00838/spec.l1Cur).values -/
noncomputable def g261 (d : Nat) (x1 : ((List Int) × Int × Int)) : Option ((List Int) × ((List Int) × Int × Int)) := (lev Try.prog pvAnn d).call 261 (x1)
/-- loop.example/g00838/spec.l1Most -/
noncomputable def g204 (d : Nat) (n1 : Int) (n2 : Int) : Option Int := (lev Try.prog pvAnn d).call 204 (n1, n2)
/-- loop.example/g00838/spec.stSum -/
noncomputable def g270 (d : Nat) (l1 : List Int) : Option Int := (lev Try.prog pvAnn d).call 270 (l1)
/-- loop.example/g00838/spec.l1Least -/
noncomputable def g274 (d : Nat) (n1 : Int) (n2 : Int) : Option Int := (lev Try.prog pvAnn d).call 274 (n1, n2)
/-- (*loop.example/g00838/spec.l1Cur).capacity -/
noncomputable def g262 (d : Nat) (x1 : ((List Int) × Int × Int)) (l2 : List Int) : Option (Int × ((List Int) × Int × Int)) := (lev Try.prog pvAnn d).call 262 (x1, l2)
/-- loop.example/g00838/spec.DrawFairShares -/
noncomputable def g100 (d : Nat) (l1 : List Int) : Option ((List Int) × Int) := (lev Try.prog pvAnn d).call 100 (l1)
/-- loop.example/g00838/impl.areShares -/
noncomputable def g263 (d : Nat) (l1 : List Int) : Option Bool := (lev Try.prog pvAnn d).call 263 (l1)
/-- loop.example/g00838/impl.isCapacity -/
noncomputable def g264 (d : Nat) (n1 : Int) : Option Bool := (lev Try.prog pvAnn d).call 264 (n1)
/-- loop.example/g00838/impl.sumInts -/
noncomputable def g266 (d : Nat) (l1 : List Int) : Option Int := (lev Try.prog pvAnn d).call 266 (l1)
/-- loop.example/g00838/impl.sharesUpTo -/
noncomputable def g267 (d : Nat) (l1 : List Int) (n2 : Int) : Option (List Int) := (lev Try.prog pvAnn d).call 267 (l1, n2)
/-- loop.example/g00838/impl.FairShares -/
noncomputable def g101 (d : Nat) (l1 : List Int) (n2 : Int) : Option ((List Int) × Bool) := (lev Try.prog pvAnn d).call 101 (l1, n2)
/-- loop.example/g00838/spec.l1In -/
noncomputable def g211 (d : Nat) (n1 : Int) (n2 : Int) (n3 : Int) : Option Bool := (lev Try.prog pvAnn d).call 211 (n1, n2, n3)
/-- loop.example/g00838/spec.l1All -/
noncomputable def g257 (d : Nat) (l1 : List Int) (n2 : Int) (n3 : Int) : Option Bool := (lev Try.prog pvAnn d).call 257 (l1, n2, n3)
/-- loop.example/g00838/spec.stGood -/
noncomputable def g268 (d : Nat) (l1 : List Int) : Option Bool := (lev Try.prog pvAnn d).call 268 (l1)
/-- loop.example/g00838/spec.stCapacity -/
noncomputable def g269 (d : Nat) (n1 : Int) : Option Bool := (lev Try.prog pvAnn d).call 269 (n1)
/-- loop.example/g00838/spec.stLevel -/
noncomputable def g271 (d : Nat) (l1 : List Int) (n2 : Int) : Option (List Int) := (lev Try.prog pvAnn d).call 271 (l1, n2)
/-- loop.example/g00838/spec.FairShares -/
noncomputable def g102 (d : Nat) (l1 : List Int) (n2 : Int) : Option ((List Int) × Bool) := (lev Try.prog pvAnn d).call 102 (l1, n2)
/-- loop.example/g00838/spec.DrawWeightedShares -/
noncomputable def g103 (d : Nat) (l1 : List Int) : Option ((List Int) × (List Int) × Int) := (lev Try.prog pvAnn d).call 103 (l1)
/-- loop.example/g00838/impl.WeightedShares -/
noncomputable def g104 (d : Nat) (l1 : List Int) (l2 : List Int) (n3 : Int) : Option ((List Int) × Bool) := (lev Try.prog pvAnn d).call 104 (l1, l2, n3)
/-- loop.example/g00838/spec.stWeights -/
noncomputable def g272 (d : Nat) (l1 : List Int) (l2 : List Int) (n3 : Int) : Option Bool := (lev Try.prog pvAnn d).call 272 (l1, l2, n3)
/-- loop.example/g00838/spec.WeightedShares -/
noncomputable def g105 (d : Nat) (l1 : List Int) (l2 : List Int) (n3 : Int) : Option ((List Int) × Bool) := (lev Try.prog pvAnn d).call 105 (l1, l2, n3)
/-- loop.example/g00838/spec.DrawIsFairShare -/
noncomputable def g106 (d : Nat) (l1 : List Int) : Option ((List Int) × (List Int) × Int) := (lev Try.prog pvAnn d).call 106 (l1)
/-- loop.example/g00838/impl.IsFairShare -/
noncomputable def g107 (d : Nat) (l1 : List Int) (l2 : List Int) (n3 : Int) : Option (Bool × Bool) := (lev Try.prog pvAnn d).call 107 (l1, l2, n3)
/-- loop.example/g00838/spec.stPair -/
noncomputable def g273 (d : Nat) (l1 : List Int) (l2 : List Int) : Option Bool := (lev Try.prog pvAnn d).call 273 (l1, l2)
/-- loop.example/g00838/spec.IsFairShare -/
noncomputable def g108 (d : Nat) (l1 : List Int) (l2 : List Int) (n3 : Int) : Option (Bool × Bool) := (lev Try.prog pvAnn d).call 108 (l1, l2, n3)
/-- loop.example/g00838/spec.DrawLeastServed -/
noncomputable def g109 (d : Nat) (l1 : List Int) : Option ((List Int) × (List Int)) := (lev Try.prog pvAnn d).call 109 (l1)
/-- loop.example/g00838/impl.LeastServed -/
noncomputable def g110 (d : Nat) (l1 : List Int) (l2 : List Int) : Option (Int × Bool) := (lev Try.prog pvAnn d).call 110 (l1, l2)
/-- loop.example/g00838/spec.LeastServed -/
noncomputable def g111 (d : Nat) (l1 : List Int) (l2 : List Int) : Option (Int × Bool) := (lev Try.prog pvAnn d).call 111 (l1, l2)
/-- loop.example/g00838/laws.FnFair -/
noncomputable def g8 (d : Nat) (l1 : List Int) (l2 : List Int) : Option Bool := (lev Try.prog pvAnn d).call 8 (l1, l2)

noncomputable def j46_0 (d : Nat)  (b4 : Bool) : Option Bool :=
 some true
noncomputable def l46_0_b (d : Nat) (l1 : List Int) (l2 : List Int) (kx46_0_0 : Bool → Option Bool) (ag3 : (Bool × Int) → Option Bool) (b4 : Bool) (n5 : Int) : Option Bool :=
 oif (decide ((n5 : Int) < ((l1.length : Nat) : Int))) (
 oif (decide (0 ≤ (n5 : Int))) (
 obind (l1[(n5 : Int).toNat]?) fun n6 =>
 oif (decide (0 ≤ (n5 : Int))) (
 obind (l2[(n5 : Int).toNat]?) fun n7 =>
 oif ((n6 : Int) != n7) (
 some false) (
 ag3 (b4, (IntKind.i64.wrap (n5 + 1))))) none) none) (
 kx46_0_0 b4)
noncomputable def l46_0 (d : Nat) (l1 : List Int) (l2 : List Int) (kx46_0_0 : Bool → Option Bool) (ag3 : (Bool × Int) → Option Bool) (s : (Bool × Int)) : Option Bool := l46_0_b d l1 l2 kx46_0_0 ag3 s.1 s.2
theorem e46 (d : Nat) (l1 : List Int) (l2 : List Int) : g46 (d + 1) l1 l2 =
 oif ((((l1.length : Nat) : Int) : Int) != ((l2.length : Nat) : Int)) (
 some false) (
 iterP (l46_0 d l1 l2 (j46_0 d)) fuelN (false, 0)) := by kernel_rfl

noncomputable def j98_0 (d : Nat)  (n3 : Int) : Option Int :=
 some n3
noncomputable def l98_0_b (d : Nat) (l1 : List Int) (kx98_0_0 : Int → Option Int) (ag2 : (Int × Int) → Option Int) (n3 : Int) (n4 : Int) : Option Int :=
 oif (decide ((n4 : Int) < ((l1.length : Nat) : Int))) (
 oif (decide (0 ≤ (n4 : Int))) (
 obind (l1[(n4 : Int).toNat]?) fun n5 =>
 ag2 ((IntKind.i64.wrap (n3 + n5)), (IntKind.i64.wrap (n4 + 1)))) none) (
 kx98_0_0 n3)
noncomputable def l98_0 (d : Nat) (l1 : List Int) (kx98_0_0 : Int → Option Int) (ag2 : (Int × Int) → Option Int) (s : (Int × Int)) : Option Int := l98_0_b d l1 kx98_0_0 ag2 s.1 s.2
theorem e98 (d : Nat) (l1 : List Int) : g98 (d + 1) l1 =
 iterP (l98_0 d l1 (j98_0 d)) fuelN (0, 0) := by kernel_rfl

noncomputable def j352_0 (d : Nat) (x1 : ((List Int) × Int × Int)) (n2 : Int) : Option (Int × ((List Int) × Int × Int)) :=
 oif (decide (((IntKind.i64.wrap (x1.2.1 + 1)) : Int) ≤ ((x1.1.length : Nat) : Int))) (
 some (n2, (x1.1, (IntKind.i64.wrap (x1.2.1 + 1)), (IntKind.u64.wrap ((IntKind.u64.wrap ((IntKind.u64.wrap (x1.2.2 * 6364136223846793005)) + (IntKind.u64.wrap n2))) + 1442695040888963407))))) (
 some ((IntKind.i64.wrap (IntKind.u64.wrap ((BitVec.ofInt IntKind.u64.bits ((IntKind.u64.wrap ((IntKind.u64.wrap ((IntKind.u64.wrap (x1.2.2 * 6364136223846793005)) + (IntKind.u64.wrap n2))) + 1442695040888963407)).fdiv (2 ^ (min (40 : Int).toNat IntKind.u64.bits))) &&& BitVec.ofInt IntKind.u64.bits 255).toNat : Int))), (x1.1, (IntKind.i64.wrap (x1.2.1 + 1)), (IntKind.u64.wrap ((IntKind.u64.wrap ((IntKind.u64.wrap (x1.2.2 * 6364136223846793005)) + (IntKind.u64.wrap n2))) + 1442695040888963407)))))
theorem e352 (d : Nat) (x1 : ((List Int) × Int × Int)) : g352 (d + 1) x1 =
 oif (decide ((x1.2.1 : Int) < ((x1.1.length : Nat) : Int))) (
 oif (decide (0 ≤ (x1.2.1 : Int))) (
 obind (x1.1[(x1.2.1 : Int).toNat]?) fun n2 =>
 j352_0 d x1 (IntKind.i64.wrap n2)) none) (
 j352_0 d x1 0) := by kernel_rfl

theorem e203 (d : Nat) (x1 : ((List Int) × Int × Int)) (n2 : Int) : g203 (d + 1) x1 n2 =
 oif (decide ((n2 : Int) ≤ 1)) (
 some (0, x1)) (
 obind (g352 d x1) fun r3 =>
 oif (decide ((n2 : Int) > 200)) (
 obind (g352 d r3.2) fun r4 =>
 oif ((n2 : Int) == 0) none (
 some (((IntKind.i64.wrap ((IntKind.i64.wrap (r3.1 * 256)) + r4.1)).tmod n2), r4.2))) (
 oif ((n2 : Int) == 0) none (
 some ((r3.1.tmod n2), r3.2)))) := by kernel_rfl

theorem e190 (d : Nat) (x1 : ((List Int) × Int × Int)) (l2 : List Int) : g190 (d + 1) x1 l2 =
 obind (g203 d x1 ((l2.length : Nat) : Int)) fun r3 =>
 oif (decide (0 ≤ (r3.1 : Int))) (
 obind (l2[(r3.1 : Int).toNat]?) fun n4 =>
 some (n4, r3.2)) none := by kernel_rfl

theorem e230 (d : Nat) (x1 : ((List Int) × Int × Int)) (n2 : Int) : g230 (d + 1) x1 n2 =
 obind (g203 d x1 n2) fun r3 =>
 some (((r3.1 : Int) == 0), r3.2) := by kernel_rfl

noncomputable def j261_0 (d : Nat) (r13 : (Int × ((List Int) × Int × Int))) (l18 : List Int) : Option ((List Int) × ((List Int) × Int × Int)) :=
 some (l18, r13.2)
noncomputable def l261_1_b (d : Nat) (l12 : List Int) (kx261_1_0 : (List Int) → Option ((List Int) × ((List Int) × Int × Int))) (ag17 : (Int × (List Int)) → Option ((List Int) × ((List Int) × Int × Int))) (n18 : Int) (l19 : List Int) : Option ((List Int) × ((List Int) × Int × Int)) :=
 oif (decide ((n18 : Int) < ((l12.length : Nat) : Int))) (
 oif (decide (0 ≤ (n18 : Int))) (
 oif (Nat.blt ((n18 : Int).toNat) l19.length) (
 obind (l19[(n18 : Int).toNat]?) fun n20 =>
 ag17 ((IntKind.i64.wrap (n18 + 1)), (l19.set ((n18 : Int).toNat) 1000000))) none) none) (
 kx261_1_0 l19)
noncomputable def l261_1 (d : Nat) (l12 : List Int) (kx261_1_0 : (List Int) → Option ((List Int) × ((List Int) × Int × Int))) (ag17 : (Int × (List Int)) → Option ((List Int) × ((List Int) × Int × Int))) (s : (Int × (List Int))) : Option ((List Int) × ((List Int) × Int × Int)) := l261_1_b d l12 kx261_1_0 ag17 s.1 s.2
noncomputable def j261_1 (d : Nat)  (l9 : List Int) (n10 : Int) (n11 : Int) (l12 : List Int) : Option ((List Int) × ((List Int) × Int × Int)) :=
 obind (g203 d (l9, n10, n11) 24) fun r13 =>
 oif ((r13.1 : Int) == 0) (
 obind (g203 d r13.2 ((l12.length : Nat) : Int)) fun r14 =>
 obind (g190 d r14.2 [(-1), 1000000, 1000001]) fun r15 =>
 oif (decide (0 ≤ (r14.1 : Int))) (
 oif (Nat.blt ((r14.1 : Int).toNat) l12.length) (
 obind (l12[(r14.1 : Int).toNat]?) fun n16 =>
 some ((l12.set ((r14.1 : Int).toNat) r15.1), r15.2)) none) none) (
 oif ((r13.1 : Int) == 1) (
 some ([], r13.2)) (
 oif ((r13.1 : Int) == 2) (
 iterP (l261_1 d l12 (j261_0 d r13)) fuelN (0, l12)) (
 some (l12, r13.2))))
noncomputable def l261_0_b (d : Nat) (n4 : Int) (kx261_0_0 : (List Int) → Int → Int → (List Int) → Option ((List Int) × ((List Int) × Int × Int))) (ag8 : ((List Int) × ((List Int) × Int × Int)) → Option ((List Int) × ((List Int) × Int × Int))) (l9 : List Int) (x10 : ((List Int) × Int × Int)) : Option ((List Int) × ((List Int) × Int × Int)) :=
 oif (decide ((((l9.length : Nat) : Int) : Int) < n4)) (
 obind (g203 d x10 900) fun r11 =>
 obind (g190 d r11.2 [0, 1, 2, 5, 9, 40, r11.1]) fun r12 =>
 oif (Nat.ble ((l9.length + [r12.1].length) * 8) roomMax) (
 ag8 ((l9 ++ [r12.1]), r12.2)) none) (
 kx261_0_0 x10.1 x10.2.1 x10.2.2 l9)
noncomputable def l261_0 (d : Nat) (n4 : Int) (kx261_0_0 : (List Int) → Int → Int → (List Int) → Option ((List Int) × ((List Int) × Int × Int))) (ag8 : ((List Int) × ((List Int) × Int × Int)) → Option ((List Int) × ((List Int) × Int × Int))) (s : ((List Int) × ((List Int) × Int × Int))) : Option ((List Int) × ((List Int) × Int × Int)) := l261_0_b d n4 kx261_0_0 ag8 s.1 s.2
noncomputable def j261_2 (d : Nat)  (n4 : Int) (l5 : List Int) (n6 : Int) (n7 : Int) : Option ((List Int) × ((List Int) × Int × Int)) :=
 iterP (l261_0 d n4 (j261_1 d)) fuelN ([], (l5, n6, n7))
theorem e261 (d : Nat) (x1 : ((List Int) × Int × Int)) : g261 (d + 1) x1 =
 obind (g203 d x1 8) fun r2 =>
 obind (g230 d r2.2 24) fun r3 =>
 oif r3.1 (
 obind (g203 d r3.2 2) fun r4 =>
 j261_2 d (IntKind.i64.wrap ((40 : Int) + r4.1)) r4.2.1 r4.2.2.1 r4.2.2.2) (
 j261_2 d (IntKind.i64.wrap ((1 : Int) + r2.1)) r3.2.1 r3.2.2.1 r3.2.2.2) := by kernel_rfl

theorem e204 (d : Nat) (n1 : Int) (n2 : Int) : g204 (d + 1) n1 n2 =
 oif (decide ((n1 : Int) > n2)) (
 some n1) (
 some n2) := by kernel_rfl

noncomputable def j270_0 (d : Nat)  (n3 : Int) : Option Int :=
 some n3
noncomputable def l270_0_b (d : Nat) (l1 : List Int) (kx270_0_0 : Int → Option Int) (ag2 : (Int × Int) → Option Int) (n3 : Int) (n4 : Int) : Option Int :=
 oif (decide ((n4 : Int) < ((l1.length : Nat) : Int))) (
 oif (decide (0 ≤ (n4 : Int))) (
 obind (l1[(n4 : Int).toNat]?) fun n5 =>
 ag2 ((IntKind.i64.wrap (n3 + n5)), (IntKind.i64.wrap (n4 + 1)))) none) (
 kx270_0_0 n3)
noncomputable def l270_0 (d : Nat) (l1 : List Int) (kx270_0_0 : Int → Option Int) (ag2 : (Int × Int) → Option Int) (s : (Int × Int)) : Option Int := l270_0_b d l1 kx270_0_0 ag2 s.1 s.2
theorem e270 (d : Nat) (l1 : List Int) : g270 (d + 1) l1 =
 iterP (l270_0 d l1 (j270_0 d)) fuelN (0, 0) := by kernel_rfl

theorem e274 (d : Nat) (n1 : Int) (n2 : Int) : g274 (d + 1) n1 n2 =
 oif (decide ((n1 : Int) < n2)) (
 some n1) (
 some n2) := by kernel_rfl

theorem e262 (d : Nat) (x1 : ((List Int) × Int × Int)) (l2 : List Int) : g262 (d + 1) x1 l2 =
 obind (g203 d x1 40) fun r3 =>
 obind (g270 d l2) fun r4 =>
 obind (g274 d r4 10000000) fun r5 =>
 obind (g270 d l2) fun r6 =>
 obind (g204 d 0 (IntKind.i64.wrap (r6.tdiv 2))) fun r7 =>
 obind (g190 d r3.2 [0, 1, r3.1, r5, r7, 10000000, 10000001, (-1)]) fun r8 =>
 some (r8.1, r8.2) := by kernel_rfl

theorem e100 (d : Nat) (l1 : List Int) : g100 (d + 1) l1 =
 obind (g261 d (l1, 0, 0)) fun r2 =>
 obind (g262 d r2.2 r2.1) fun r3 =>
 some (r2.1, r3.1) := by kernel_rfl

noncomputable def j263_0 (d : Nat) (l1 : List Int) (b3 : Bool) : Option Bool :=
 oif (decide ((((l1.length : Nat) : Int) : Int) ≥ 1)) (
 some (decide ((((l1.length : Nat) : Int) : Int) ≤ 40))) (
 some false)
noncomputable def l263_0_b (d : Nat) (l1 : List Int) (kx263_0_0 : Bool → Option Bool) (ag2 : (Bool × Int) → Option Bool) (b3 : Bool) (n4 : Int) : Option Bool :=
 oif (decide ((n4 : Int) < ((l1.length : Nat) : Int))) (
 oif (decide (0 ≤ (n4 : Int))) (
 obind (l1[(n4 : Int).toNat]?) fun n5 =>
 oif (decide ((n5 : Int) < 0)) (
 some false) (
 oif (decide ((n5 : Int) > 1000000)) (
 some false) (
 ag2 (b3, (IntKind.i64.wrap (n4 + 1)))))) none) (
 kx263_0_0 b3)
noncomputable def l263_0 (d : Nat) (l1 : List Int) (kx263_0_0 : Bool → Option Bool) (ag2 : (Bool × Int) → Option Bool) (s : (Bool × Int)) : Option Bool := l263_0_b d l1 kx263_0_0 ag2 s.1 s.2
theorem e263 (d : Nat) (l1 : List Int) : g263 (d + 1) l1 =
 iterP (l263_0 d l1 (j263_0 d l1)) fuelN (false, 0) := by kernel_rfl

theorem e264 (d : Nat) (n1 : Int) : g264 (d + 1) n1 =
 oif (decide ((n1 : Int) ≥ 0)) (
 some (decide ((n1 : Int) ≤ 10000000))) (
 some false) := by kernel_rfl

noncomputable def j266_0 (d : Nat)  (n3 : Int) : Option Int :=
 some n3
noncomputable def l266_0_b (d : Nat) (l1 : List Int) (kx266_0_0 : Int → Option Int) (ag2 : (Int × Int) → Option Int) (n3 : Int) (n4 : Int) : Option Int :=
 oif (decide ((n4 : Int) < ((l1.length : Nat) : Int))) (
 oif (decide (0 ≤ (n4 : Int))) (
 obind (l1[(n4 : Int).toNat]?) fun n5 =>
 ag2 ((IntKind.i64.wrap (n3 + n5)), (IntKind.i64.wrap (n4 + 1)))) none) (
 kx266_0_0 n3)
noncomputable def l266_0 (d : Nat) (l1 : List Int) (kx266_0_0 : Int → Option Int) (ag2 : (Int × Int) → Option Int) (s : (Int × Int)) : Option Int := l266_0_b d l1 kx266_0_0 ag2 s.1 s.2
theorem e266 (d : Nat) (l1 : List Int) : g266 (d + 1) l1 =
 iterP (l266_0 d l1 (j266_0 d)) fuelN (0, 0) := by kernel_rfl

noncomputable def j267_0 (d : Nat)  (l4 : List Int) : Option (List Int) :=
 some l4
noncomputable def l267_0_b (d : Nat) (l1 : List Int) (n2 : Int) (kx267_0_0 : (List Int) → Option (List Int)) (ag3 : ((List Int) × Int) → Option (List Int)) (l4 : List Int) (n5 : Int) : Option (List Int) :=
 oif (decide ((n5 : Int) < ((l1.length : Nat) : Int))) (
 oif (decide (0 ≤ (n5 : Int))) (
 obind (l1[(n5 : Int).toNat]?) fun n6 =>
 oif (Nat.ble ((l4.length + [(if n2 < n6 then n2 else n6)].length) * 8) roomMax) (
 ag3 ((l4 ++ [(if n2 < n6 then n2 else n6)]), (IntKind.i64.wrap (n5 + 1)))) none) none) (
 kx267_0_0 l4)
noncomputable def l267_0 (d : Nat) (l1 : List Int) (n2 : Int) (kx267_0_0 : (List Int) → Option (List Int)) (ag3 : ((List Int) × Int) → Option (List Int)) (s : ((List Int) × Int)) : Option (List Int) := l267_0_b d l1 n2 kx267_0_0 ag3 s.1 s.2
theorem e267 (d : Nat) (l1 : List Int) (n2 : Int) : g267 (d + 1) l1 n2 =
 iterP (l267_0 d l1 n2 (j267_0 d)) fuelN (([] : List Int), 0) := by kernel_rfl

noncomputable def j101_0 (d : Nat)  (l9 : List Int) : Option ((List Int) × Bool) :=
 some (l9, true)
noncomputable def j101_1 (d : Nat) (ag8 : (Int × Int × (List Int)) → Option ((List Int) × Bool)) (n9 : Int) (n10 : Int) (l11 : List Int) (b13 : Bool) (b14 : Bool) : Option ((List Int) × Bool) :=
 oif b14 (
 oif (decide (0 ≤ (n10 : Int))) (
 oif (Nat.blt ((n10 : Int).toNat) l11.length) (
 obind (l11[(n10 : Int).toNat]?) fun n15 =>
 oif (decide (0 ≤ (n10 : Int))) (
 oif (Nat.blt ((n10 : Int).toNat) l11.length) (
 obind (l11[(n10 : Int).toNat]?) fun n16 =>
 ag8 ((IntKind.i64.wrap (n9 - 1)), (IntKind.i64.wrap (n10 + 1)), (l11.set ((n10 : Int).toNat) (IntKind.i64.wrap (n15 + 1))))) none) none) none) none) (
 ag8 (n9, (IntKind.i64.wrap (n10 + 1)), l11))
noncomputable def l101_0_b (d : Nat) (l1 : List Int) (kx101_0_0 : (List Int) → Option ((List Int) × Bool)) (ag8 : (Int × Int × (List Int)) → Option ((List Int) × Bool)) (n9 : Int) (n10 : Int) (l11 : List Int) : Option ((List Int) × Bool) :=
 oif (decide ((n10 : Int) < ((l1.length : Nat) : Int))) (
 oif (decide (0 ≤ (n10 : Int))) (
 obind (l1[(n10 : Int).toNat]?) fun n12 =>
 oif (decide ((n9 : Int) > 0)) (
 oif (decide (0 ≤ (n10 : Int))) (
 oif (Nat.blt ((n10 : Int).toNat) l11.length) (
 obind (l11[(n10 : Int).toNat]?) fun n13 =>
 j101_1 d ag8 n9 n10 l11 true (decide ((n13 : Int) < n12))) none) none) (
 j101_1 d ag8 n9 n10 l11 false false)) none) (
 kx101_0_0 l11)
noncomputable def l101_0 (d : Nat) (l1 : List Int) (kx101_0_0 : (List Int) → Option ((List Int) × Bool)) (ag8 : (Int × Int × (List Int)) → Option ((List Int) × Bool)) (s : (Int × Int × (List Int))) : Option ((List Int) × Bool) := l101_0_b d l1 kx101_0_0 ag8 s.1 s.2.1 s.2.2
noncomputable def j101i220_0 (d : Nat) (l1 : List Int) (n2 : Int) (n5 : Int) : Option ((List Int) × Bool) :=
 obind (g267 (d + 2) l1 (IntKind.i64.wrap (n5 - 1))) fun r6 =>
 obind (g266 (d + 2) r6) fun r7 =>
 iterP (l101_0 d l1 (j101_0 d)) fuelN ((IntKind.i64.wrap (n2 - r7)), 0, r6)
noncomputable def l101i220_0_b (d : Nat) (l1 : List Int) (n2 : Int) (kx101i220_0_0 : Int → Option ((List Int) × Bool)) (ag4 : (Int × Int) → Option ((List Int) × Bool)) (n5 : Int) (n6 : Int) : Option ((List Int) × Bool) :=
 oif (decide ((n5 : Int) ≤ n6)) (
 obind (g267 d l1 (IntKind.i64.wrap ((IntKind.i64.wrap (n5 + n6)).tdiv 2))) fun r7 =>
 obind (g266 d r7) fun r8 =>
 oif (decide ((r8 : Int) > n2)) (
 ag4 (n5, (IntKind.i64.wrap ((IntKind.i64.wrap ((IntKind.i64.wrap (n5 + n6)).tdiv 2)) - 1)))) (
 ag4 ((IntKind.i64.wrap ((IntKind.i64.wrap ((IntKind.i64.wrap (n5 + n6)).tdiv 2)) + 1)), n6))) (
 kx101i220_0_0 n5)
noncomputable def l101i220_0 (d : Nat) (l1 : List Int) (n2 : Int) (kx101i220_0_0 : Int → Option ((List Int) × Bool)) (ag4 : (Int × Int) → Option ((List Int) × Bool)) (s : (Int × Int)) : Option ((List Int) × Bool) := l101i220_0_b d l1 n2 kx101i220_0_0 ag4 s.1 s.2
noncomputable def j101_2 (d : Nat) (l1 : List Int) (n2 : Int) (b3 : Bool) : Option ((List Int) × Bool) :=
 oif b3 (
 some ([], false)) (
 iterP (l101i220_0 d l1 n2 (j101i220_0 d l1 n2)) fuelN (0, 1000000))
theorem e101 (d : Nat) (l1 : List Int) (n2 : Int) : g101 (d + 3) l1 n2 =
 obind (g263 (d + 2) l1) fun r3 =>
 oif (!r3) (
 j101_2 d l1 n2 true) (
 obind (g264 (d + 2) n2) fun r4 =>
 j101_2 d l1 n2 (!r4)) := by kernel_rfl

theorem e211 (d : Nat) (n1 : Int) (n2 : Int) (n3 : Int) : g211 (d + 1) n1 n2 n3 =
 oif (decide ((n1 : Int) ≥ n2)) (
 some (decide ((n1 : Int) ≤ n3))) (
 some false) := by kernel_rfl

noncomputable def j257_0 (d : Nat)  (b5 : Bool) : Option Bool :=
 some true
noncomputable def l257_0_b (d : Nat) (l1 : List Int) (n2 : Int) (n3 : Int) (kx257_0_0 : Bool → Option Bool) (ag4 : (Bool × Int) → Option Bool) (b5 : Bool) (n6 : Int) : Option Bool :=
 oif (decide ((n6 : Int) < ((l1.length : Nat) : Int))) (
 oif (decide (0 ≤ (n6 : Int))) (
 obind (l1[(n6 : Int).toNat]?) fun n7 =>
 obind (g211 d n7 n2 n3) fun r8 =>
 oif (!r8) (
 some false) (
 ag4 (b5, (IntKind.i64.wrap (n6 + 1))))) none) (
 kx257_0_0 b5)
noncomputable def l257_0 (d : Nat) (l1 : List Int) (n2 : Int) (n3 : Int) (kx257_0_0 : Bool → Option Bool) (ag4 : (Bool × Int) → Option Bool) (s : (Bool × Int)) : Option Bool := l257_0_b d l1 n2 n3 kx257_0_0 ag4 s.1 s.2
theorem e257 (d : Nat) (l1 : List Int) (n2 : Int) (n3 : Int) : g257 (d + 1) l1 n2 n3 =
 iterP (l257_0 d l1 n2 n3 (j257_0 d)) fuelN (false, 0) := by kernel_rfl

theorem e268 (d : Nat) (l1 : List Int) : g268 (d + 1) l1 =
 obind (g211 d ((l1.length : Nat) : Int) 1 40) fun r2 =>
 oif r2 (
 obind (g257 d l1 0 1000000) fun r3 =>
 some r3) (
 some false) := by kernel_rfl

theorem e269 (d : Nat) (n1 : Int) : g269 (d + 1) n1 =
 obind (g211 d n1 0 10000000) fun r2 =>
 some r2 := by kernel_rfl

noncomputable def j271_0 (d : Nat)  (l4 : List Int) : Option (List Int) :=
 some l4
noncomputable def l271_0_b (d : Nat) (l1 : List Int) (n2 : Int) (kx271_0_0 : (List Int) → Option (List Int)) (ag3 : ((List Int) × Int) → Option (List Int)) (l4 : List Int) (n5 : Int) : Option (List Int) :=
 oif (decide ((n5 : Int) < ((l1.length : Nat) : Int))) (
 oif (decide (0 ≤ (n5 : Int))) (
 obind (l1[(n5 : Int).toNat]?) fun n6 =>
 obind (g274 d n6 n2) fun r7 =>
 oif (Nat.ble ((l4.length + [r7].length) * 8) roomMax) (
 ag3 ((l4 ++ [r7]), (IntKind.i64.wrap (n5 + 1)))) none) none) (
 kx271_0_0 l4)
noncomputable def l271_0 (d : Nat) (l1 : List Int) (n2 : Int) (kx271_0_0 : (List Int) → Option (List Int)) (ag3 : ((List Int) × Int) → Option (List Int)) (s : ((List Int) × Int)) : Option (List Int) := l271_0_b d l1 n2 kx271_0_0 ag3 s.1 s.2
theorem e271 (d : Nat) (l1 : List Int) (n2 : Int) : g271 (d + 1) l1 n2 =
 iterP (l271_0 d l1 n2 (j271_0 d)) fuelN ([], 0) := by kernel_rfl

noncomputable def j102_0 (d : Nat)  (l9 : List Int) : Option ((List Int) × Bool) :=
 some (l9, true)
noncomputable def j102_1 (d : Nat) (ag8 : (Int × Int × (List Int)) → Option ((List Int) × Bool)) (n9 : Int) (n10 : Int) (l11 : List Int) (b13 : Bool) (b14 : Bool) : Option ((List Int) × Bool) :=
 oif b14 (
 oif (decide (0 ≤ (n10 : Int))) (
 oif (Nat.blt ((n10 : Int).toNat) l11.length) (
 obind (l11[(n10 : Int).toNat]?) fun n15 =>
 oif (decide (0 ≤ (n10 : Int))) (
 oif (Nat.blt ((n10 : Int).toNat) l11.length) (
 obind (l11[(n10 : Int).toNat]?) fun n16 =>
 ag8 ((IntKind.i64.wrap (n9 - 1)), (IntKind.i64.wrap (n10 + 1)), (l11.set ((n10 : Int).toNat) (IntKind.i64.wrap (n15 + 1))))) none) none) none) none) (
 ag8 (n9, (IntKind.i64.wrap (n10 + 1)), l11))
noncomputable def l102_1_b (d : Nat) (l1 : List Int) (n5 : Int) (kx102_1_0 : (List Int) → Option ((List Int) × Bool)) (ag8 : (Int × Int × (List Int)) → Option ((List Int) × Bool)) (n9 : Int) (n10 : Int) (l11 : List Int) : Option ((List Int) × Bool) :=
 oif (decide ((n10 : Int) < ((l1.length : Nat) : Int))) (
 oif (decide (0 ≤ (n10 : Int))) (
 obind (l1[(n10 : Int).toNat]?) fun n12 =>
 oif (decide ((n9 : Int) > 0)) (
 j102_1 d ag8 n9 n10 l11 true (decide ((n12 : Int) > n5))) (
 j102_1 d ag8 n9 n10 l11 false false)) none) (
 kx102_1_0 l11)
noncomputable def l102_1 (d : Nat) (l1 : List Int) (n5 : Int) (kx102_1_0 : (List Int) → Option ((List Int) × Bool)) (ag8 : (Int × Int × (List Int)) → Option ((List Int) × Bool)) (s : (Int × Int × (List Int))) : Option ((List Int) × Bool) := l102_1_b d l1 n5 kx102_1_0 ag8 s.1 s.2.1 s.2.2
noncomputable def j102_2 (d : Nat) (l1 : List Int) (n2 : Int) (n5 : Int) : Option ((List Int) × Bool) :=
 obind (g271 d l1 n5) fun r6 =>
 obind (g270 d r6) fun r7 =>
 iterP (l102_1 d l1 n5 (j102_0 d)) fuelN ((IntKind.i64.wrap (n2 - r7)), 0, r6)
noncomputable def l102_0_b (d : Nat) (l1 : List Int) (n2 : Int) (kx102_0_0 : Int → Option ((List Int) × Bool)) (ag4 : (Int × Int) → Option ((List Int) × Bool)) (n5 : Int) (n6 : Int) : Option ((List Int) × Bool) :=
 oif (decide ((n6 : Int) > 0)) (
 obind (g271 d l1 (IntKind.i64.wrap (n5 + n6))) fun r7 =>
 obind (g270 d r7) fun r8 =>
 oif (decide ((r8 : Int) ≤ n2)) (
 ag4 ((IntKind.i64.wrap (n5 + n6)), (IntKind.i64.wrap (n6.tdiv 2)))) (
 ag4 (n5, (IntKind.i64.wrap (n6.tdiv 2))))) (
 kx102_0_0 n5)
noncomputable def l102_0 (d : Nat) (l1 : List Int) (n2 : Int) (kx102_0_0 : Int → Option ((List Int) × Bool)) (ag4 : (Int × Int) → Option ((List Int) × Bool)) (s : (Int × Int)) : Option ((List Int) × Bool) := l102_0_b d l1 n2 kx102_0_0 ag4 s.1 s.2
noncomputable def j102_3 (d : Nat) (l1 : List Int) (n2 : Int) (b3 : Bool) : Option ((List Int) × Bool) :=
 oif b3 (
 some ([], false)) (
 iterP (l102_0 d l1 n2 (j102_2 d l1 n2)) fuelN (0, 1048576))
theorem e102 (d : Nat) (l1 : List Int) (n2 : Int) : g102 (d + 1) l1 n2 =
 obind (g268 d l1) fun r3 =>
 oif (!r3) (
 j102_3 d l1 n2 true) (
 obind (g269 d n2) fun r4 =>
 j102_3 d l1 n2 (!r4)) := by kernel_rfl

noncomputable def j103_0 (d : Nat)  (l14 : List Int) (n15 : Int) (n16 : Int) (l17 : List Int) (l18 : List Int) : Option ((List Int) × (List Int) × Int) :=
 obind (g203 d (l14, n15, n16) 60) fun r19 =>
 obind (g270 d l17) fun r20 =>
 obind (g190 d r19.2 [0, 1, r19.1, r20, 10000, 10001, (-1)]) fun r21 =>
 some (l17, l18, r21.1)
noncomputable def j103_1 (d : Nat) (r2 : ((List Int) × ((List Int) × Int × Int))) (l9 : List Int) (n10 : Int) (n11 : Int) (l12 : List Int) : Option ((List Int) × (List Int) × Int) :=
 obind (g230 d (l9, n10, n11) 24) fun r13 =>
 oif r13.1 (
 obind (g203 d r13.2 2) fun r14 =>
 j103_0 d r14.2.1 r14.2.2.1 r14.2.2.2 [5000, (IntKind.i64.wrap ((5000 : Int) + r14.1))] [1, 2]) (
 j103_0 d r13.2.1 r13.2.2.1 r13.2.2.2 r2.1 l12)
noncomputable def j103_2 (d : Nat) (r2 : ((List Int) × ((List Int) × Int × Int))) (l4 : List Int) (n5 : Int) (n6 : Int) (l7 : List Int) : Option ((List Int) × (List Int) × Int) :=
 obind (g203 d (l4, n5, n6) 24) fun r8 =>
 oif ((r8.1 : Int) == 0) (
 oif (Nat.ble ((l7.length + [1].length) * 8) roomMax) (
 j103_1 d r2 r8.2.1 r8.2.2.1 r8.2.2.2 (l7 ++ [1])) none) (
 oif ((r8.1 : Int) == 1) (
 oif (decide ((((l7.length : Nat) : Int) : Int) > 0)) (
 obind (g190 d r8.2 [0, 101]) fun r9 =>
 oif (Nat.blt 0 l7.length) (
 obind (l7[0]?) fun n10 =>
 j103_1 d r2 r9.2.1 r9.2.2.1 r9.2.2.2 (l7.set 0 r9.1)) none) (
 j103_1 d r2 r8.2.1 r8.2.2.1 r8.2.2.2 l7)) (
 j103_1 d r2 r8.2.1 r8.2.2.1 r8.2.2.2 l7))
noncomputable def l103_0_b (d : Nat) (r2 : ((List Int) × ((List Int) × Int × Int))) (kx103_0_0 : (List Int) → Int → Int → (List Int) → Option ((List Int) × (List Int) × Int)) (ag3 : ((List Int) × Int × ((List Int) × Int × Int)) → Option ((List Int) × (List Int) × Int)) (l4 : List Int) (n5 : Int) (x6 : ((List Int) × Int × Int)) : Option ((List Int) × (List Int) × Int) :=
 oif (decide ((n5 : Int) < ((r2.1.length : Nat) : Int))) (
 obind (g190 d x6 [1, 1, 2, 3, 10, 100]) fun r7 =>
 oif (Nat.ble ((l4.length + [r7.1].length) * 8) roomMax) (
 ag3 ((l4 ++ [r7.1]), (IntKind.i64.wrap (n5 + 1)), r7.2)) none) (
 kx103_0_0 x6.1 x6.2.1 x6.2.2 l4)
noncomputable def l103_0 (d : Nat) (r2 : ((List Int) × ((List Int) × Int × Int))) (kx103_0_0 : (List Int) → Int → Int → (List Int) → Option ((List Int) × (List Int) × Int)) (ag3 : ((List Int) × Int × ((List Int) × Int × Int)) → Option ((List Int) × (List Int) × Int)) (s : ((List Int) × Int × ((List Int) × Int × Int))) : Option ((List Int) × (List Int) × Int) := l103_0_b d r2 kx103_0_0 ag3 s.1 s.2.1 s.2.2
theorem e103 (d : Nat) (l1 : List Int) : g103 (d + 1) l1 =
 obind (g261 d (l1, 0, 0)) fun r2 =>
 iterP (l103_0 d r2 (j103_2 d r2)) fuelN ([], 0, r2.2) := by kernel_rfl

noncomputable def j104_0 (d : Nat)  (l9 : List Int) : Option ((List Int) × Bool) :=
 some (l9, true)
noncomputable def j104_1 (d : Nat) (kx104_1_0 : (List Int) → Option ((List Int) × Bool)) (ag8 : (Int × (List Int)) → Option ((List Int) × Bool)) (n9 : Int) (l10 : List Int) (n12 : Int) (n13 : Int) : Option ((List Int) × Bool) :=
 oif (decide ((n12 : Int) < 0)) (
 kx104_1_0 l10) (
 oif (decide (0 ≤ (n12 : Int))) (
 oif (Nat.blt ((n12 : Int).toNat) l10.length) (
 obind (l10[(n12 : Int).toNat]?) fun n14 =>
 oif (decide (0 ≤ (n12 : Int))) (
 oif (Nat.blt ((n12 : Int).toNat) l10.length) (
 obind (l10[(n12 : Int).toNat]?) fun n15 =>
 ag8 ((IntKind.i64.wrap (n9 - 1)), (l10.set ((n12 : Int).toNat) (IntKind.i64.wrap (n14 + 1))))) none) none) none) none)
noncomputable def l104_2_b (d : Nat) (l1 : List Int) (l2 : List Int) (l10 : List Int) (kx104_2_0 : Int → Int → Option ((List Int) × Bool)) (ag11 : (Int × Int) → Option ((List Int) × Bool)) (n12 : Int) (n13 : Int) : Option ((List Int) × Bool) :=
 oif (decide ((n13 : Int) < ((l1.length : Nat) : Int))) (
 oif (decide (0 ≤ (n13 : Int))) (
 obind (l1[(n13 : Int).toNat]?) fun n14 =>
 oif (decide (0 ≤ (n13 : Int))) (
 oif (Nat.blt ((n13 : Int).toNat) l10.length) (
 obind (l10[(n13 : Int).toNat]?) fun n15 =>
 oif (decide ((n15 : Int) < n14)) (
 oif (decide ((n12 : Int) < 0)) (
 ag11 (n13, (IntKind.i64.wrap (n13 + 1)))) (
 oif (decide (0 ≤ (n13 : Int))) (
 oif (Nat.blt ((n13 : Int).toNat) l10.length) (
 obind (l10[(n13 : Int).toNat]?) fun n16 =>
 oif (decide (0 ≤ (n12 : Int))) (
 obind (l2[(n12 : Int).toNat]?) fun n17 =>
 oif (decide (0 ≤ (n12 : Int))) (
 oif (Nat.blt ((n12 : Int).toNat) l10.length) (
 obind (l10[(n12 : Int).toNat]?) fun n18 =>
 oif (decide (0 ≤ (n13 : Int))) (
 obind (l2[(n13 : Int).toNat]?) fun n19 =>
 oif (decide (((IntKind.i64.wrap ((IntKind.i64.wrap (n16 + 1)) * n17)) : Int) < (IntKind.i64.wrap ((IntKind.i64.wrap (n18 + 1)) * n19)))) (
 ag11 (n13, (IntKind.i64.wrap (n13 + 1)))) (
 ag11 (n12, (IntKind.i64.wrap (n13 + 1))))) none) none) none) none) none) none)) (
 ag11 (n12, (IntKind.i64.wrap (n13 + 1))))) none) none) none) (
 kx104_2_0 n12 n13)
noncomputable def l104_2 (d : Nat) (l1 : List Int) (l2 : List Int) (l10 : List Int) (kx104_2_0 : Int → Int → Option ((List Int) × Bool)) (ag11 : (Int × Int) → Option ((List Int) × Bool)) (s : (Int × Int)) : Option ((List Int) × Bool) := l104_2_b d l1 l2 l10 kx104_2_0 ag11 s.1 s.2
noncomputable def l104_1_b (d : Nat) (l1 : List Int) (l2 : List Int) (kx104_1_0 : (List Int) → Option ((List Int) × Bool)) (ag8 : (Int × (List Int)) → Option ((List Int) × Bool)) (n9 : Int) (l10 : List Int) : Option ((List Int) × Bool) :=
 oif (decide ((n9 : Int) > 0)) (
 iterP (l104_2 d l1 l2 l10 (j104_1 d kx104_1_0 ag8 n9 l10)) fuelN ((-1), 0)) (
 kx104_1_0 l10)
noncomputable def l104_1 (d : Nat) (l1 : List Int) (l2 : List Int) (kx104_1_0 : (List Int) → Option ((List Int) × Bool)) (ag8 : (Int × (List Int)) → Option ((List Int) × Bool)) (s : (Int × (List Int))) : Option ((List Int) × Bool) := l104_1_b d l1 l2 kx104_1_0 ag8 s.1 s.2
noncomputable def j104_2 (d : Nat) (l1 : List Int) (l2 : List Int) (n3 : Int) (b6 : Bool) (l7 : List Int) : Option ((List Int) × Bool) :=
 oif (decide (0 ≤ (((l1.length : Nat) : Int) : Int))) (
 oif (decide (0 ≤ (((l1.length : Nat) : Int) : Int))) (
 oif (Nat.ble ((((l1.length : Nat) : Int) : Int).toNat) ((((l1.length : Nat) : Int) : Int).toNat) && Nat.ble (((((l1.length : Nat) : Int) : Int).toNat) * 8) roomMax) (
 iterP (l104_1 d l1 l2 (j104_0 d)) fuelN (n3, (List.replicate ((((l1.length : Nat) : Int) : Int).toNat) (0 : Int)))) none) none) none
noncomputable def l104_0_b (d : Nat) (l2 : List Int) (kx104_0_0 : Bool → (List Int) → Option ((List Int) × Bool)) (ag5 : ((List Int) × Bool × Int) → Option ((List Int) × Bool)) (l6 : List Int) (b7 : Bool) (n8 : Int) : Option ((List Int) × Bool) :=
 oif (decide ((n8 : Int) < ((l2.length : Nat) : Int))) (
 oif (decide (0 ≤ (n8 : Int))) (
 obind (l2[(n8 : Int).toNat]?) fun n9 =>
 oif (decide ((n9 : Int) < 1)) (
 some ([], false)) (
 oif (decide ((n9 : Int) > 100)) (
 some ([], false)) (
 ag5 (l6, b7, (IntKind.i64.wrap (n8 + 1)))))) none) (
 kx104_0_0 b7 l6)
noncomputable def l104_0 (d : Nat) (l2 : List Int) (kx104_0_0 : Bool → (List Int) → Option ((List Int) × Bool)) (ag5 : ((List Int) × Bool × Int) → Option ((List Int) × Bool)) (s : ((List Int) × Bool × Int)) : Option ((List Int) × Bool) := l104_0_b d l2 kx104_0_0 ag5 s.1 s.2.1 s.2.2
noncomputable def j104_3 (d : Nat) (l1 : List Int) (l2 : List Int) (n3 : Int) (b4 : Bool) : Option ((List Int) × Bool) :=
 oif b4 (
 some ([], false)) (
 iterP (l104_0 d l2 (j104_2 d l1 l2 n3)) fuelN ([], false, 0))
theorem e104 (d : Nat) (l1 : List Int) (l2 : List Int) (n3 : Int) : g104 (d + 1) l1 l2 n3 =
 obind (g263 d l1) fun r4 =>
 oif (!r4) (
 j104_3 d l1 l2 n3 true) (
 oif ((((l2.length : Nat) : Int) : Int) != ((l1.length : Nat) : Int)) (
 j104_3 d l1 l2 n3 true) (
 oif (decide ((n3 : Int) < 0)) (
 j104_3 d l1 l2 n3 true) (
 oif (decide ((n3 : Int) > 10000)) (
 j104_3 d l1 l2 n3 true) (
 obind (g266 d l1) fun r5 =>
 j104_3 d l1 l2 n3 (decide ((r5 : Int) > 10000)))))) := by kernel_rfl

theorem e272 (d : Nat) (l1 : List Int) (l2 : List Int) (n3 : Int) : g272 (d + 1) l1 l2 n3 =
 obind (g268 d l1) fun r4 =>
 oif r4 (
 oif ((((l2.length : Nat) : Int) : Int) == ((l1.length : Nat) : Int)) (
 obind (g257 d l2 1 100) fun r5 =>
 oif r5 (
 obind (g211 d n3 0 10000) fun r6 =>
 oif r6 (
 obind (g270 d l1) fun r7 =>
 some (decide ((r7 : Int) ≤ 10000))) (
 some false)) (
 some false)) (
 some false)) (
 some false) := by kernel_rfl

noncomputable def j105_0 (d : Nat)  (l6 : List Int) : Option ((List Int) × Bool) :=
 some (l6, true)
noncomputable def j105_1 (d : Nat) (kx105_0_0 : (List Int) → Option ((List Int) × Bool)) (ag5 : (Int × (List Int)) → Option ((List Int) × Bool)) (n6 : Int) (l7 : List Int) (n9 : Int) (n10 : Int) : Option ((List Int) × Bool) :=
 oif (decide ((n9 : Int) < 0)) (
 kx105_0_0 l7) (
 oif (decide (0 ≤ (n9 : Int))) (
 oif (Nat.blt ((n9 : Int).toNat) l7.length) (
 obind (l7[(n9 : Int).toNat]?) fun n11 =>
 oif (decide (0 ≤ (n9 : Int))) (
 oif (Nat.blt ((n9 : Int).toNat) l7.length) (
 obind (l7[(n9 : Int).toNat]?) fun n12 =>
 ag5 ((IntKind.i64.wrap (n6 - 1)), (l7.set ((n9 : Int).toNat) (IntKind.i64.wrap (n11 + 1))))) none) none) none) none)
noncomputable def l105_1_b (d : Nat) (l1 : List Int) (l2 : List Int) (l7 : List Int) (kx105_1_0 : Int → Int → Option ((List Int) × Bool)) (ag8 : (Int × Int) → Option ((List Int) × Bool)) (n9 : Int) (n10 : Int) : Option ((List Int) × Bool) :=
 oif (decide ((n10 : Int) < ((l1.length : Nat) : Int))) (
 oif (decide (0 ≤ (n10 : Int))) (
 obind (l1[(n10 : Int).toNat]?) fun n11 =>
 oif (decide (0 ≤ (n10 : Int))) (
 oif (Nat.blt ((n10 : Int).toNat) l7.length) (
 obind (l7[(n10 : Int).toNat]?) fun n12 =>
 oif (decide ((n12 : Int) < n11)) (
 oif (decide ((n9 : Int) < 0)) (
 ag8 (n10, (IntKind.i64.wrap (n10 + 1)))) (
 oif (decide (0 ≤ (n10 : Int))) (
 oif (Nat.blt ((n10 : Int).toNat) l7.length) (
 obind (l7[(n10 : Int).toNat]?) fun n13 =>
 oif (decide (0 ≤ (n9 : Int))) (
 obind (l2[(n9 : Int).toNat]?) fun n14 =>
 oif (decide (0 ≤ (n9 : Int))) (
 oif (Nat.blt ((n9 : Int).toNat) l7.length) (
 obind (l7[(n9 : Int).toNat]?) fun n15 =>
 oif (decide (0 ≤ (n10 : Int))) (
 obind (l2[(n10 : Int).toNat]?) fun n16 =>
 oif (decide (((IntKind.i64.wrap ((IntKind.i64.wrap (n13 + 1)) * n14)) : Int) < (IntKind.i64.wrap ((IntKind.i64.wrap (n15 + 1)) * n16)))) (
 ag8 (n10, (IntKind.i64.wrap (n10 + 1)))) (
 ag8 (n9, (IntKind.i64.wrap (n10 + 1))))) none) none) none) none) none) none)) (
 ag8 (n9, (IntKind.i64.wrap (n10 + 1))))) none) none) none) (
 kx105_1_0 n9 n10)
noncomputable def l105_1 (d : Nat) (l1 : List Int) (l2 : List Int) (l7 : List Int) (kx105_1_0 : Int → Int → Option ((List Int) × Bool)) (ag8 : (Int × Int) → Option ((List Int) × Bool)) (s : (Int × Int)) : Option ((List Int) × Bool) := l105_1_b d l1 l2 l7 kx105_1_0 ag8 s.1 s.2
noncomputable def l105_0_b (d : Nat) (l1 : List Int) (l2 : List Int) (kx105_0_0 : (List Int) → Option ((List Int) × Bool)) (ag5 : (Int × (List Int)) → Option ((List Int) × Bool)) (n6 : Int) (l7 : List Int) : Option ((List Int) × Bool) :=
 oif (decide ((n6 : Int) > 0)) (
 iterP (l105_1 d l1 l2 l7 (j105_1 d kx105_0_0 ag5 n6 l7)) fuelN ((-1), 0)) (
 kx105_0_0 l7)
noncomputable def l105_0 (d : Nat) (l1 : List Int) (l2 : List Int) (kx105_0_0 : (List Int) → Option ((List Int) × Bool)) (ag5 : (Int × (List Int)) → Option ((List Int) × Bool)) (s : (Int × (List Int))) : Option ((List Int) × Bool) := l105_0_b d l1 l2 kx105_0_0 ag5 s.1 s.2
theorem e105 (d : Nat) (l1 : List Int) (l2 : List Int) (n3 : Int) : g105 (d + 1) l1 l2 n3 =
 obind (g272 d l1 l2 n3) fun r4 =>
 oif (!r4) (
 some ([], false)) (
 oif (decide (0 ≤ (((l1.length : Nat) : Int) : Int))) (
 oif (decide (0 ≤ (((l1.length : Nat) : Int) : Int))) (
 oif (Nat.ble ((((l1.length : Nat) : Int) : Int).toNat) ((((l1.length : Nat) : Int) : Int).toNat) && Nat.ble (((((l1.length : Nat) : Int) : Int).toNat) * 8) roomMax) (
 iterP (l105_0 d l1 l2 (j105_0 d)) fuelN (n3, (List.replicate ((((l1.length : Nat) : Int) : Int).toNat) (0 : Int)))) none) none) none) := by kernel_rfl

theorem e106 (d : Nat) (l1 : List Int) : g106 (d + 1) l1 =
 obind (g261 d (l1, 0, 0)) fun r2 =>
 obind (g262 d r2.2 r2.1) fun r3 =>
 obind (g102 d r2.1 r3.1) fun r4 =>
 oif (!r4.2) (
 some (r2.1, r2.1, r3.1)) (
 obind (g230 d r3.2 2) fun r5 =>
 oif r5.1 (
 obind (g203 d r5.2 ((r4.1.length : Nat) : Int)) fun r6 =>
 oif (decide (0 ≤ (r6.1 : Int))) (
 oif (Nat.blt ((r6.1 : Int).toNat) r4.1.length) (
 obind (r4.1[(r6.1 : Int).toNat]?) fun n7 =>
 obind (g190 d r6.2 [1, (-1), (-2)]) fun r8 =>
 obind (g204 d 0 (IntKind.i64.wrap (n7 + r8.1))) fun r9 =>
 oif (decide (0 ≤ (r6.1 : Int))) (
 oif (Nat.blt ((r6.1 : Int).toNat) r4.1.length) (
 obind (r4.1[(r6.1 : Int).toNat]?) fun n10 =>
 obind (g203 d r8.2 6) fun r11 =>
 some (r2.1, (r4.1.set ((r6.1 : Int).toNat) r9), (IntKind.i64.wrap (r3.1 + (IntKind.i64.wrap (r11.1.tdiv 5)))))) none) none) none) none) (
 obind (g203 d r5.2 6) fun r12 =>
 some (r2.1, r4.1, (IntKind.i64.wrap (r3.1 + (IntKind.i64.wrap (r12.1.tdiv 5))))))) := by kernel_rfl

noncomputable def j107_0 (d : Nat)  (b8 : Bool) (b9 : Bool) : Option (Bool × Bool) :=
 some (true, true)
noncomputable def j107_1 (d : Nat) (ag7 : (Bool × Bool × Int) → Option (Bool × Bool)) (n10 : Int) (b14 : Bool) (b15 : Bool) (n16 : Int) : Option (Bool × Bool) :=
 ag7 (b14, b15, (IntKind.i64.wrap (n10 + 1)))
noncomputable def l107_1_b (d : Nat) (l2 : List Int) (n10 : Int) (n11 : Int) (kx107_1_0 : Bool → Bool → Int → Option (Bool × Bool)) (ag13 : (Bool × Bool × Int) → Option (Bool × Bool)) (b14 : Bool) (b15 : Bool) (n16 : Int) : Option (Bool × Bool) :=
 oif (decide ((n16 : Int) < ((l2.length : Nat) : Int))) (
 oif (decide (0 ≤ (n16 : Int))) (
 obind (l2[(n16 : Int).toNat]?) fun n17 =>
 oif (decide (0 ≤ (n10 : Int))) (
 obind (l2[(n10 : Int).toNat]?) fun n18 =>
 oif (decide ((n18 : Int) < n11)) (
 oif (decide (0 ≤ (n10 : Int))) (
 obind (l2[(n10 : Int).toNat]?) fun n19 =>
 oif (decide ((n17 : Int) > (IntKind.i64.wrap (n19 + 1)))) (
 some (false, true)) (
 ag13 (b14, b15, (IntKind.i64.wrap (n16 + 1))))) none) (
 ag13 (b14, b15, (IntKind.i64.wrap (n16 + 1))))) none) none) (
 kx107_1_0 b14 b15 n16)
noncomputable def l107_1 (d : Nat) (l2 : List Int) (n10 : Int) (n11 : Int) (kx107_1_0 : Bool → Bool → Int → Option (Bool × Bool)) (ag13 : (Bool × Bool × Int) → Option (Bool × Bool)) (s : (Bool × Bool × Int)) : Option (Bool × Bool) := l107_1_b d l2 n10 n11 kx107_1_0 ag13 s.1 s.2.1 s.2.2
noncomputable def l107_0_b (d : Nat) (l1 : List Int) (l2 : List Int) (kx107_0_0 : Bool → Bool → Option (Bool × Bool)) (ag7 : (Bool × Bool × Int) → Option (Bool × Bool)) (b8 : Bool) (b9 : Bool) (n10 : Int) : Option (Bool × Bool) :=
 oif (decide ((n10 : Int) < ((l1.length : Nat) : Int))) (
 oif (decide (0 ≤ (n10 : Int))) (
 obind (l1[(n10 : Int).toNat]?) fun n11 =>
 oif (decide (0 ≤ (n10 : Int))) (
 obind (l2[(n10 : Int).toNat]?) fun n12 =>
 oif (decide ((n12 : Int) > n11)) (
 some (false, true)) (
 iterP (l107_1 d l2 n10 n11 (j107_1 d ag7 n10)) fuelN (b8, b9, 0))) none) none) (
 kx107_0_0 b8 b9)
noncomputable def l107_0 (d : Nat) (l1 : List Int) (l2 : List Int) (kx107_0_0 : Bool → Bool → Option (Bool × Bool)) (ag7 : (Bool × Bool × Int) → Option (Bool × Bool)) (s : (Bool × Bool × Int)) : Option (Bool × Bool) := l107_0_b d l1 l2 kx107_0_0 ag7 s.1 s.2.1 s.2.2
noncomputable def j107_2 (d : Nat) (l1 : List Int) (l2 : List Int) (n3 : Int) (b4 : Bool) : Option (Bool × Bool) :=
 oif b4 (
 some (false, false)) (
 obind (g266 d l2) fun r5 =>
 obind (g266 d l1) fun r6 =>
 oif ((r5 : Int) != (if r6 < n3 then r6 else n3)) (
 some (false, true)) (
 iterP (l107_0 d l1 l2 (j107_0 d)) fuelN (false, false, 0)))
theorem e107 (d : Nat) (l1 : List Int) (l2 : List Int) (n3 : Int) : g107 (d + 1) l1 l2 n3 =
 obind (g263 d l1) fun r4 =>
 oif (!r4) (
 j107_2 d l1 l2 n3 true) (
 obind (g263 d l2) fun r5 =>
 oif (!r5) (
 j107_2 d l1 l2 n3 true) (
 oif ((((l2.length : Nat) : Int) : Int) != ((l1.length : Nat) : Int)) (
 j107_2 d l1 l2 n3 true) (
 obind (g264 d n3) fun r6 =>
 j107_2 d l1 l2 n3 (!r6)))) := by kernel_rfl

theorem e273 (d : Nat) (l1 : List Int) (l2 : List Int) : g273 (d + 1) l1 l2 =
 obind (g268 d l1) fun r3 =>
 oif r3 (
 obind (g268 d l2) fun r4 =>
 oif r4 (
 some ((((l2.length : Nat) : Int) : Int) == ((l1.length : Nat) : Int))) (
 some false)) (
 some false) := by kernel_rfl

noncomputable def j108_0 (d : Nat) (l1 : List Int) (l2 : List Int) (n3 : Int) (b6 : Bool) (b7 : Bool) : Option (Bool × Bool) :=
 obind (g270 d l2) fun r8 =>
 obind (g270 d l1) fun r9 =>
 obind (g274 d n3 r9) fun r10 =>
 some (((r8 : Int) == r10), true)
noncomputable def j108_1 (d : Nat) (ag5 : (Bool × Bool × Int) → Option (Bool × Bool)) (n8 : Int) (b12 : Bool) (b13 : Bool) (n14 : Int) : Option (Bool × Bool) :=
 ag5 (b12, b13, (IntKind.i64.wrap (n8 + 1)))
noncomputable def l108_1_b (d : Nat) (l1 : List Int) (l2 : List Int) (n9 : Int) (kx108_1_0 : Bool → Bool → Int → Option (Bool × Bool)) (ag11 : (Bool × Bool × Int) → Option (Bool × Bool)) (b12 : Bool) (b13 : Bool) (n14 : Int) : Option (Bool × Bool) :=
 oif (decide ((n14 : Int) < ((l2.length : Nat) : Int))) (
 oif (decide (0 ≤ (n14 : Int))) (
 obind (l2[(n14 : Int).toNat]?) fun n15 =>
 oif (decide (0 ≤ (n14 : Int))) (
 obind (l1[(n14 : Int).toNat]?) fun n16 =>
 oif (decide ((n15 : Int) < n16)) (
 oif (decide ((n9 : Int) > (IntKind.i64.wrap (n15 + 1)))) (
 some (false, true)) (
 ag11 (b12, b13, (IntKind.i64.wrap (n14 + 1))))) (
 ag11 (b12, b13, (IntKind.i64.wrap (n14 + 1))))) none) none) (
 kx108_1_0 b12 b13 n14)
noncomputable def l108_1 (d : Nat) (l1 : List Int) (l2 : List Int) (n9 : Int) (kx108_1_0 : Bool → Bool → Int → Option (Bool × Bool)) (ag11 : (Bool × Bool × Int) → Option (Bool × Bool)) (s : (Bool × Bool × Int)) : Option (Bool × Bool) := l108_1_b d l1 l2 n9 kx108_1_0 ag11 s.1 s.2.1 s.2.2
noncomputable def l108_0_b (d : Nat) (l1 : List Int) (l2 : List Int) (kx108_0_0 : Bool → Bool → Option (Bool × Bool)) (ag5 : (Bool × Bool × Int) → Option (Bool × Bool)) (b6 : Bool) (b7 : Bool) (n8 : Int) : Option (Bool × Bool) :=
 oif (decide ((n8 : Int) < ((l2.length : Nat) : Int))) (
 oif (decide (0 ≤ (n8 : Int))) (
 obind (l2[(n8 : Int).toNat]?) fun n9 =>
 oif (decide (0 ≤ (n8 : Int))) (
 obind (l1[(n8 : Int).toNat]?) fun n10 =>
 oif (decide ((n9 : Int) > n10)) (
 some (false, true)) (
 iterP (l108_1 d l1 l2 n9 (j108_1 d ag5 n8)) fuelN (b6, b7, 0))) none) none) (
 kx108_0_0 b6 b7)
noncomputable def l108_0 (d : Nat) (l1 : List Int) (l2 : List Int) (kx108_0_0 : Bool → Bool → Option (Bool × Bool)) (ag5 : (Bool × Bool × Int) → Option (Bool × Bool)) (s : (Bool × Bool × Int)) : Option (Bool × Bool) := l108_0_b d l1 l2 kx108_0_0 ag5 s.1 s.2.1 s.2.2
noncomputable def j108_2 (d : Nat) (l1 : List Int) (l2 : List Int) (n3 : Int) (b4 : Bool) : Option (Bool × Bool) :=
 oif b4 (
 some (false, false)) (
 iterP (l108_0 d l1 l2 (j108_0 d l1 l2 n3)) fuelN (false, false, 0))
theorem e108 (d : Nat) (l1 : List Int) (l2 : List Int) (n3 : Int) : g108 (d + 1) l1 l2 n3 =
 obind (g273 d l1 l2) fun r4 =>
 oif (!r4) (
 j108_2 d l1 l2 n3 true) (
 obind (g269 d n3) fun r5 =>
 j108_2 d l1 l2 n3 (!r5)) := by kernel_rfl

theorem e109 (d : Nat) (l1 : List Int) : g109 (d + 1) l1 =
 obind (g106 d l1) fun r2 =>
 some (r2.1, r2.2.1) := by kernel_rfl

noncomputable def j110_0 (d : Nat)  (n5 : Int) : Option (Int × Bool) :=
 oif (decide ((n5 : Int) < 0)) (
 some (0, false)) (
 some (n5, true))
noncomputable def l110_0_b (d : Nat) (l1 : List Int) (l2 : List Int) (kx110_0_0 : Int → Option (Int × Bool)) (ag4 : (Int × Int) → Option (Int × Bool)) (n5 : Int) (n6 : Int) : Option (Int × Bool) :=
 oif (decide ((n6 : Int) < ((l1.length : Nat) : Int))) (
 oif (decide (0 ≤ (n6 : Int))) (
 obind (l1[(n6 : Int).toNat]?) fun n7 =>
 oif (decide (0 ≤ (n6 : Int))) (
 obind (l2[(n6 : Int).toNat]?) fun n8 =>
 oif (decide ((n7 : Int) > n8)) (
 oif (decide ((n5 : Int) < 0)) (
 ag4 (n6, (IntKind.i64.wrap (n6 + 1)))) (
 oif (decide (0 ≤ (n6 : Int))) (
 obind (l2[(n6 : Int).toNat]?) fun n9 =>
 oif (decide (0 ≤ (n5 : Int))) (
 obind (l2[(n5 : Int).toNat]?) fun n10 =>
 oif (decide ((n9 : Int) < n10)) (
 ag4 (n6, (IntKind.i64.wrap (n6 + 1)))) (
 ag4 (n5, (IntKind.i64.wrap (n6 + 1))))) none) none)) (
 ag4 (n5, (IntKind.i64.wrap (n6 + 1))))) none) none) (
 kx110_0_0 n5)
noncomputable def l110_0 (d : Nat) (l1 : List Int) (l2 : List Int) (kx110_0_0 : Int → Option (Int × Bool)) (ag4 : (Int × Int) → Option (Int × Bool)) (s : (Int × Int)) : Option (Int × Bool) := l110_0_b d l1 l2 kx110_0_0 ag4 s.1 s.2
noncomputable def j110_1 (d : Nat) (l1 : List Int) (l2 : List Int) (b3 : Bool) : Option (Int × Bool) :=
 oif b3 (
 some (0, false)) (
 iterP (l110_0 d l1 l2 (j110_0 d)) fuelN ((-1), 0))
theorem e110 (d : Nat) (l1 : List Int) (l2 : List Int) : g110 (d + 1) l1 l2 =
 obind (g263 d l1) fun r3 =>
 oif (!r3) (
 j110_1 d l1 l2 true) (
 obind (g263 d l2) fun r4 =>
 oif (!r4) (
 j110_1 d l1 l2 true) (
 j110_1 d l1 l2 ((((l2.length : Nat) : Int) : Int) != ((l1.length : Nat) : Int)))) := by kernel_rfl

noncomputable def j111_0 (d : Nat)  (n5 : Int) : Option (Int × Bool) :=
 oif (decide ((n5 : Int) < 0)) (
 some (0, false)) (
 some (n5, true))
noncomputable def l111_0_b (d : Nat) (l1 : List Int) (l2 : List Int) (kx111_0_0 : Int → Option (Int × Bool)) (ag4 : (Int × Int) → Option (Int × Bool)) (n5 : Int) (n6 : Int) : Option (Int × Bool) :=
 oif (decide ((n6 : Int) < ((l2.length : Nat) : Int))) (
 oif (decide (0 ≤ (n6 : Int))) (
 obind (l2[(n6 : Int).toNat]?) fun n7 =>
 oif (decide (0 ≤ (n6 : Int))) (
 obind (l1[(n6 : Int).toNat]?) fun n8 =>
 oif (decide ((n7 : Int) < n8)) (
 oif (decide ((n5 : Int) < 0)) (
 ag4 (n6, (IntKind.i64.wrap (n6 + 1)))) (
 oif (decide (0 ≤ (n5 : Int))) (
 obind (l2[(n5 : Int).toNat]?) fun n9 =>
 oif (decide ((n7 : Int) < n9)) (
 ag4 (n6, (IntKind.i64.wrap (n6 + 1)))) (
 ag4 (n5, (IntKind.i64.wrap (n6 + 1))))) none)) (
 ag4 (n5, (IntKind.i64.wrap (n6 + 1))))) none) none) (
 kx111_0_0 n5)
noncomputable def l111_0 (d : Nat) (l1 : List Int) (l2 : List Int) (kx111_0_0 : Int → Option (Int × Bool)) (ag4 : (Int × Int) → Option (Int × Bool)) (s : (Int × Int)) : Option (Int × Bool) := l111_0_b d l1 l2 kx111_0_0 ag4 s.1 s.2
theorem e111 (d : Nat) (l1 : List Int) (l2 : List Int) : g111 (d + 1) l1 l2 =
 obind (g273 d l1 l2) fun r3 =>
 oif (!r3) (
 some (0, false)) (
 iterP (l111_0 d l1 l2 (j111_0 d)) fuelN ((-1), 0)) := by kernel_rfl

noncomputable def j8_0 (d : Nat) (r3 : ((List Int) × Int)) (r4 : ((List Int) × Bool)) (r5 : ((List Int) × Bool)) (b16 : Bool) : Option Bool :=
 oif (!r4.2) (
 some true) (
 obind (g107 d r3.1 r4.1 r3.2) fun r17 =>
 obind (g110 d r3.1 r4.1) fun r18 =>
 obind (g111 d r3.1 r5.1) fun r19 =>
 oif r17.2 (
 oif r17.1 (
 oif (r18.2 == r19.2) (
 oif ((r18.1 : Int) == r19.1) (
 oif r19.2 (
 some true) (
 obind (g98 d r5.1) fun r20 =>
 obind (g98 d r3.1) fun r21 =>
 some ((r20 : Int) == r21))) (
 some false)) (
 some false)) (
 some false)) (
 some false))
noncomputable def j8_1 (d : Nat) (r3 : ((List Int) × Int)) (r4 : ((List Int) × Bool)) (r5 : ((List Int) × Bool)) (r6 : ((List Int) × (List Int) × Int)) (b19 : Bool) (l21 : List Int) : Option Bool :=
 obind (g104 d r6.1 l21 r6.2.2) fun r22 =>
 obind (g101 d r6.1 r6.2.2) fun r23 =>
 oif (!r22.2) (
 some false) (
 oif (!r23.2) (
 some false) (
 obind (g46 d r22.1 r23.1) fun r24 =>
 oif (!r24) (
 some false) (
 j8_0 d r3 r4 r5 b19)))
noncomputable def l8_1_b (d : Nat) (r6 : ((List Int) × (List Int) × Int)) (kx8_1_0 : (List Int) → Option Bool) (ag20 : (Int × (List Int)) → Option Bool) (n21 : Int) (l22 : List Int) : Option Bool :=
 oif (decide ((n21 : Int) < (((List.replicate ((((r6.1.length : Nat) : Int) : Int).toNat) (0 : Int)).length : Nat) : Int))) (
 oif (decide (0 ≤ (n21 : Int))) (
 oif (Nat.blt ((n21 : Int).toNat) l22.length) (
 obind (l22[(n21 : Int).toNat]?) fun n23 =>
 ag20 ((IntKind.i64.wrap (n21 + 1)), (l22.set ((n21 : Int).toNat) 1))) none) none) (
 kx8_1_0 l22)
noncomputable def l8_1 (d : Nat) (r6 : ((List Int) × (List Int) × Int)) (kx8_1_0 : (List Int) → Option Bool) (ag20 : (Int × (List Int)) → Option Bool) (s : (Int × (List Int))) : Option Bool := l8_1_b d r6 kx8_1_0 ag20 s.1 s.2
noncomputable def j8_2 (d : Nat) (r3 : ((List Int) × Int)) (r4 : ((List Int) × Bool)) (r5 : ((List Int) × Bool)) (r6 : ((List Int) × (List Int) × Int)) (b19 : Bool) : Option Bool :=
 oif (decide (0 ≤ (((r6.1.length : Nat) : Int) : Int))) (
 oif (decide (0 ≤ (((r6.1.length : Nat) : Int) : Int))) (
 oif (Nat.ble ((((r6.1.length : Nat) : Int) : Int).toNat) ((((r6.1.length : Nat) : Int) : Int).toNat) && Nat.ble (((((r6.1.length : Nat) : Int) : Int).toNat) * 8) roomMax) (
 iterP (l8_1 d r6 (j8_1 d r3 r4 r5 r6 b19)) fuelN (0, (List.replicate ((((r6.1.length : Nat) : Int) : Int).toNat) (0 : Int)))) none) none) none
noncomputable def l8_0_b (d : Nat) (r6 : ((List Int) × (List Int) × Int)) (r8 : ((List Int) × Bool)) (kx8_0_0 : Bool → Option Bool) (ag18 : (Bool × Int) → Option Bool) (b19 : Bool) (n20 : Int) : Option Bool :=
 oif (decide ((n20 : Int) < ((r8.1.length : Nat) : Int))) (
 oif (decide (0 ≤ (n20 : Int))) (
 oif (Nat.blt ((n20 : Int).toNat) r8.1.length) (
 obind (r8.1[(n20 : Int).toNat]?) fun n21 =>
 oif (decide (0 ≤ (n20 : Int))) (
 oif (Nat.blt ((n20 : Int).toNat) r6.1.length) (
 obind (r6.1[(n20 : Int).toNat]?) fun n22 =>
 oif (decide ((n21 : Int) > n22)) (
 some false) (
 ag18 (b19, (IntKind.i64.wrap (n20 + 1))))) none) none) none) none) (
 kx8_0_0 b19)
noncomputable def l8_0 (d : Nat) (r6 : ((List Int) × (List Int) × Int)) (r8 : ((List Int) × Bool)) (kx8_0_0 : Bool → Option Bool) (ag18 : (Bool × Int) → Option Bool) (s : (Bool × Int)) : Option Bool := l8_0_b d r6 r8 kx8_0_0 ag18 s.1 s.2
noncomputable def j8_3 (d : Nat) (r3 : ((List Int) × Int)) (r4 : ((List Int) × Bool)) (r5 : ((List Int) × Bool)) (r6 : ((List Int) × (List Int) × Int)) (r8 : ((List Int) × Bool)) (b17 : Bool) : Option Bool :=
 oif b17 (
 some false) (
 iterP (l8_0 d r6 r8 (j8_2 d r3 r4 r5 r6)) fuelN (false, 0))
noncomputable def j8_4 (d : Nat) (r3 : ((List Int) × Int)) (r4 : ((List Int) × Bool)) (r5 : ((List Int) × Bool)) (r6 : ((List Int) × (List Int) × Int)) (r7 : ((List Int) × Bool)) (r8 : ((List Int) × Bool)) (b15 : Bool) : Option Bool :=
 oif b15 (
 some false) (
 oif r7.2 (
 obind (g98 d r8.1) fun r16 =>
 oif ((r16 : Int) != r6.2.2) (
 obind (g98 d r6.1) fun r17 =>
 oif ((r16 : Int) != r17) (
 j8_3 d r3 r4 r5 r6 r8 true) (
 j8_3 d r3 r4 r5 r6 r8 (decide ((r16 : Int) > r6.2.2)))) (
 j8_3 d r3 r4 r5 r6 r8 (decide ((r16 : Int) > r6.2.2)))) (
 j8_0 d r3 r4 r5 false))
theorem e8 (d : Nat) (l1 : List Int) (l2 : List Int) : g8 (d + 1) l1 l2 =
 oif (decide (((IntKind.i64.wrap (((l1.length : Nat) : Int) + ((l2.length : Nat) : Int))) : Int) > 1048576)) (
 some true) (
 obind (g100 d l1) fun r3 =>
 obind (g101 d r3.1 r3.2) fun r4 =>
 obind (g102 d r3.1 r3.2) fun r5 =>
 obind (g103 d l2) fun r6 =>
 obind (g104 d r6.1 r6.2.1 r6.2.2) fun r7 =>
 obind (g105 d r6.1 r6.2.1 r6.2.2) fun r8 =>
 obind (g106 d l2) fun r9 =>
 obind (g107 d r9.1 r9.2.1 r9.2.2) fun r10 =>
 obind (g108 d r9.1 r9.2.1 r9.2.2) fun r11 =>
 obind (g109 d l2) fun r12 =>
 obind (g110 d r12.1 r12.2) fun r13 =>
 obind (g111 d r12.1 r12.2) fun r14 =>
 oif (!(r4.2 == r5.2)) (
 j8_4 d r3 r4 r5 r6 r7 r8 true) (
 obind (g46 d r4.1 r5.1) fun r15 =>
 oif (!r15) (
 j8_4 d r3 r4 r5 r6 r7 r8 true) (
 oif (!(r7.2 == r8.2)) (
 j8_4 d r3 r4 r5 r6 r7 r8 true) (
 obind (g46 d r7.1 r8.1) fun r16 =>
 oif (!r16) (
 j8_4 d r3 r4 r5 r6 r7 r8 true) (
 oif (!(r10.2 == r11.2)) (
 j8_4 d r3 r4 r5 r6 r7 r8 true) (
 oif (!(r10.1 == r11.1)) (
 j8_4 d r3 r4 r5 r6 r7 r8 true) (
 oif (!(r13.2 == r14.2)) (
 j8_4 d r3 r4 r5 r6 r7 r8 true) (
 j8_4 d r3 r4 r5 r6 r7 r8 ((r13.1 : Int) != r14.1))))))))) := by kernel_rfl

end Go.Proofs.Ytcoojpojnmnboaa
