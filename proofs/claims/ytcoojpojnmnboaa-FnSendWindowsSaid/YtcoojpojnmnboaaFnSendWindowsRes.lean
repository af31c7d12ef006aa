/-
  The residual forms of the program's functions under the interpreter by value, printed by program (wip/pv/gen2.py); each equation is checked by the kernel.
  Conditions: none.
-/
import Derived.Test.YtcoojpojnmnboaaVDef
import Derived.Test.YtcoojpojnmnboaaProg
import Derived.KernelRfl
set_option linter.all false
set_option maxRecDepth 1000000
namespace Go.Proofs.Ytcoojpojnmnboaa
open Go.Ev Go.Pv

theorem fuel_is : ∃ n : Nat, n = 4194304 := ⟨_, rfl⟩
noncomputable def fuelN : Nat := Classical.choose fuel_is
theorem fuelN_eq : fuelN = 4194304 := Classical.choose_spec fuel_is
def pvSig : FuncId → Sig
  | 5 => ⟨[(.ro, (.sl (.int .u8))), (.ro, (.sl (.int .u8)))], [(false, .bool)]⟩
  | 49 => ⟨[(.ro, (.sl (.int .u8)))], [(false, (.int .i64)), (true, (.sl (.pair (.int .i64) (.int .i64))))]⟩
  | 50 => ⟨[(.ro, (.int .i64)), (.ro, (.sl (.pair (.int .i64) (.int .i64))))], [(false, (.int .i64)), (false, .bool)]⟩
  | 51 => ⟨[(.ro, (.int .i64)), (.ro, (.sl (.pair (.int .i64) (.int .i64))))], [(false, (.int .i64)), (false, .bool)]⟩
  | 52 => ⟨[(.ro, (.int .i64)), (.ro, (.sl (.pair (.int .i64) (.int .i64))))], [(false, (.int .i64)), (false, (.int .i64)), (false, .bool)]⟩
  | 53 => ⟨[(.ro, (.int .i64)), (.ro, (.sl (.pair (.int .i64) (.int .i64))))], [(false, (.int .i64)), (false, (.int .i64)), (false, .bool)]⟩
  | 54 => ⟨[(.ro, (.sl (.int .u8)))], [(false, (.pair (.int .i64) (.pair (.int .i64) (.int .i64)))), (true, (.sl (.pair (.int .i64) (.int .i64))))]⟩
  | 55 => ⟨[(.ro, (.pair (.int .i64) (.pair (.int .i64) (.int .i64)))), (.ro, (.sl (.pair (.int .i64) (.int .i64))))], [(false, (.pair (.int .i64) (.pair (.int .i64) (.int .i64)))), (true, (.sl .bool)), (false, .bool)]⟩
  | 56 => ⟨[(.ro, (.pair (.int .i64) (.pair (.int .i64) (.int .i64)))), (.ro, (.sl (.pair (.int .i64) (.int .i64))))], [(false, (.pair (.int .i64) (.pair (.int .i64) (.int .i64)))), (true, (.sl .bool)), (false, .bool)]⟩
  | 57 => ⟨[(.ro, (.sl (.int .u8)))], [(false, (.pair (.int .i64) (.pair (.int .i64) (.int .i64)))), (true, (.sl (.pair (.int .i64) (.int .i64))))]⟩
  | 58 => ⟨[(.ro, (.pair (.int .i64) (.pair (.int .i64) (.int .i64)))), (.ro, (.sl (.pair (.int .i64) (.int .i64))))], [(false, .bool), (false, .bool)]⟩
  | 59 => ⟨[(.ro, (.pair (.int .i64) (.pair (.int .i64) (.int .i64)))), (.ro, (.sl (.pair (.int .i64) (.int .i64))))], [(false, .bool), (false, .bool)]⟩
  | 60 => ⟨[(.ro, (.sl .bool)), (.ro, (.sl .bool))], [(false, .bool)]⟩
  | 61 => ⟨[(.ro, (.pair (.int .i64) (.pair (.int .i64) (.int .i64))))], [(false, .bool)]⟩
  | 62 => ⟨[(.ro, (.int .i64)), (.ro, (.int .i64))], [(false, (.pair (.int .i64) (.pair (.int .i64) (.int .i64)))), (false, .bool)]⟩
  | 190 => ⟨[(.ps, (.pair (.sl (.int .u8)) (.pair (.int .i64) (.int .u64)))), (.ro, (.sl (.int .i64)))], [(false, (.int .i64))]⟩
  | 203 => ⟨[(.ps, (.pair (.sl (.int .u8)) (.pair (.int .i64) (.int .u64)))), (.ro, (.int .i64))], [(false, (.int .i64))]⟩
  | 204 => ⟨[(.ro, (.int .i64)), (.ro, (.int .i64))], [(false, (.int .i64))]⟩
  | 205 => ⟨[(.ro, (.int .i64))], [(false, .bool)]⟩
  | 211 => ⟨[(.ro, (.int .i64)), (.ro, (.int .i64)), (.ro, (.int .i64))], [(false, .bool)]⟩
  | 217 => ⟨[(.ps, (.pair (.sl (.int .u8)) (.pair (.int .i64) (.int .u64))))], [(true, (.sl (.pair (.int .i64) (.int .i64))))]⟩
  | 218 => ⟨[(.ro, (.int .i64))], [(false, .bool)]⟩
  | 219 => ⟨[(.ro, (.sl (.pair (.int .i64) (.int .i64))))], [(false, .bool)]⟩
  | 222 => ⟨[(.ro, (.pair (.int .i64) (.pair (.int .i64) (.int .i64)))), (.ro, (.sl (.pair (.int .i64) (.int .i64))))], [(false, .bool)]⟩
  | 223 => ⟨[(.ro, (.int .i64))], [(false, .bool)]⟩
  | 224 => ⟨[(.ro, (.sl (.pair (.int .i64) (.int .i64))))], [(false, .bool)]⟩
  | 225 => ⟨[(.ro, (.int .i64)), (.ro, (.sl (.pair (.int .i64) (.int .i64))))], [(false, (.int .i64)), (false, (.int .i64)), (false, (.int .i64))]⟩
  | 226 => ⟨[(.ps, (.pair (.sl (.int .u8)) (.pair (.int .i64) (.int .u64))))], [(false, (.pair (.int .i64) (.pair (.int .i64) (.int .i64))))]⟩
  | 227 => ⟨[(.ro, (.pair (.int .i64) (.pair (.int .i64) (.int .i64)))), (.ro, (.sl (.pair (.int .i64) (.int .i64))))], [(false, (.pair (.int .i64) (.pair (.int .i64) (.int .i64)))), (true, (.sl .bool))]⟩
  | 228 => ⟨[(.ro, (.pair (.int .i64) (.pair (.int .i64) (.int .i64))))], [(false, .bool)]⟩
  | 229 => ⟨[(.ro, (.pair (.int .i64) (.pair (.int .i64) (.int .i64)))), (.ro, (.sl (.pair (.int .i64) (.int .i64))))], [(false, (.pair (.int .i64) (.pair (.int .i64) (.int .i64)))), (true, (.sl .bool))]⟩
  | 230 => ⟨[(.ps, (.pair (.sl (.int .u8)) (.pair (.int .i64) (.int .u64)))), (.ro, (.int .i64))], [(false, .bool)]⟩
  | 231 => ⟨[(.ro, (.pair (.int .i64) (.pair (.int .i64) (.int .i64)))), (.ro, (.sl (.pair (.int .i64) (.int .i64))))], [(false, .bool)]⟩
  | 249 => ⟨[(.ro, (.int .i64))], [(false, .bool)]⟩
  | 254 => ⟨[(.ro, (.int .i64)), (.ro, (.int .i64)), (.ro, (.int .i64)), (.ro, (.int .i64))], [(false, (.int .i64))]⟩
  | 258 => ⟨[(.ro, (.pair (.int .i64) (.pair (.int .i64) (.int .i64)))), (.ro, (.int .i64))], [(false, (.pair (.int .i64) (.pair (.int .i64) (.int .i64))))]⟩
  | 274 => ⟨[(.ro, (.int .i64)), (.ro, (.int .i64))], [(false, (.int .i64))]⟩
  | 352 => ⟨[(.ps, (.pair (.sl (.int .u8)) (.pair (.int .i64) (.int .u64))))], [(false, (.int .i64))]⟩
  | 354 => ⟨[(.ro, (.int .i64))], [(false, .bool)]⟩
  | _ => ⟨[], []⟩
def pvLoops : FuncId → Nat → LoopA
  | 5, 0 => ⟨[(31, false, .bool), (32, false, (.int .i64)), (183, false, (.int .i64))], [], [], []⟩
  | 5, 1 => ⟨[(38, false, (.int .i64)), (39, false, (.int .i64))], [], [], []⟩
  | 52, 0 => ⟨[(7, false, (.int .i64)), (8, false, (.int .i64)), (9, false, (.int .i64)), (33, false, (.int .i64))], [], [], []⟩
  | 52, 1 => ⟨[(7, false, (.int .i64)), (8, false, (.int .i64)), (9, false, (.int .i64)), (11, false, (.int .i64)), (12, false, (.int .i64))], [], [], []⟩
  | 60, 0 => ⟨[(4, false, .bool), (13, false, (.int .i64))], [], [], []⟩
  | 217, 0 => ⟨[(3, true, (.sl (.pair (.int .i64) (.int .i64)))), (4, false, (.int .i64))], [(0, (.pair (.sl (.int .u8)) (.pair (.int .i64) (.int .u64))))], [], []⟩
  | 219, 0 => ⟨[(2, false, .bool), (7, false, (.int .i64))], [], [], []⟩
  | 220, 0 => ⟨[(0, false, (.int .i64)), (1, false, (.int .i64))], [], [], []⟩
  | 222, 0 => ⟨[(4, false, .bool), (17, false, (.int .i64))], [], [], []⟩
  | 224, 0 => ⟨[(2, false, .bool), (7, false, (.int .i64))], [], [], []⟩
  | 225, 0 => ⟨[(7, false, (.int .i64)), (8, false, (.int .i64)), (9, false, (.int .i64)), (16, false, (.int .i64))], [], [], []⟩
  | 225, 1 => ⟨[(7, false, (.int .i64)), (8, false, (.int .i64)), (9, false, (.int .i64)), (11, false, (.int .i64)), (12, false, (.int .i64))], [], [], []⟩
  | 227, 0 => ⟨[(7, false, (.int .i64)), (15, false, (.int .i64))], [(2, (.pair (.int .i64) (.pair (.int .i64) (.int .i64))))], [(6, .bool)], []⟩
  | 229, 0 => ⟨[(6, true, (.sl .bool)), (7, false, (.int .i64)), (13, false, (.int .i64))], [(2, (.pair (.int .i64) (.pair (.int .i64) (.int .i64))))], [], []⟩
  | 231, 0 => ⟨[(4, false, .bool), (17, false, (.int .i64))], [], [], []⟩
  | _, _ => ⟨[], [], [], []⟩
def pvEloops : FuncId → Nat → List (Nat × Value)
  | 5, 0 => [(4, (.bool false)), (5, (.int .i64 0)), (6, (.slice none 0 0)), (8, (.bool false)), (9, (.int .i64 0)), (13, (.bool false)), (14, (.int .i64 0)), (15, (.int .i64 0)), (17, (.pointer (some ⟨0, 0, none⟩))), (18, (.slice none 0 0)), (19, (.pointer (some ⟨0, 0, none⟩))), (31, (.bool false)), (32, (.int .i64 0)), (181, (.slice none 0 0)), (182, (.int .i64 0)), (183, (.int .i64 0))]
  | 5, 1 => [(4, (.bool false)), (5, (.int .i64 0)), (6, (.slice none 0 0)), (8, (.bool false)), (9, (.int .i64 0)), (14, (.int .i64 0)), (15, (.int .i64 0)), (38, (.int .i64 0)), (39, (.int .i64 0))]
  | 52, 0 => [(0, (.int .i64 0)), (1, (.slice none 0 0)), (4, (.int .i64 0)), (5, (.int .i64 0)), (6, (.bool false)), (7, (.int .i64 0)), (8, (.int .i64 0)), (9, (.int .i64 0)), (32, (.int .i64 0)), (33, (.int .i64 0))]
  | 52, 1 => [(0, (.int .i64 0)), (1, (.slice none 0 0)), (4, (.int .i64 0)), (5, (.int .i64 0)), (6, (.bool false)), (7, (.int .i64 0)), (8, (.int .i64 0)), (9, (.int .i64 0)), (10, (.int .i64 0)), (11, (.int .i64 0)), (12, (.int .i64 0)), (32, (.int .i64 0)), (33, (.int .i64 0)), (34, (.bool false)), (35, (.int .i64 0)), (36, (.int .i64 0))]
  | 60, 0 => [(0, (.slice none 0 0)), (1, (.slice none 0 0)), (4, (.bool false)), (12, (.int .i64 0)), (13, (.int .i64 0))]
  | 217, 0 => [(0, (.pointer (some ⟨0, 0, none⟩))), (2, (.slice none 0 0)), (3, (.slice none 0 0)), (4, (.int .i64 0)), (5, (.int .i64 0))]
  | 219, 0 => [(0, (.slice none 0 0)), (2, (.bool false)), (5, (.slice none 0 0)), (6, (.int .i64 0)), (7, (.int .i64 0))]
  | 220, 0 => [(0, (.int .i64 0)), (1, (.int .i64 0)), (2, .nilFunc), (6, (.int .i64 0))]
  | 222, 0 => [(4, (.bool false)), (15, (.slice none 0 0)), (16, (.int .i64 0)), (17, (.int .i64 0))]
  | 224, 0 => [(0, (.slice none 0 0)), (2, (.bool false)), (5, (.slice none 0 0)), (6, (.int .i64 0)), (7, (.int .i64 0))]
  | 225, 0 => [(0, (.int .i64 0)), (1, (.slice none 0 0)), (4, (.int .i64 0)), (5, (.int .i64 0)), (6, (.int .i64 0)), (7, (.int .i64 0)), (8, (.int .i64 0)), (9, (.int .i64 0)), (15, (.int .i64 0)), (16, (.int .i64 0))]
  | 225, 1 => [(0, (.int .i64 0)), (1, (.slice none 0 0)), (4, (.int .i64 0)), (5, (.int .i64 0)), (6, (.int .i64 0)), (7, (.int .i64 0)), (8, (.int .i64 0)), (9, (.int .i64 0)), (10, (.int .i64 0)), (11, (.int .i64 0)), (12, (.int .i64 0)), (15, (.int .i64 0)), (16, (.int .i64 0)), (17, (.bool false)), (18, (.int .i64 0)), (19, (.int .i64 0))]
  | 227, 0 => [(2, (.pointer (some ⟨0, 0, none⟩))), (4, (.pointer (some ⟨0, 0, none⟩))), (5, (.slice none 0 0)), (6, (.slice none 0 0)), (7, (.int .i64 0)), (13, (.slice none 0 0)), (14, (.int .i64 0)), (15, (.int .i64 0))]
  | 229, 0 => [(2, (.pointer (some ⟨0, 0, none⟩))), (4, (.pointer (some ⟨0, 0, none⟩))), (5, (.slice none 0 0)), (6, (.slice none 0 0)), (7, (.int .i64 0)), (11, (.slice none 0 0)), (12, (.int .i64 0)), (13, (.int .i64 0))]
  | 231, 0 => [(4, (.bool false)), (15, (.slice none 0 0)), (16, (.int .i64 0)), (17, (.int .i64 0))]
  | _, _ => []
def pvInline : FuncId → Bool
  | 220 => true
  | 221 => true
  | 265 => true
  | 353 => true
  | _ => false
noncomputable def pvAnn : AnnV := ⟨fuelN, pvSig, pvLoops, pvEloops, pvInline⟩

/-- (*loop.example/g00838/spec.l1Cur).next -/
noncomputable def g352 (d : Nat) (x1 : ((List Int) × Int × Int)) : Option (Int × ((List Int) × Int × Int)) := (lev Try.prog pvAnn d).call 352 (x1)
/-- (*loop.example/g00838/spec.l1Cur).pick -/
noncomputable def g203 (d : Nat) (x1 : ((List Int) × Int × Int)) (n2 : Int) : Option (Int × ((List Int) × Int × Int)) := (lev Try.prog pvAnn d).call 203 (x1, n2)
/-- (*loop.example/g00838/spec.l1Cur).among -/
noncomputable def g190 (d : Nat) (x1 : ((List Int) × Int × Int)) (l2 : List Int) : Option (Int × ((List Int) × Int × Int)) := (lev Try.prog pvAnn d).call 190 (x1, l2)
/-- (*loop.example/g00838/spec.l1Cur).one -/
noncomputable def g230 (d : Nat) (x1 : ((List Int) × Int × Int)) (n2 : Int) : Option (Bool × ((List Int) × Int × Int)) := (lev Try.prog pvAnn d).call 230 (x1, n2)
/-- (*loop.example/g00838/spec.l1Cur).sends -/
noncomputable def g217 (d : Nat) (x1 : ((List Int) × Int × Int)) : Option ((List (Int × Int)) × ((List Int) × Int × Int)) := (lev Try.prog pvAnn d).call 217 (x1)
/-- loop.example/g00838/spec.DrawLeastCap -/
noncomputable def g49 (d : Nat) (l1 : List Int) : Option (Int × (List (Int × Int))) := (lev Try.prog pvAnn d).call 49 (l1)
/-- loop.example/g00838/impl.isFlowRate -/
noncomputable def g218 (d : Nat) (n1 : Int) : Option Bool := (lev Try.prog pvAnn d).call 218 (n1)
/-- loop.example/g00838/impl.isTicks -/
noncomputable def g205 (d : Nat) (n1 : Int) : Option Bool := (lev Try.prog pvAnn d).call 205 (n1)
/-- loop.example/g00838/impl.isSize -/
noncomputable def g249 (d : Nat) (n1 : Int) : Option Bool := (lev Try.prog pvAnn d).call 249 (n1)
/-- loop.example/g00838/impl.areSends -/
noncomputable def g219 (d : Nat) (l1 : List (Int × Int)) : Option Bool := (lev Try.prog pvAnn d).call 219 (l1)
/-- loop.example/g00838/impl.filled -/
noncomputable def g254 (d : Nat) (n1 : Int) (n2 : Int) (n3 : Int) (n4 : Int) : Option Int := (lev Try.prog pvAnn d).call 254 (n1, n2, n3, n4)
/-- loop.example/g00838/impl.runSends -/
noncomputable def g227 (d : Nat) (x1 : (Int × Int × Int)) (l2 : List (Int × Int)) : Option ((Int × Int × Int) × (List Bool)) := (lev Try.prog pvAnn d).call 227 (x1, l2)
/-- loop.example/g00838/impl.conforms -/
noncomputable def g222 (d : Nat) (x1 : (Int × Int × Int)) (l2 : List (Int × Int)) : Option Bool := (lev Try.prog pvAnn d).call 222 (x1, l2)
/-- loop.example/g00838/impl.LeastCap -/
noncomputable def g50 (d : Nat) (n1 : Int) (l2 : List (Int × Int)) : Option (Int × Bool) := (lev Try.prog pvAnn d).call 50 (n1, l2)
/-- loop.example/g00838/spec.l1Most -/
noncomputable def g204 (d : Nat) (n1 : Int) (n2 : Int) : Option Int := (lev Try.prog pvAnn d).call 204 (n1, n2)
/-- loop.example/g00838/spec.l1In -/
noncomputable def g211 (d : Nat) (n1 : Int) (n2 : Int) (n3 : Int) : Option Bool := (lev Try.prog pvAnn d).call 211 (n1, n2, n3)
/-- loop.example/g00838/spec.buRate -/
noncomputable def g223 (d : Nat) (n1 : Int) : Option Bool := (lev Try.prog pvAnn d).call 223 (n1)
/-- loop.example/g00838/spec.buSize -/
noncomputable def g354 (d : Nat) (n1 : Int) : Option Bool := (lev Try.prog pvAnn d).call 354 (n1)
/-- loop.example/g00838/spec.buSends -/
noncomputable def g224 (d : Nat) (l1 : List (Int × Int)) : Option Bool := (lev Try.prog pvAnn d).call 224 (l1)
/-- loop.example/g00838/spec.buWorst -/
noncomputable def g225 (d : Nat) (n1 : Int) (l2 : List (Int × Int)) : Option (Int × Int × Int) := (lev Try.prog pvAnn d).call 225 (n1, l2)
/-- loop.example/g00838/spec.LeastCap -/
noncomputable def g51 (d : Nat) (n1 : Int) (l2 : List (Int × Int)) : Option (Int × Bool) := (lev Try.prog pvAnn d).call 51 (n1, l2)
/-- loop.example/g00838/impl.WorstWindow -/
noncomputable def g52 (d : Nat) (n1 : Int) (l2 : List (Int × Int)) : Option (Int × Int × Bool) := (lev Try.prog pvAnn d).call 52 (n1, l2)
/-- loop.example/g00838/spec.WorstWindow -/
noncomputable def g53 (d : Nat) (n1 : Int) (l2 : List (Int × Int)) : Option (Int × Int × Bool) := (lev Try.prog pvAnn d).call 53 (n1, l2)
/-- loop.example/g00838/spec.l1Least -/
noncomputable def g274 (d : Nat) (n1 : Int) (n2 : Int) : Option Int := (lev Try.prog pvAnn d).call 274 (n1, n2)
/-- (*loop.example/g00838/spec.l1Cur).bucket -/
noncomputable def g226 (d : Nat) (x1 : ((List Int) × Int × Int)) : Option ((Int × Int × Int) × ((List Int) × Int × Int)) := (lev Try.prog pvAnn d).call 226 (x1)
/-- loop.example/g00838/spec.DrawRunBucket -/
noncomputable def g54 (d : Nat) (l1 : List Int) : Option ((Int × Int × Int) × (List (Int × Int))) := (lev Try.prog pvAnn d).call 54 (l1)
/-- loop.example/g00838/impl.IsBucket -/
noncomputable def g61 (d : Nat) (x1 : (Int × Int × Int)) : Option Bool := (lev Try.prog pvAnn d).call 61 (x1)
/-- loop.example/g00838/impl.RunBucket -/
noncomputable def g55 (d : Nat) (x1 : (Int × Int × Int)) (l2 : List (Int × Int)) : Option ((Int × Int × Int) × (List Bool) × Bool) := (lev Try.prog pvAnn d).call 55 (x1, l2)
/-- loop.example/g00838/spec.buGood -/
noncomputable def g228 (d : Nat) (x1 : (Int × Int × Int)) : Option Bool := (lev Try.prog pvAnn d).call 228 (x1)
/-- loop.example/g00838/spec.buFill -/
noncomputable def g258 (d : Nat) (x1 : (Int × Int × Int)) (n2 : Int) : Option (Int × Int × Int) := (lev Try.prog pvAnn d).call 258 (x1, n2)
/-- loop.example/g00838/spec.buRun -/
noncomputable def g229 (d : Nat) (x1 : (Int × Int × Int)) (l2 : List (Int × Int)) : Option ((Int × Int × Int) × (List Bool)) := (lev Try.prog pvAnn d).call 229 (x1, l2)
/-- loop.example/g00838/spec.RunBucket -/
noncomputable def g56 (d : Nat) (x1 : (Int × Int × Int)) (l2 : List (Int × Int)) : Option ((Int × Int × Int) × (List Bool) × Bool) := (lev Try.prog pvAnn d).call 56 (x1, l2)
/-- loop.example/g00838/spec.DrawConforms -/
noncomputable def g57 (d : Nat) (l1 : List Int) : Option ((Int × Int × Int) × (List (Int × Int))) := (lev Try.prog pvAnn d).call 57 (l1)
/-- loop.example/g00838/impl.Conforms -/
noncomputable def g58 (d : Nat) (x1 : (Int × Int × Int)) (l2 : List (Int × Int)) : Option (Bool × Bool) := (lev Try.prog pvAnn d).call 58 (x1, l2)
/-- loop.example/g00838/spec.buAll -/
noncomputable def g231 (d : Nat) (x1 : (Int × Int × Int)) (l2 : List (Int × Int)) : Option Bool := (lev Try.prog pvAnn d).call 231 (x1, l2)
/-- loop.example/g00838/spec.Conforms -/
noncomputable def g59 (d : Nat) (x1 : (Int × Int × Int)) (l2 : List (Int × Int)) : Option (Bool × Bool) := (lev Try.prog pvAnn d).call 59 (x1, l2)
/-- loop.example/g00838/laws.qBools -/
noncomputable def g60 (d : Nat) (l1 : List Bool) (l2 : List Bool) : Option Bool := (lev Try.prog pvAnn d).call 60 (l1, l2)
/-- loop.example/g00838/impl.FullBucket -/
noncomputable def g62 (d : Nat) (n1 : Int) (n2 : Int) : Option ((Int × Int × Int) × Bool) := (lev Try.prog pvAnn d).call 62 (n1, n2)
/-- loop.example/g00838/laws.FnSendWindows -/
noncomputable def g5 (d : Nat) (l1 : List Int) (l2 : List Int) : Option Bool := (lev Try.prog pvAnn d).call 5 (l1, l2)

noncomputable def j352_0 (d : Nat) (x1 : ((List Int) × Int × Int)) (n2 : Int) : Option (Int × ((List Int) × Int × Int)) :=
 oif (decide (((IntKind.i64.wrap (x1.2.1 + 1)) : Int) ≤ ((x1.1.length : Nat) : Int))) (
 some (n2, (x1.1, (IntKind.i64.wrap (x1.2.1 + 1)), (IntKind.u64.wrap ((IntKind.u64.wrap ((IntKind.u64.wrap (x1.2.2 * 6364136223846793005)) + (IntKind.u64.wrap n2))) + 1442695040888963407))))) (
 some ((IntKind.i64.wrap (IntKind.u64.wrap ((BitVec.ofInt IntKind.u64.bits ((IntKind.u64.wrap ((IntKind.u64.wrap ((IntKind.u64.wrap (x1.2.2 * 6364136223846793005)) + (IntKind.u64.wrap n2))) + 1442695040888963407)).fdiv (2 ^ (min (40 : Int).toNat IntKind.u64.bits))) &&& BitVec.ofInt IntKind.u64.bits 255).toNat : Int))), (x1.1, (IntKind.i64.wrap (x1.2.1 + 1)), (IntKind.u64.wrap ((IntKind.u64.wrap ((IntKind.u64.wrap (x1.2.2 * 6364136223846793005)) + (IntKind.u64.wrap n2))) + 1442695040888963407)))))
theorem e352 (d : Nat) (x1 : ((List Int) × Int × Int)) : g352 (d + 1) x1 =
 oif (decide ((x1.2.1 : Int) < ((x1.1.length : Nat) : Int))) (
 oif (decide (0 ≤ (x1.2.1 : Int))) (
 obind (x1.1[(x1.2.1 : Int).toNat]?) fun n2 =>
 j352_0 d x1 (IntKind.i64.wrap n2)) none) (
 j352_0 d x1 0) := by kernel_rfl

theorem e203 (d : Nat) (x1 : ((List Int) × Int × Int)) (n2 : Int) : g203 (d + 1) x1 n2 =
 oif (decide ((n2 : Int) ≤ 1)) (
 some (0, x1)) (
 obind (g352 d x1) fun r3 =>
 oif (decide ((n2 : Int) > 200)) (
 obind (g352 d r3.2) fun r4 =>
 oif ((n2 : Int) == 0) none (
 some (((IntKind.i64.wrap ((IntKind.i64.wrap (r3.1 * 256)) + r4.1)).tmod n2), r4.2))) (
 oif ((n2 : Int) == 0) none (
 some ((r3.1.tmod n2), r3.2)))) := by kernel_rfl

theorem e190 (d : Nat) (x1 : ((List Int) × Int × Int)) (l2 : List Int) : g190 (d + 1) x1 l2 =
 obind (g203 d x1 ((l2.length : Nat) : Int)) fun r3 =>
 oif (decide (0 ≤ (r3.1 : Int))) (
 obind (l2[(r3.1 : Int).toNat]?) fun n4 =>
 some (n4, r3.2)) none := by kernel_rfl

theorem e230 (d : Nat) (x1 : ((List Int) × Int × Int)) (n2 : Int) : g230 (d + 1) x1 n2 =
 obind (g203 d x1 n2) fun r3 =>
 some (((r3.1 : Int) == 0), r3.2) := by kernel_rfl

noncomputable def j217_0 (d : Nat)  (l10 : List Int) (n11 : Int) (n12 : Int) (l13 : List (Int × Int)) : Option ((List (Int × Int)) × ((List Int) × Int × Int)) :=
 oif (decide ((((l13.length : Nat) : Int) : Int) > 0)) (
 obind (g203 d (l10, n11, n12) ((l13.length : Nat) : Int)) fun r14 =>
 oif (decide (0 ≤ (r14.1 : Int))) (
 oif (Nat.blt ((r14.1 : Int).toNat) l13.length) (
 obind (g203 d r14.2 24) fun r15 =>
 oif ((r15.1 : Int) == 0) (
 obind (g190 d r15.2 [0, 1500, 1501]) fun r16 =>
 obind (l13[(r14.1 : Int).toNat]?) fun x17 =>
 some ((l13.set ((r14.1 : Int).toNat) (x17.1, r16.1)), r16.2)) (
 oif ((r15.1 : Int) == 1) (
 obind (g190 d r15.2 [(-1), 0, 100000, 100001]) fun r18 =>
 obind (l13[(r14.1 : Int).toNat]?) fun x19 =>
 some ((l13.set ((r14.1 : Int).toNat) (r18.1, x19.2)), r18.2)) (
 oif ((r15.1 : Int) == 2) (
 obind (g190 d r15.2 [100000, 100001]) fun r20 =>
 oif (decide (0 ≤ ((IntKind.i64.wrap (((l13.length : Nat) : Int) - 1)) : Int))) (
 oif (Nat.blt (((IntKind.i64.wrap (((l13.length : Nat) : Int) - 1)) : Int).toNat) l13.length) (
 obind (l13[((IntKind.i64.wrap (((l13.length : Nat) : Int) - 1)) : Int).toNat]?) fun x21 =>
 some ((l13.set (((IntKind.i64.wrap (((l13.length : Nat) : Int) - 1)) : Int).toNat) (r20.1, x21.2)), r20.2)) none) none) (
 some (l13, r15.2))))) none) none) (
 some (l13, (l10, n11, n12)))
noncomputable def l217_0_b (d : Nat) (n5 : Int) (kx217_0_0 : (List Int) → Int → Int → (List (Int × Int)) → Option ((List (Int × Int)) × ((List Int) × Int × Int))) (ag9 : ((List (Int × Int)) × Int × ((List Int) × Int × Int)) → Option ((List (Int × Int)) × ((List Int) × Int × Int))) (l10 : List (Int × Int)) (n11 : Int) (x12 : ((List Int) × Int × Int)) : Option ((List (Int × Int)) × ((List Int) × Int × Int)) :=
 oif (decide ((((l10.length : Nat) : Int) : Int) < n5)) (
 obind (g190 d x12 [1, 40, 100, 576, 1500]) fun r13 =>
 oif (Nat.ble ((l10.length + [(n11, r13.1)].length) * 16) roomMax) (
 obind (g190 d r13.2 [0, 0, 1, 2, 10, 40]) fun r14 =>
 ag9 ((l10 ++ [(n11, r13.1)]), (IntKind.i64.wrap (n11 + r14.1)), r14.2)) none) (
 kx217_0_0 x12.1 x12.2.1 x12.2.2 l10)
noncomputable def l217_0 (d : Nat) (n5 : Int) (kx217_0_0 : (List Int) → Int → Int → (List (Int × Int)) → Option ((List (Int × Int)) × ((List Int) × Int × Int))) (ag9 : ((List (Int × Int)) × Int × ((List Int) × Int × Int)) → Option ((List (Int × Int)) × ((List Int) × Int × Int))) (s : ((List (Int × Int)) × Int × ((List Int) × Int × Int))) : Option ((List (Int × Int)) × ((List Int) × Int × Int)) := l217_0_b d n5 kx217_0_0 ag9 s.1 s.2.1 s.2.2
noncomputable def j217_1 (d : Nat) (r2 : (Int × ((List Int) × Int × Int))) (n5 : Int) (l6 : List Int) (n7 : Int) (n8 : Int) : Option ((List (Int × Int)) × ((List Int) × Int × Int)) :=
 iterP (l217_0 d n5 (j217_0 d)) fuelN ([], r2.1, (l6, n7, n8))
theorem e217 (d : Nat) (x1 : ((List Int) × Int × Int)) : g217 (d + 1) x1 =
 obind (g203 d x1 3) fun r2 =>
 obind (g203 d r2.2 12) fun r3 =>
 obind (g230 d r3.2 24) fun r4 =>
 oif r4.1 (
 obind (g203 d r4.2 2) fun r5 =>
 j217_1 d r2 (IntKind.i64.wrap ((60 : Int) + r5.1)) r5.2.1 r5.2.2.1 r5.2.2.2) (
 j217_1 d r2 r3.1 r4.2.1 r4.2.2.1 r4.2.2.2) := by kernel_rfl

theorem e49 (d : Nat) (l1 : List Int) : g49 (d + 1) l1 =
 obind (g190 d (l1, 0, 0) [0, 1, 10, 100, 1500, 100000, 100001, (-1)]) fun r2 =>
 obind (g217 d r2.2) fun r3 =>
 some (r2.1, r3.1) := by kernel_rfl

theorem e218 (d : Nat) (n1 : Int) : g218 (d + 1) n1 =
 oif (decide ((n1 : Int) ≥ 0)) (
 some (decide ((n1 : Int) ≤ 100000))) (
 some false) := by kernel_rfl

theorem e205 (d : Nat) (n1 : Int) : g205 (d + 1) n1 =
 oif (decide ((n1 : Int) ≥ 0)) (
 some (decide ((n1 : Int) ≤ 100000))) (
 some false) := by kernel_rfl

theorem e249 (d : Nat) (n1 : Int) : g249 (d + 1) n1 =
 oif (decide ((n1 : Int) ≥ 1)) (
 some (decide ((n1 : Int) ≤ 1500))) (
 some false) := by kernel_rfl

noncomputable def j219_0 (d : Nat) (l1 : List (Int × Int)) (b3 : Bool) : Option Bool :=
 some (decide ((((l1.length : Nat) : Int) : Int) ≤ 60))
noncomputable def j219_1 (d : Nat) (ag2 : (Bool × Int) → Option Bool) (b3 : Bool) (n4 : Int) (b6 : Bool) (b7 : Bool) (b8 : Bool) (b9 : Bool) (b10 : Bool) (b11 : Bool) : Option Bool :=
 oif b11 (
 some false) (
 ag2 (b3, (IntKind.i64.wrap (n4 + 1))))
noncomputable def l219_0_b (d : Nat) (l1 : List (Int × Int)) (kx219_0_0 : Bool → Option Bool) (ag2 : (Bool × Int) → Option Bool) (b3 : Bool) (n4 : Int) : Option Bool :=
 oif (decide ((n4 : Int) < ((l1.length : Nat) : Int))) (
 oif (decide (0 ≤ (n4 : Int))) (
 obind (l1[(n4 : Int).toNat]?) fun x5 =>
 obind (g249 d x5.2) fun r6 =>
 oif (!r6) (
 j219_1 d ag2 b3 n4 r6 (!r6) true true true true) (
 obind (g205 d x5.1) fun r7 =>
 oif (!r7) (
 j219_1 d ag2 b3 n4 r6 (!r6) false (!r7) true true) (
 oif (decide ((n4 : Int) > 0)) (
 oif (decide (0 ≤ ((IntKind.i64.wrap (n4 - 1)) : Int))) (
 obind (l1[((IntKind.i64.wrap (n4 - 1)) : Int).toNat]?) fun x8 =>
 j219_1 d ag2 b3 n4 r6 (!r6) false (!r7) false (decide ((x5.1 : Int) < x8.1))) none) (
 j219_1 d ag2 b3 n4 r6 (!r6) false (!r7) false false)))) none) (
 kx219_0_0 b3)
noncomputable def l219_0 (d : Nat) (l1 : List (Int × Int)) (kx219_0_0 : Bool → Option Bool) (ag2 : (Bool × Int) → Option Bool) (s : (Bool × Int)) : Option Bool := l219_0_b d l1 kx219_0_0 ag2 s.1 s.2
theorem e219 (d : Nat) (l1 : List (Int × Int)) : g219 (d + 1) l1 =
 iterP (l219_0 d l1 (j219_0 d l1)) fuelN (false, 0) := by kernel_rfl

theorem e254 (d : Nat) (n1 : Int) (n2 : Int) (n3 : Int) (n4 : Int) : g254 (d + 1) n1 n2 n3 n4 =
 some (if (IntKind.i64.wrap (n1 + (IntKind.i64.wrap (n2 * n4)))) < n3 then (IntKind.i64.wrap (n1 + (IntKind.i64.wrap (n2 * n4)))) else n3) := by kernel_rfl

noncomputable def j227_0 (d : Nat)  (n4 : Int) (n5 : Int) (n6 : Int) (l7 : List Bool) : Option ((Int × Int × Int) × (List Bool)) :=
 some ((n4, n5, n6), l7)
noncomputable def l227_0_b (d : Nat) (l2 : List (Int × Int)) (kx227_0_0 : Int → Int → Int → (List Bool) → Option ((Int × Int × Int) × (List Bool))) (ag3 : (Int × Int × (Int × Int × Int) × (List Bool)) → Option ((Int × Int × Int) × (List Bool))) (n4 : Int) (n5 : Int) (x6 : (Int × Int × Int)) (l7 : List Bool) : Option ((Int × Int × Int) × (List Bool)) :=
 oif (decide ((n5 : Int) < ((l2.length : Nat) : Int))) (
 oif (decide (0 ≤ (n5 : Int))) (
 obind (l2[(n5 : Int).toNat]?) fun x8 =>
 obind (g254 d x6.2.2 x6.1 x6.2.1 (IntKind.i64.wrap (x8.1 - n4))) fun r9 =>
 oif (decide ((r9 : Int) ≥ x8.2)) (
 oif (decide (0 ≤ (n5 : Int))) (
 oif (Nat.blt ((n5 : Int).toNat) l7.length) (
 obind (l7[(n5 : Int).toNat]?) fun b10 =>
 ag3 (x8.1, (IntKind.i64.wrap (n5 + 1)), (x6.1, x6.2.1, (IntKind.i64.wrap (r9 - x8.2))), (l7.set ((n5 : Int).toNat) true))) none) none) (
 ag3 (x8.1, (IntKind.i64.wrap (n5 + 1)), (x6.1, x6.2.1, r9), l7))) none) (
 kx227_0_0 x6.1 x6.2.1 x6.2.2 l7)
noncomputable def l227_0 (d : Nat) (l2 : List (Int × Int)) (kx227_0_0 : Int → Int → Int → (List Bool) → Option ((Int × Int × Int) × (List Bool))) (ag3 : (Int × Int × (Int × Int × Int) × (List Bool)) → Option ((Int × Int × Int) × (List Bool))) (s : (Int × Int × (Int × Int × Int) × (List Bool))) : Option ((Int × Int × Int) × (List Bool)) := l227_0_b d l2 kx227_0_0 ag3 s.1 s.2.1 s.2.2.1 s.2.2.2
theorem e227 (d : Nat) (x1 : (Int × Int × Int)) (l2 : List (Int × Int)) : g227 (d + 1) x1 l2 =
 oif (decide (0 ≤ (((l2.length : Nat) : Int) : Int))) (
 oif (decide (0 ≤ (((l2.length : Nat) : Int) : Int))) (
 oif (Nat.ble ((((l2.length : Nat) : Int) : Int).toNat) ((((l2.length : Nat) : Int) : Int).toNat) && Nat.ble (((((l2.length : Nat) : Int) : Int).toNat) * 1) roomMax) (
 iterP (l227_0 d l2 (j227_0 d)) fuelN (0, 0, x1, (List.replicate ((((l2.length : Nat) : Int) : Int).toNat) (false : Bool)))) none) none) none := by kernel_rfl

noncomputable def j222_0 (d : Nat)  (b5 : Bool) : Option Bool :=
 some true
noncomputable def l222_0_b (d : Nat) (r3 : ((Int × Int × Int) × (List Bool))) (kx222_0_0 : Bool → Option Bool) (ag4 : (Bool × Int) → Option Bool) (b5 : Bool) (n6 : Int) : Option Bool :=
 oif (decide ((n6 : Int) < ((r3.2.length : Nat) : Int))) (
 oif (decide (0 ≤ (n6 : Int))) (
 oif (Nat.blt ((n6 : Int).toNat) r3.2.length) (
 obind (r3.2[(n6 : Int).toNat]?) fun b7 =>
 oif (!b7) (
 some false) (
 ag4 (b5, (IntKind.i64.wrap (n6 + 1))))) none) none) (
 kx222_0_0 b5)
noncomputable def l222_0 (d : Nat) (r3 : ((Int × Int × Int) × (List Bool))) (kx222_0_0 : Bool → Option Bool) (ag4 : (Bool × Int) → Option Bool) (s : (Bool × Int)) : Option Bool := l222_0_b d r3 kx222_0_0 ag4 s.1 s.2
theorem e222 (d : Nat) (x1 : (Int × Int × Int)) (l2 : List (Int × Int)) : g222 (d + 1) x1 l2 =
 obind (g227 d x1 l2) fun r3 =>
 iterP (l222_0 d r3 (j222_0 d)) fuelN (false, 0) := by kernel_rfl

noncomputable def j50i220_0 (d : Nat)  (n5 : Int) : Option (Int × Bool) :=
 some (n5, true)
noncomputable def l50i220_0_b (d : Nat) (n1 : Int) (l2 : List (Int × Int)) (kx50i220_0_0 : Int → Option (Int × Bool)) (ag4 : (Int × Int) → Option (Int × Bool)) (n5 : Int) (n6 : Int) : Option (Int × Bool) :=
 oif (decide ((n5 : Int) ≤ n6)) (
 obind (g222 d (n1, (IntKind.i64.wrap ((IntKind.i64.wrap (n5 + n6)).tdiv 2)), (IntKind.i64.wrap ((IntKind.i64.wrap (n5 + n6)).tdiv 2))) l2) fun r7 =>
 oif r7 (
 ag4 (n5, (IntKind.i64.wrap ((IntKind.i64.wrap ((IntKind.i64.wrap (n5 + n6)).tdiv 2)) - 1)))) (
 ag4 ((IntKind.i64.wrap ((IntKind.i64.wrap ((IntKind.i64.wrap (n5 + n6)).tdiv 2)) + 1)), n6))) (
 kx50i220_0_0 n5)
noncomputable def l50i220_0 (d : Nat) (n1 : Int) (l2 : List (Int × Int)) (kx50i220_0_0 : Int → Option (Int × Bool)) (ag4 : (Int × Int) → Option (Int × Bool)) (s : (Int × Int)) : Option (Int × Bool) := l50i220_0_b d n1 l2 kx50i220_0_0 ag4 s.1 s.2
noncomputable def j50_0 (d : Nat) (n1 : Int) (l2 : List (Int × Int)) (b3 : Bool) : Option (Int × Bool) :=
 oif b3 (
 some (0, false)) (
 iterP (l50i220_0 d n1 l2 (j50i220_0 d)) fuelN (0, 90000))
theorem e50 (d : Nat) (n1 : Int) (l2 : List (Int × Int)) : g50 (d + 3) n1 l2 =
 obind (g218 (d + 2) n1) fun r3 =>
 oif (!r3) (
 j50_0 d n1 l2 true) (
 obind (g219 (d + 2) l2) fun r4 =>
 j50_0 d n1 l2 (!r4)) := by kernel_rfl

theorem e204 (d : Nat) (n1 : Int) (n2 : Int) : g204 (d + 1) n1 n2 =
 oif (decide ((n1 : Int) > n2)) (
 some n1) (
 some n2) := by kernel_rfl

theorem e211 (d : Nat) (n1 : Int) (n2 : Int) (n3 : Int) : g211 (d + 1) n1 n2 n3 =
 oif (decide ((n1 : Int) ≥ n2)) (
 some (decide ((n1 : Int) ≤ n3))) (
 some false) := by kernel_rfl

theorem e223 (d : Nat) (n1 : Int) : g223 (d + 1) n1 =
 obind (g211 d n1 0 100000) fun r2 =>
 some r2 := by kernel_rfl

theorem e354 (d : Nat) (n1 : Int) : g354 (d + 1) n1 =
 obind (g211 d n1 1 1500) fun r2 =>
 some r2 := by kernel_rfl

noncomputable def j224_0 (d : Nat) (l1 : List (Int × Int)) (b3 : Bool) : Option Bool :=
 some (decide ((((l1.length : Nat) : Int) : Int) ≤ 60))
noncomputable def j224_1 (d : Nat) (ag2 : (Bool × Int) → Option Bool) (b3 : Bool) (n4 : Int) (b6 : Bool) (b7 : Bool) (b8 : Bool) (b9 : Bool) (b10 : Bool) (b11 : Bool) : Option Bool :=
 oif b11 (
 some false) (
 ag2 (b3, (IntKind.i64.wrap (n4 + 1))))
noncomputable def l224_0_b (d : Nat) (l1 : List (Int × Int)) (kx224_0_0 : Bool → Option Bool) (ag2 : (Bool × Int) → Option Bool) (b3 : Bool) (n4 : Int) : Option Bool :=
 oif (decide ((n4 : Int) < ((l1.length : Nat) : Int))) (
 oif (decide (0 ≤ (n4 : Int))) (
 obind (l1[(n4 : Int).toNat]?) fun x5 =>
 obind (g354 d x5.2) fun r6 =>
 oif (!r6) (
 j224_1 d ag2 b3 n4 r6 (!r6) true true true true) (
 obind (g211 d x5.1 0 100000) fun r7 =>
 oif (!r7) (
 j224_1 d ag2 b3 n4 r6 (!r6) false (!r7) true true) (
 oif (decide ((n4 : Int) > 0)) (
 oif (decide (0 ≤ ((IntKind.i64.wrap (n4 - 1)) : Int))) (
 obind (l1[((IntKind.i64.wrap (n4 - 1)) : Int).toNat]?) fun x8 =>
 j224_1 d ag2 b3 n4 r6 (!r6) false (!r7) false (decide ((x8.1 : Int) > x5.1))) none) (
 j224_1 d ag2 b3 n4 r6 (!r6) false (!r7) false false)))) none) (
 kx224_0_0 b3)
noncomputable def l224_0 (d : Nat) (l1 : List (Int × Int)) (kx224_0_0 : Bool → Option Bool) (ag2 : (Bool × Int) → Option Bool) (s : (Bool × Int)) : Option Bool := l224_0_b d l1 kx224_0_0 ag2 s.1 s.2
theorem e224 (d : Nat) (l1 : List (Int × Int)) : g224 (d + 1) l1 =
 iterP (l224_0 d l1 (j224_0 d l1)) fuelN (false, 0) := by kernel_rfl

noncomputable def j225_0 (d : Nat)  (n4 : Int) (n5 : Int) (n6 : Int) : Option (Int × Int × Int) :=
 some (n4, n5, n6)
noncomputable def j225_1 (d : Nat) (ag3 : (Int × Int × Int × Int) → Option (Int × Int × Int)) (n7 : Int) (n9 : Int) (n10 : Int) (n11 : Int) (n12 : Int) (n13 : Int) (n14 : Int) : Option (Int × Int × Int) :=
 ag3 (n9, n10, n11, (IntKind.i64.wrap (n7 + 1)))
noncomputable def j225_2 (d : Nat) (n1 : Int) (n7 : Int) (ag8 : (Int × Int × Int × Int × Int) → Option (Int × Int × Int)) (n9 : Int) (n10 : Int) (n11 : Int) (n12 : Int) (n13 : Int) (x14 : (Int × Int)) (x15 : (Int × Int)) (x16 : (Int × Int)) (b17 : Bool) (b18 : Bool) : Option (Int × Int × Int) :=
 oif b18 (
 ag8 (n7, n13, (IntKind.i64.wrap ((IntKind.i64.wrap (n12 + x14.2)) - (IntKind.i64.wrap (n1 * (IntKind.i64.wrap (x15.1 - x16.1)))))), (IntKind.i64.wrap (n12 + x14.2)), (IntKind.i64.wrap (n13 + 1)))) (
 ag8 (n9, n10, n11, (IntKind.i64.wrap (n12 + x14.2)), (IntKind.i64.wrap (n13 + 1))))
noncomputable def l225_1_b (d : Nat) (n1 : Int) (l2 : List (Int × Int)) (n7 : Int) (kx225_1_0 : Int → Int → Int → Int → Int → Int → Option (Int × Int × Int)) (ag8 : (Int × Int × Int × Int × Int) → Option (Int × Int × Int)) (n9 : Int) (n10 : Int) (n11 : Int) (n12 : Int) (n13 : Int) : Option (Int × Int × Int) :=
 oif (decide ((n13 : Int) < ((l2.length : Nat) : Int))) (
 oif (decide (0 ≤ (n13 : Int))) (
 obind (l2[(n13 : Int).toNat]?) fun x14 =>
 oif (decide (0 ≤ (n13 : Int))) (
 obind (l2[(n13 : Int).toNat]?) fun x15 =>
 oif (decide (0 ≤ (n7 : Int))) (
 obind (l2[(n7 : Int).toNat]?) fun x16 =>
 oif (decide ((n11 : Int) < 0)) (
 j225_2 d n1 n7 ag8 n9 n10 n11 n12 n13 x14 x15 x16 true true) (
 j225_2 d n1 n7 ag8 n9 n10 n11 n12 n13 x14 x15 x16 false (decide (((IntKind.i64.wrap ((IntKind.i64.wrap (n12 + x14.2)) - (IntKind.i64.wrap (n1 * (IntKind.i64.wrap (x15.1 - x16.1)))))) : Int) > n11)))) none) none) none) (
 kx225_1_0 n9 n10 n11 n12 n13 n13)
noncomputable def l225_1 (d : Nat) (n1 : Int) (l2 : List (Int × Int)) (n7 : Int) (kx225_1_0 : Int → Int → Int → Int → Int → Int → Option (Int × Int × Int)) (ag8 : (Int × Int × Int × Int × Int) → Option (Int × Int × Int)) (s : (Int × Int × Int × Int × Int)) : Option (Int × Int × Int) := l225_1_b d n1 l2 n7 kx225_1_0 ag8 s.1 s.2.1 s.2.2.1 s.2.2.2.1 s.2.2.2.2
noncomputable def l225_0_b (d : Nat) (n1 : Int) (l2 : List (Int × Int)) (kx225_0_0 : Int → Int → Int → Option (Int × Int × Int)) (ag3 : (Int × Int × Int × Int) → Option (Int × Int × Int)) (n4 : Int) (n5 : Int) (n6 : Int) (n7 : Int) : Option (Int × Int × Int) :=
 oif (decide ((n7 : Int) < ((l2.length : Nat) : Int))) (
 iterP (l225_1 d n1 l2 n7 (j225_1 d ag3 n7)) fuelN (n4, n5, n6, 0, n7)) (
 kx225_0_0 n4 n5 n6)
noncomputable def l225_0 (d : Nat) (n1 : Int) (l2 : List (Int × Int)) (kx225_0_0 : Int → Int → Int → Option (Int × Int × Int)) (ag3 : (Int × Int × Int × Int) → Option (Int × Int × Int)) (s : (Int × Int × Int × Int)) : Option (Int × Int × Int) := l225_0_b d n1 l2 kx225_0_0 ag3 s.1 s.2.1 s.2.2.1 s.2.2.2
theorem e225 (d : Nat) (n1 : Int) (l2 : List (Int × Int)) : g225 (d + 1) n1 l2 =
 iterP (l225_0 d n1 l2 (j225_0 d)) fuelN (0, 0, (-1), 0) := by kernel_rfl

theorem e51 (d : Nat) (n1 : Int) (l2 : List (Int × Int)) : g51 (d + 1) n1 l2 =
 obind (g223 d n1) fun r3 =>
 oif (!r3) (
 some (0, false)) (
 obind (g224 d l2) fun r4 =>
 oif (!r4) (
 some (0, false)) (
 obind (g225 d n1 l2) fun r5 =>
 obind (g204 d 0 r5.2.2) fun r6 =>
 some (r6, true))) := by kernel_rfl

noncomputable def j52_0 (d : Nat)  (n6 : Int) (n7 : Int) : Option (Int × Int × Bool) :=
 some (n6, n7, true)
noncomputable def j52_1 (d : Nat) (ag5 : (Int × Int × Int × Int) → Option (Int × Int × Bool)) (n9 : Int) (n11 : Int) (n12 : Int) (n13 : Int) (n14 : Int) (n15 : Int) (n16 : Int) : Option (Int × Int × Bool) :=
 ag5 (n11, n12, n13, (IntKind.i64.wrap (n9 + 1)))
noncomputable def l52_1_b (d : Nat) (n1 : Int) (l2 : List (Int × Int)) (n9 : Int) (kx52_1_0 : Int → Int → Int → Int → Int → Int → Option (Int × Int × Bool)) (ag10 : (Int × Int × Int × Int × Int) → Option (Int × Int × Bool)) (n11 : Int) (n12 : Int) (n13 : Int) (n14 : Int) (n15 : Int) : Option (Int × Int × Bool) :=
 oif (decide ((n15 : Int) < ((l2.length : Nat) : Int))) (
 oif (decide (0 ≤ (n15 : Int))) (
 obind (l2[(n15 : Int).toNat]?) fun x16 =>
 oif (decide (0 ≤ (n15 : Int))) (
 obind (l2[(n15 : Int).toNat]?) fun x17 =>
 oif (decide (0 ≤ (n9 : Int))) (
 obind (l2[(n9 : Int).toNat]?) fun x18 =>
 oif (decide (((IntKind.i64.wrap ((IntKind.i64.wrap (n14 + x16.2)) - (IntKind.i64.wrap (n1 * (IntKind.i64.wrap (x17.1 - x18.1)))))) : Int) > n13)) (
 ag10 (n9, n15, (IntKind.i64.wrap ((IntKind.i64.wrap (n14 + x16.2)) - (IntKind.i64.wrap (n1 * (IntKind.i64.wrap (x17.1 - x18.1)))))), (IntKind.i64.wrap (n14 + x16.2)), (IntKind.i64.wrap (n15 + 1)))) (
 ag10 (n11, n12, n13, (IntKind.i64.wrap (n14 + x16.2)), (IntKind.i64.wrap (n15 + 1))))) none) none) none) (
 kx52_1_0 n11 n12 n13 n14 n15 n15)
noncomputable def l52_1 (d : Nat) (n1 : Int) (l2 : List (Int × Int)) (n9 : Int) (kx52_1_0 : Int → Int → Int → Int → Int → Int → Option (Int × Int × Bool)) (ag10 : (Int × Int × Int × Int × Int) → Option (Int × Int × Bool)) (s : (Int × Int × Int × Int × Int)) : Option (Int × Int × Bool) := l52_1_b d n1 l2 n9 kx52_1_0 ag10 s.1 s.2.1 s.2.2.1 s.2.2.2.1 s.2.2.2.2
noncomputable def l52_0_b (d : Nat) (n1 : Int) (l2 : List (Int × Int)) (kx52_0_0 : Int → Int → Option (Int × Int × Bool)) (ag5 : (Int × Int × Int × Int) → Option (Int × Int × Bool)) (n6 : Int) (n7 : Int) (n8 : Int) (n9 : Int) : Option (Int × Int × Bool) :=
 oif (decide ((n9 : Int) < ((l2.length : Nat) : Int))) (
 iterP (l52_1 d n1 l2 n9 (j52_1 d ag5 n9)) fuelN (n6, n7, n8, 0, n9)) (
 kx52_0_0 n6 n7)
noncomputable def l52_0 (d : Nat) (n1 : Int) (l2 : List (Int × Int)) (kx52_0_0 : Int → Int → Option (Int × Int × Bool)) (ag5 : (Int × Int × Int × Int) → Option (Int × Int × Bool)) (s : (Int × Int × Int × Int)) : Option (Int × Int × Bool) := l52_0_b d n1 l2 kx52_0_0 ag5 s.1 s.2.1 s.2.2.1 s.2.2.2
noncomputable def j52_2 (d : Nat) (n1 : Int) (l2 : List (Int × Int)) (b3 : Bool) : Option (Int × Int × Bool) :=
 oif b3 (
 some (0, 0, false)) (
 obind (l2[0]?) fun x4 =>
 iterP (l52_0 d n1 l2 (j52_0 d)) fuelN (0, 0, x4.2, 0))
theorem e52 (d : Nat) (n1 : Int) (l2 : List (Int × Int)) : g52 (d + 1) n1 l2 =
 obind (g218 d n1) fun r3 =>
 oif (!r3) (
 j52_2 d n1 l2 true) (
 obind (g219 d l2) fun r4 =>
 oif (!r4) (
 j52_2 d n1 l2 true) (
 j52_2 d n1 l2 ((((l2.length : Nat) : Int) : Int) == 0))) := by kernel_rfl

theorem e53 (d : Nat) (n1 : Int) (l2 : List (Int × Int)) : g53 (d + 1) n1 l2 =
 obind (g223 d n1) fun r3 =>
 oif (!r3) (
 some (0, 0, false)) (
 obind (g224 d l2) fun r4 =>
 oif (!r4) (
 some (0, 0, false)) (
 oif ((((l2.length : Nat) : Int) : Int) == 0) (
 some (0, 0, false)) (
 obind (g225 d n1 l2) fun r5 =>
 some (r5.1, r5.2.1, true)))) := by kernel_rfl

theorem e274 (d : Nat) (n1 : Int) (n2 : Int) : g274 (d + 1) n1 n2 =
 oif (decide ((n1 : Int) < n2)) (
 some n1) (
 some n2) := by kernel_rfl

theorem e226 (d : Nat) (x1 : ((List Int) × Int × Int)) : g226 (d + 1) x1 =
 obind (g190 d x1 [0, 1, 10, 100, 1500, 100000]) fun r2 =>
 obind (g190 d r2.2 [0, 100, 1500, 3000, 20000, 1000000]) fun r3 =>
 obind (g203 d r3.2 3000) fun r4 =>
 obind (g274 d r3.1 r4.1) fun r5 =>
 obind (g190 d r4.2 [0, r3.1, (IntKind.i64.wrap (r3.1.tdiv 2)), r5]) fun r6 =>
 obind (g203 d r6.2 24) fun r7 =>
 oif ((r7.1 : Int) == 0) (
 obind (g190 d r7.2 [(-1), 100001]) fun r8 =>
 some ((r8.1, r3.1, r6.1), r8.2)) (
 oif ((r7.1 : Int) == 1) (
 obind (g190 d r7.2 [(-1), 1000001]) fun r9 =>
 some ((r2.1, r9.1, r6.1), r9.2)) (
 oif ((r7.1 : Int) == 2) (
 obind (g190 d r7.2 [(-1), (IntKind.i64.wrap (r3.1 + 1))]) fun r10 =>
 some ((r2.1, r3.1, r10.1), r10.2)) (
 some ((r2.1, r3.1, r6.1), r7.2)))) := by kernel_rfl

theorem e54 (d : Nat) (l1 : List Int) : g54 (d + 1) l1 =
 obind (g226 d (l1, 0, 0)) fun r2 =>
 obind (g217 d r2.2) fun r3 =>
 some (r2.1, r3.1) := by kernel_rfl

theorem e61 (d : Nat) (x1 : (Int × Int × Int)) : g61 (d + 1) x1 =
 obind (g218 d x1.1) fun r2 =>
 oif r2 (
 oif (decide ((x1.2.1 : Int) ≥ 0)) (
 oif (decide ((x1.2.1 : Int) ≤ 1000000)) (
 oif (decide ((x1.2.2 : Int) ≥ 0)) (
 some (decide ((x1.2.2 : Int) ≤ x1.2.1))) (
 some false)) (
 some false)) (
 some false)) (
 some false) := by kernel_rfl

theorem e55 (d : Nat) (x1 : (Int × Int × Int)) (l2 : List (Int × Int)) : g55 (d + 1) x1 l2 =
 obind (g61 d x1) fun r3 =>
 oif (!r3) (
 some ((0, 0, 0), [], false)) (
 obind (g219 d l2) fun r4 =>
 oif (!r4) (
 some ((0, 0, 0), [], false)) (
 obind (g227 d x1 l2) fun r5 =>
 some (r5.1, r5.2, true))) := by kernel_rfl

theorem e228 (d : Nat) (x1 : (Int × Int × Int)) : g228 (d + 1) x1 =
 obind (g223 d x1.1) fun r2 =>
 oif r2 (
 obind (g211 d x1.2.1 0 1000000) fun r3 =>
 oif r3 (
 obind (g211 d x1.2.2 0 x1.2.1) fun r4 =>
 some r4) (
 some false)) (
 some false) := by kernel_rfl

theorem e258 (d : Nat) (x1 : (Int × Int × Int)) (n2 : Int) : g258 (d + 1) x1 n2 =
 obind (g274 d x1.2.1 (IntKind.i64.wrap (x1.2.2 + (IntKind.i64.wrap (x1.1 * n2))))) fun r3 =>
 some (x1.1, x1.2.1, r3) := by kernel_rfl

noncomputable def j229_0 (d : Nat)  (n4 : Int) (n5 : Int) (n6 : Int) (l7 : List Bool) : Option ((Int × Int × Int) × (List Bool)) :=
 some ((n4, n5, n6), l7)
noncomputable def j229_1 (d : Nat) (ag3 : ((List Bool) × Int × Int × (Int × Int × Int)) → Option ((Int × Int × Int) × (List Bool))) (l4 : List Bool) (n6 : Int) (x8 : (Int × Int)) (r9 : (Int × Int × Int)) (b10 : Bool) (n11 : Int) : Option ((Int × Int × Int) × (List Bool)) :=
 oif (Nat.ble ((l4.length + [(decide ((r9.2.2 : Int) ≥ x8.2))].length) * 1) roomMax) (
 ag3 ((l4 ++ [(decide ((r9.2.2 : Int) ≥ x8.2))]), x8.1, (IntKind.i64.wrap (n6 + 1)), (r9.1, r9.2.1, n11))) none
noncomputable def l229_0_b (d : Nat) (l2 : List (Int × Int)) (kx229_0_0 : Int → Int → Int → (List Bool) → Option ((Int × Int × Int) × (List Bool))) (ag3 : ((List Bool) × Int × Int × (Int × Int × Int)) → Option ((Int × Int × Int) × (List Bool))) (l4 : List Bool) (n5 : Int) (n6 : Int) (x7 : (Int × Int × Int)) : Option ((Int × Int × Int) × (List Bool)) :=
 oif (decide ((n6 : Int) < ((l2.length : Nat) : Int))) (
 oif (decide (0 ≤ (n6 : Int))) (
 obind (l2[(n6 : Int).toNat]?) fun x8 =>
 obind (g258 d x7 (IntKind.i64.wrap (x8.1 - n5))) fun r9 =>
 oif (decide ((r9.2.2 : Int) ≥ x8.2)) (
 j229_1 d ag3 l4 n6 x8 r9 true (IntKind.i64.wrap (r9.2.2 - x8.2))) (
 j229_1 d ag3 l4 n6 x8 r9 false r9.2.2)) none) (
 kx229_0_0 x7.1 x7.2.1 x7.2.2 l4)
noncomputable def l229_0 (d : Nat) (l2 : List (Int × Int)) (kx229_0_0 : Int → Int → Int → (List Bool) → Option ((Int × Int × Int) × (List Bool))) (ag3 : ((List Bool) × Int × Int × (Int × Int × Int)) → Option ((Int × Int × Int) × (List Bool))) (s : ((List Bool) × Int × Int × (Int × Int × Int))) : Option ((Int × Int × Int) × (List Bool)) := l229_0_b d l2 kx229_0_0 ag3 s.1 s.2.1 s.2.2.1 s.2.2.2
theorem e229 (d : Nat) (x1 : (Int × Int × Int)) (l2 : List (Int × Int)) : g229 (d + 1) x1 l2 =
 iterP (l229_0 d l2 (j229_0 d)) fuelN ([], 0, 0, x1) := by kernel_rfl

theorem e56 (d : Nat) (x1 : (Int × Int × Int)) (l2 : List (Int × Int)) : g56 (d + 1) x1 l2 =
 obind (g228 d x1) fun r3 =>
 oif (!r3) (
 some ((0, 0, 0), [], false)) (
 obind (g224 d l2) fun r4 =>
 oif (!r4) (
 some ((0, 0, 0), [], false)) (
 obind (g229 d x1 l2) fun r5 =>
 some (r5.1, r5.2, true))) := by kernel_rfl

noncomputable def j57_0 (d : Nat) (r2 : ((Int × Int × Int) × ((List Int) × Int × Int))) (r3 : ((List (Int × Int)) × ((List Int) × Int × Int))) (b4 : Bool) (l5 : List Int) (n6 : Int) (n7 : Int) : Option ((Int × Int × Int) × (List (Int × Int))) :=
 oif b4 (
 obind (g225 d r2.1.1 r3.1) fun r8 =>
 obind (g203 d (l5, n6, n7) 2) fun r9 =>
 obind (g204 d 0 (IntKind.i64.wrap (r8.2.2 - r9.1))) fun r10 =>
 some ((r2.1.1, r10, r10), r3.1)) (
 some (r2.1, r3.1))
theorem e57 (d : Nat) (l1 : List Int) : g57 (d + 1) l1 =
 obind (g226 d (l1, 0, 0)) fun r2 =>
 obind (g217 d r2.2) fun r3 =>
 obind (g228 d r2.1) fun r4 =>
 oif r4 (
 obind (g224 d r3.1) fun r5 =>
 oif r5 (
 obind (g230 d r3.2 2) fun r6 =>
 j57_0 d r2 r3 r6.1 r6.2.1 r6.2.2.1 r6.2.2.2) (
 j57_0 d r2 r3 false r3.2.1 r3.2.2.1 r3.2.2.2)) (
 j57_0 d r2 r3 false r3.2.1 r3.2.2.1 r3.2.2.2) := by kernel_rfl

theorem e58 (d : Nat) (x1 : (Int × Int × Int)) (l2 : List (Int × Int)) : g58 (d + 1) x1 l2 =
 obind (g61 d x1) fun r3 =>
 oif (!r3) (
 some (false, false)) (
 obind (g219 d l2) fun r4 =>
 oif (!r4) (
 some (false, false)) (
 obind (g222 d x1 l2) fun r5 =>
 some (r5, true))) := by kernel_rfl

noncomputable def j231_0 (d : Nat)  (b5 : Bool) : Option Bool :=
 some true
noncomputable def l231_0_b (d : Nat) (r3 : ((Int × Int × Int) × (List Bool))) (kx231_0_0 : Bool → Option Bool) (ag4 : (Bool × Int) → Option Bool) (b5 : Bool) (n6 : Int) : Option Bool :=
 oif (decide ((n6 : Int) < ((r3.2.length : Nat) : Int))) (
 oif (decide (0 ≤ (n6 : Int))) (
 oif (Nat.blt ((n6 : Int).toNat) r3.2.length) (
 obind (r3.2[(n6 : Int).toNat]?) fun b7 =>
 oif (!b7) (
 some false) (
 ag4 (b5, (IntKind.i64.wrap (n6 + 1))))) none) none) (
 kx231_0_0 b5)
noncomputable def l231_0 (d : Nat) (r3 : ((Int × Int × Int) × (List Bool))) (kx231_0_0 : Bool → Option Bool) (ag4 : (Bool × Int) → Option Bool) (s : (Bool × Int)) : Option Bool := l231_0_b d r3 kx231_0_0 ag4 s.1 s.2
theorem e231 (d : Nat) (x1 : (Int × Int × Int)) (l2 : List (Int × Int)) : g231 (d + 1) x1 l2 =
 obind (g229 d x1 l2) fun r3 =>
 iterP (l231_0 d r3 (j231_0 d)) fuelN (false, 0) := by kernel_rfl

theorem e59 (d : Nat) (x1 : (Int × Int × Int)) (l2 : List (Int × Int)) : g59 (d + 1) x1 l2 =
 obind (g228 d x1) fun r3 =>
 oif (!r3) (
 some (false, false)) (
 obind (g224 d l2) fun r4 =>
 oif (!r4) (
 some (false, false)) (
 obind (g231 d x1 l2) fun r5 =>
 some (r5, true))) := by kernel_rfl

noncomputable def j60_0 (d : Nat)  (b4 : Bool) : Option Bool :=
 some true
noncomputable def l60_0_b (d : Nat) (l1 : List Bool) (l2 : List Bool) (kx60_0_0 : Bool → Option Bool) (ag3 : (Bool × Int) → Option Bool) (b4 : Bool) (n5 : Int) : Option Bool :=
 oif (decide ((n5 : Int) < ((l1.length : Nat) : Int))) (
 oif (decide (0 ≤ (n5 : Int))) (
 obind (l1[(n5 : Int).toNat]?) fun b6 =>
 oif (decide (0 ≤ (n5 : Int))) (
 obind (l2[(n5 : Int).toNat]?) fun b7 =>
 oif (!(b6 == b7)) (
 some false) (
 ag3 (b4, (IntKind.i64.wrap (n5 + 1))))) none) none) (
 kx60_0_0 b4)
noncomputable def l60_0 (d : Nat) (l1 : List Bool) (l2 : List Bool) (kx60_0_0 : Bool → Option Bool) (ag3 : (Bool × Int) → Option Bool) (s : (Bool × Int)) : Option Bool := l60_0_b d l1 l2 kx60_0_0 ag3 s.1 s.2
theorem e60 (d : Nat) (l1 : List Bool) (l2 : List Bool) : g60 (d + 1) l1 l2 =
 oif ((((l1.length : Nat) : Int) : Int) != ((l2.length : Nat) : Int)) (
 some false) (
 iterP (l60_0 d l1 l2 (j60_0 d)) fuelN (false, 0)) := by kernel_rfl

theorem e62 (d : Nat) (n1 : Int) (n2 : Int) : g62 (d + 1) n1 n2 =
 obind (g61 d (n1, n2, n2)) fun r3 =>
 oif (!r3) (
 some ((0, 0, 0), false)) (
 some ((n1, n2, n2), true)) := by kernel_rfl

noncomputable def j5_0 (d : Nat) (r3 : (Int × (List (Int × Int)))) (r5 : (Int × Bool)) (b17 : Bool) : Option Bool :=
 oif b17 (
 some false) (
 oif ((r5.1 : Int) == 0) (
 some ((((r3.2.length : Nat) : Int) : Int) == 0)) (
 obind (g62 d r3.1 (IntKind.i64.wrap (r5.1 - 1))) fun r18 =>
 obind (g58 d r18.1 r3.2) fun r19 =>
 oif r18.2 (
 oif r19.2 (
 some (!r19.1)) (
 some false)) (
 some false)))
noncomputable def j5_1 (d : Nat) (r3 : (Int × (List (Int × Int)))) (r4 : (Int × Bool)) (r5 : (Int × Bool))  : Option Bool :=
 oif (!r4.2) (
 some true) (
 obind (g62 d r3.1 r5.1) fun r15 =>
 obind (g58 d r15.1 r3.2) fun r16 =>
 oif (!r15.2) (
 j5_0 d r3 r5 true) (
 oif (!r16.2) (
 j5_0 d r3 r5 true) (
 j5_0 d r3 r5 (!r16.1))))
noncomputable def j5_2 (d : Nat) (r3 : (Int × (List (Int × Int)))) (r4 : (Int × Bool)) (r5 : (Int × Bool)) (r7 : (Int × Int × Bool)) (n16 : Int) : Option Bool :=
 oif (decide (0 ≤ (r7.2.1 : Int))) (
 oif (Nat.blt ((r7.2.1 : Int).toNat) r3.2.length) (
 obind (r3.2[(r7.2.1 : Int).toNat]?) fun x17 =>
 oif (decide (0 ≤ (r7.1 : Int))) (
 oif (Nat.blt ((r7.1 : Int).toNat) r3.2.length) (
 obind (r3.2[(r7.1 : Int).toNat]?) fun x18 =>
 oif (((IntKind.i64.wrap (n16 - (IntKind.i64.wrap (r3.1 * (IntKind.i64.wrap (x17.1 - x18.1)))))) : Int) != r5.1) (
 some false) (
 j5_1 d r3 r4 r5)) none) none) none) none
noncomputable def l5_1_b (d : Nat) (r3 : (Int × (List (Int × Int)))) (r7 : (Int × Int × Bool)) (kx5_1_0 : Int → Option Bool) (ag15 : (Int × Int) → Option Bool) (n16 : Int) (n17 : Int) : Option Bool :=
 oif (decide ((n17 : Int) ≤ r7.2.1)) (
 oif (decide (0 ≤ (n17 : Int))) (
 oif (Nat.blt ((n17 : Int).toNat) r3.2.length) (
 obind (r3.2[(n17 : Int).toNat]?) fun x18 =>
 ag15 ((IntKind.i64.wrap (n16 + x18.2)), (IntKind.i64.wrap (n17 + 1)))) none) none) (
 kx5_1_0 n16)
noncomputable def l5_1 (d : Nat) (r3 : (Int × (List (Int × Int)))) (r7 : (Int × Int × Bool)) (kx5_1_0 : Int → Option Bool) (ag15 : (Int × Int) → Option Bool) (s : (Int × Int)) : Option Bool := l5_1_b d r3 r7 kx5_1_0 ag15 s.1 s.2
noncomputable def j5_3 (d : Nat) (r3 : (Int × (List (Int × Int)))) (r4 : (Int × Bool)) (r5 : (Int × Bool)) (r6 : (Int × Int × Bool)) (r7 : (Int × Int × Bool))  : Option Bool :=
 oif r6.2.2 (
 iterP (l5_1 d r3 r7 (j5_2 d r3 r4 r5 r7)) fuelN (0, r7.1)) (
 j5_1 d r3 r4 r5)
noncomputable def j5_4 (d : Nat) (r3 : (Int × (List (Int × Int)))) (r4 : (Int × Bool)) (r5 : (Int × Bool)) (r6 : (Int × Int × Bool)) (r7 : (Int × Int × Bool)) (r8 : ((Int × Int × Int) × (List (Int × Int)))) (r9 : ((Int × Int × Int) × (List Bool) × Bool)) (b16 : Bool) (n17 : Int) (r18 : (Bool × Bool)) (n19 : Int) : Option Bool :=
 oif (!r18.2) (
 some false) (
 oif (!(r18.1 == b16)) (
 some false) (
 oif (decide ((n17 : Int) > (IntKind.i64.wrap (r8.1.2.2 + (IntKind.i64.wrap (r8.1.1 * n19)))))) (
 some false) (
 obind (g61 d r9.1) fun r20 =>
 oif (!r20) (
 some false) (
 j5_3 d r3 r4 r5 r6 r7))))
noncomputable def j5_5 (d : Nat) (r3 : (Int × (List (Int × Int)))) (r4 : (Int × Bool)) (r5 : (Int × Bool)) (r6 : (Int × Int × Bool)) (r7 : (Int × Int × Bool)) (r8 : ((Int × Int × Int) × (List (Int × Int)))) (r9 : ((Int × Int × Int) × (List Bool) × Bool)) (b16 : Bool) (n17 : Int) : Option Bool :=
 obind (g58 d r8.1 r8.2) fun r18 =>
 oif (decide ((((r8.2.length : Nat) : Int) : Int) > 0)) (
 oif (decide (0 ≤ ((IntKind.i64.wrap (((r8.2.length : Nat) : Int) - 1)) : Int))) (
 oif (Nat.blt (((IntKind.i64.wrap (((r8.2.length : Nat) : Int) - 1)) : Int).toNat) r8.2.length) (
 obind (r8.2[((IntKind.i64.wrap (((r8.2.length : Nat) : Int) - 1)) : Int).toNat]?) fun x19 =>
 j5_4 d r3 r4 r5 r6 r7 r8 r9 b16 n17 r18 x19.1) none) none) (
 j5_4 d r3 r4 r5 r6 r7 r8 r9 b16 n17 r18 0)
noncomputable def j5_6 (d : Nat) (r8 : ((Int × Int × Int) × (List (Int × Int)))) (ag15 : (Bool × Int × Int) → Option Bool) (n17 : Int) (n18 : Int) (b19 : Bool) (b20 : Bool) (b21 : Bool) (b22 : Bool) : Option Bool :=
 oif b19 (
 oif (decide (0 ≤ (n18 : Int))) (
 oif (Nat.blt ((n18 : Int).toNat) r8.2.length) (
 obind (r8.2[(n18 : Int).toNat]?) fun x23 =>
 ag15 (b20, (IntKind.i64.wrap (n17 + x23.2)), (IntKind.i64.wrap (n18 + 1)))) none) none) (
 ag15 (b20, n17, (IntKind.i64.wrap (n18 + 1))))
noncomputable def l5_0_b (d : Nat) (r8 : ((Int × Int × Int) × (List (Int × Int)))) (r10 : ((Int × Int × Int) × (List Bool) × Bool)) (kx5_0_0 : Bool → Int → Option Bool) (ag15 : (Bool × Int × Int) → Option Bool) (b16 : Bool) (n17 : Int) (n18 : Int) : Option Bool :=
 oif (decide ((n18 : Int) < ((r10.2.1.length : Nat) : Int))) (
 oif (decide (0 ≤ (n18 : Int))) (
 oif (Nat.blt ((n18 : Int).toNat) r10.2.1.length) (
 obind (r10.2.1[(n18 : Int).toNat]?) fun b19 =>
 oif b16 (
 j5_6 d r8 ag15 n17 n18 b19 b19 true b19) (
 j5_6 d r8 ag15 n17 n18 b19 false false false)) none) none) (
 kx5_0_0 b16 n17)
noncomputable def l5_0 (d : Nat) (r8 : ((Int × Int × Int) × (List (Int × Int)))) (r10 : ((Int × Int × Int) × (List Bool) × Bool)) (kx5_0_0 : Bool → Int → Option Bool) (ag15 : (Bool × Int × Int) → Option Bool) (s : (Bool × Int × Int)) : Option Bool := l5_0_b d r8 r10 kx5_0_0 ag15 s.1 s.2.1 s.2.2
noncomputable def j5_7 (d : Nat) (r3 : (Int × (List (Int × Int)))) (r4 : (Int × Bool)) (r5 : (Int × Bool)) (r6 : (Int × Int × Bool)) (r7 : (Int × Int × Bool)) (r8 : ((Int × Int × Int) × (List (Int × Int)))) (r9 : ((Int × Int × Int) × (List Bool) × Bool)) (r10 : ((Int × Int × Int) × (List Bool) × Bool)) (b14 : Bool) : Option Bool :=
 oif b14 (
 some false) (
 oif r9.2.2 (
 iterP (l5_0 d r8 r10 (j5_5 d r3 r4 r5 r6 r7 r8 r9)) fuelN (true, 0, 0)) (
 j5_3 d r3 r4 r5 r6 r7))
theorem e5 (d : Nat) (l1 : List Int) (l2 : List Int) : g5 (d + 1) l1 l2 =
 oif (decide (((IntKind.i64.wrap (((l1.length : Nat) : Int) + ((l2.length : Nat) : Int))) : Int) > 1048576)) (
 some true) (
 obind (g49 d l1) fun r3 =>
 obind (g50 d r3.1 r3.2) fun r4 =>
 obind (g51 d r3.1 r3.2) fun r5 =>
 obind (g52 d r3.1 r3.2) fun r6 =>
 obind (g53 d r3.1 r3.2) fun r7 =>
 obind (g54 d l2) fun r8 =>
 obind (g55 d r8.1 r8.2) fun r9 =>
 obind (g56 d r8.1 r8.2) fun r10 =>
 obind (g57 d l2) fun r11 =>
 obind (g58 d r11.1 r11.2) fun r12 =>
 obind (g59 d r11.1 r11.2) fun r13 =>
 oif (!(r4.2 == r5.2)) (
 j5_7 d r3 r4 r5 r6 r7 r8 r9 r10 true) (
 oif ((r4.1 : Int) != r5.1) (
 j5_7 d r3 r4 r5 r6 r7 r8 r9 r10 true) (
 oif (!(r6.2.2 == r7.2.2)) (
 j5_7 d r3 r4 r5 r6 r7 r8 r9 r10 true) (
 oif ((r6.1 : Int) != r7.1) (
 j5_7 d r3 r4 r5 r6 r7 r8 r9 r10 true) (
 oif ((r6.2.1 : Int) != r7.2.1) (
 j5_7 d r3 r4 r5 r6 r7 r8 r9 r10 true) (
 oif (!(r9.2.2 == r10.2.2)) (
 j5_7 d r3 r4 r5 r6 r7 r8 r9 r10 true) (
 oif (!(((r9.1.1 : Int) == r10.1.1) && (((r9.1.2.1 : Int) == r10.1.2.1) && (((r9.1.2.2 : Int) == r10.1.2.2) && true)))) (
 j5_7 d r3 r4 r5 r6 r7 r8 r9 r10 true) (
 obind (g60 d r9.2.1 r10.2.1) fun r14 =>
 oif (!r14) (
 j5_7 d r3 r4 r5 r6 r7 r8 r9 r10 true) (
 oif (!(r12.2 == r13.2)) (
 j5_7 d r3 r4 r5 r6 r7 r8 r9 r10 true) (
 oif (!(r12.1 == r13.1)) (
 j5_7 d r3 r4 r5 r6 r7 r8 r9 r10 true) (
 oif r9.2.2 (
 j5_7 d r3 r4 r5 r6 r7 r8 r9 r10 ((((r10.2.1.length : Nat) : Int) : Int) != ((r8.2.length : Nat) : Int))) (
 j5_7 d r3 r4 r5 r6 r7 r8 r9 r10 false)))))))))))) := by kernel_rfl

end Go.Proofs.Ytcoojpojnmnboaa
