/-
  The residual forms of the program's functions under the interpreter by value, printed by program (wip/pv/gen2.py); each equation is checked by the kernel.
  Conditions: none.
-/
import Derived.Test.YtcoojpojnmnboaaVDef
import Derived.Test.YtcoojpojnmnboaaProg
import Derived.KernelRfl
set_option linter.all false
set_option maxRecDepth 1000000
namespace Go.Proofs.Ytcoojpojnmnboaa
open Go.Ev Go.Pv

theorem fuel_is : ∃ n : Nat, n = 4194304 := ⟨_, rfl⟩
noncomputable def fuelN : Nat := Classical.choose fuel_is
theorem fuelN_eq : fuelN = 4194304 := Classical.choose_spec fuel_is
def pvSig : FuncId → Sig
  | 7 => ⟨[(.ro, (.sl (.int .u8))), (.ro, (.sl (.int .u8)))], [(false, .bool)]⟩
  | 46 => ⟨[(.ro, (.sl (.int .i64))), (.ro, (.sl (.int .i64)))], [(false, .bool)]⟩
  | 61 => ⟨[(.ro, (.pair (.int .i64) (.pair (.int .i64) (.int .i64))))], [(false, .bool)]⟩
  | 84 => ⟨[(.ro, (.sl (.int .u8)))], [(false, (.pair (.pair (.int .i64) (.pair (.int .i64) (.int .i64))) (.pair (.int .i64) (.pair (.int .i64) (.int .i64))))), (true, (.sl (.pair (.int .i64) (.int .i64)))), (true, (.sl (.int .i64)))]⟩
  | 85 => ⟨[(.ro, (.pair (.pair (.int .i64) (.pair (.int .i64) (.int .i64))) (.pair (.int .i64) (.pair (.int .i64) (.int .i64))))), (.ro, (.sl (.pair (.int .i64) (.int .i64)))), (.ro, (.sl (.int .i64)))], [(false, (.pair (.pair (.int .i64) (.pair (.int .i64) (.int .i64))) (.pair (.int .i64) (.pair (.int .i64) (.int .i64))))), (true, (.sl (.int .i64))), (false, .bool)]⟩
  | 86 => ⟨[(.ro, (.pair (.pair (.int .i64) (.pair (.int .i64) (.int .i64))) (.pair (.int .i64) (.pair (.int .i64) (.int .i64))))), (.ro, (.sl (.pair (.int .i64) (.int .i64)))), (.ro, (.sl (.int .i64)))], [(false, (.pair (.pair (.int .i64) (.pair (.int .i64) (.int .i64))) (.pair (.int .i64) (.pair (.int .i64) (.int .i64))))), (true, (.sl (.int .i64))), (false, .bool)]⟩
  | 87 => ⟨[(.ro, (.sl (.int .u8)))], [(true, (.sl (.int .i64)))]⟩
  | 88 => ⟨[(.ro, (.sl (.int .i64)))], [(true, (.sl (.int .i64))), (false, .bool)]⟩
  | 89 => ⟨[(.ro, (.sl (.int .i64)))], [(true, (.sl (.int .i64))), (false, .bool)]⟩
  | 90 => ⟨[(.ro, (.sl (.int .u8)))], [(true, (.sl (.pair (.int .i64) (.int .i64)))), (true, (.sl (.int .i64)))]⟩
  | 91 => ⟨[(.ro, (.sl (.pair (.int .i64) (.int .i64)))), (.ro, (.sl (.int .i64)))], [(true, (.sl (.int .i64))), (false, .bool)]⟩
  | 92 => ⟨[(.ro, (.sl (.pair (.int .i64) (.int .i64)))), (.ro, (.sl (.int .i64)))], [(true, (.sl (.int .i64))), (false, .bool)]⟩
  | 93 => ⟨[(.ro, (.sl (.int .u8)))], [(false, (.pair (.pair (.int .i64) (.pair (.int .i64) (.int .i64))) (.pair (.int .i64) (.pair (.int .i64) (.int .i64))))), (false, (.int .i64))]⟩
  | 94 => ⟨[(.ro, (.pair (.pair (.int .i64) (.pair (.int .i64) (.int .i64))) (.pair (.int .i64) (.pair (.int .i64) (.int .i64))))), (.ro, (.int .i64))], [(false, (.int .i64)), (false, .bool)]⟩
  | 95 => ⟨[(.ro, (.pair (.pair (.int .i64) (.pair (.int .i64) (.int .i64))) (.pair (.int .i64) (.pair (.int .i64) (.int .i64))))), (.ro, (.int .i64))], [(false, (.int .i64)), (false, .bool)]⟩
  | 96 => ⟨[(.ro, (.pair (.pair (.int .i64) (.pair (.int .i64) (.int .i64))) (.pair (.int .i64) (.pair (.int .i64) (.int .i64))))), (.ro, (.int .i64))], [(false, (.int .i64)), (false, .bool)]⟩
  | 97 => ⟨[(.ro, (.pair (.pair (.int .i64) (.pair (.int .i64) (.int .i64))) (.pair (.int .i64) (.pair (.int .i64) (.int .i64))))), (.ro, (.int .i64))], [(false, (.int .i64)), (false, .bool)]⟩
  | 98 => ⟨[(.ro, (.sl (.int .i64)))], [(false, (.int .i64))]⟩
  | 99 => ⟨[(.ro, (.pair (.pair (.int .i64) (.pair (.int .i64) (.int .i64))) (.pair (.int .i64) (.pair (.int .i64) (.int .i64)))))], [(false, .bool)]⟩
  | 190 => ⟨[(.ps, (.pair (.sl (.int .u8)) (.pair (.int .i64) (.int .u64)))), (.ro, (.sl (.int .i64)))], [(false, (.int .i64))]⟩
  | 203 => ⟨[(.ps, (.pair (.sl (.int .u8)) (.pair (.int .i64) (.int .u64)))), (.ro, (.int .i64))], [(false, (.int .i64))]⟩
  | 205 => ⟨[(.ro, (.int .i64))], [(false, .bool)]⟩
  | 211 => ⟨[(.ro, (.int .i64)), (.ro, (.int .i64)), (.ro, (.int .i64))], [(false, .bool)]⟩
  | 217 => ⟨[(.ps, (.pair (.sl (.int .u8)) (.pair (.int .i64) (.int .u64))))], [(true, (.sl (.pair (.int .i64) (.int .i64))))]⟩
  | 218 => ⟨[(.ro, (.int .i64))], [(false, .bool)]⟩
  | 219 => ⟨[(.ro, (.sl (.pair (.int .i64) (.int .i64))))], [(false, .bool)]⟩
  | 223 => ⟨[(.ro, (.int .i64))], [(false, .bool)]⟩
  | 224 => ⟨[(.ro, (.sl (.pair (.int .i64) (.int .i64))))], [(false, .bool)]⟩
  | 226 => ⟨[(.ps, (.pair (.sl (.int .u8)) (.pair (.int .i64) (.int .u64))))], [(false, (.pair (.int .i64) (.pair (.int .i64) (.int .i64))))]⟩
  | 228 => ⟨[(.ro, (.pair (.int .i64) (.pair (.int .i64) (.int .i64))))], [(false, .bool)]⟩
  | 230 => ⟨[(.ps, (.pair (.sl (.int .u8)) (.pair (.int .i64) (.int .u64)))), (.ro, (.int .i64))], [(false, .bool)]⟩
  | 249 => ⟨[(.ro, (.int .i64))], [(false, .bool)]⟩
  | 251 => ⟨[(.ps, (.pair (.sl (.int .u8)) (.pair (.int .i64) (.int .u64))))], [(false, (.pair (.pair (.int .i64) (.pair (.int .i64) (.int .i64))) (.pair (.int .i64) (.pair (.int .i64) (.int .i64)))))]⟩
  | 252 => ⟨[(.ps, (.pair (.sl (.int .u8)) (.pair (.int .i64) (.int .u64)))), (.ro, (.int .i64))], [(true, (.sl (.int .i64)))]⟩
  | 253 => ⟨[(.ro, (.sl (.int .i64)))], [(false, .bool)]⟩
  | 254 => ⟨[(.ro, (.int .i64)), (.ro, (.int .i64)), (.ro, (.int .i64)), (.ro, (.int .i64))], [(false, (.int .i64))]⟩
  | 255 => ⟨[(.ps, (.pair (.pair (.int .i64) (.pair (.int .i64) (.int .i64))) (.pair (.int .i64) (.pair (.int .i64) (.int .i64))))), (.ro, (.int .i64)), (.ro, (.int .i64))], [(false, (.int .i64))]⟩
  | 256 => ⟨[(.ro, (.pair (.pair (.int .i64) (.pair (.int .i64) (.int .i64))) (.pair (.int .i64) (.pair (.int .i64) (.int .i64)))))], [(false, .bool)]⟩
  | 257 => ⟨[(.ro, (.sl (.int .i64))), (.ro, (.int .i64)), (.ro, (.int .i64))], [(false, .bool)]⟩
  | 258 => ⟨[(.ro, (.pair (.int .i64) (.pair (.int .i64) (.int .i64)))), (.ro, (.int .i64))], [(false, (.pair (.int .i64) (.pair (.int .i64) (.int .i64))))]⟩
  | 259 => ⟨[(.ro, (.pair (.pair (.int .i64) (.pair (.int .i64) (.int .i64))) (.pair (.int .i64) (.pair (.int .i64) (.int .i64))))), (.ro, (.int .i64)), (.ro, (.int .i64))], [(false, (.int .i64))]⟩
  | 260 => ⟨[(.ro, (.pair (.pair (.int .i64) (.pair (.int .i64) (.int .i64))) (.pair (.int .i64) (.pair (.int .i64) (.int .i64))))), (.ro, (.int .i64)), (.ro, (.int .i64))], [(false, (.pair (.pair (.int .i64) (.pair (.int .i64) (.int .i64))) (.pair (.int .i64) (.pair (.int .i64) (.int .i64)))))]⟩
  | 274 => ⟨[(.ro, (.int .i64)), (.ro, (.int .i64))], [(false, (.int .i64))]⟩
  | 352 => ⟨[(.ps, (.pair (.sl (.int .u8)) (.pair (.int .i64) (.int .u64))))], [(false, (.int .i64))]⟩
  | 354 => ⟨[(.ro, (.int .i64))], [(false, .bool)]⟩
  | 355 => ⟨[(.ro, (.int .i64))], [(false, .bool)]⟩
  | 356 => ⟨[(.ro, (.pair (.pair (.int .i64) (.pair (.int .i64) (.int .i64))) (.pair (.int .i64) (.pair (.int .i64) (.int .i64))))), (.ro, (.int .i64)), (.ro, (.int .i64))], [(false, (.int .i64))]⟩
  | _ => ⟨[], []⟩
def pvLoops : FuncId → Nat → LoopA
  | 46, 0 => ⟨[(4, false, .bool), (13, false, (.int .i64))], [], [], []⟩
  | 85, 0 => ⟨[(9, true, (.sl (.int .i64))), (10, false, (.int .i64)), (43, false, (.int .i64))], [(3, (.pair (.pair (.int .i64) (.pair (.int .i64) (.int .i64))) (.pair (.int .i64) (.pair (.int .i64) (.int .i64)))))], [], []⟩
  | 86, 0 => ⟨[(9, true, (.sl (.int .i64))), (10, false, (.int .i64)), (42, false, (.int .i64))], [(3, (.pair (.pair (.int .i64) (.pair (.int .i64) (.int .i64))) (.pair (.int .i64) (.pair (.int .i64) (.int .i64)))))], [], []⟩
  | 88, 0 => ⟨[(13, false, (.int .i64))], [], [(4, (.int .i64))], []⟩
  | 89, 0 => ⟨[(18, false, (.int .i64))], [], [(4, (.int .i64))], []⟩
  | 91, 0 => ⟨[(27, false, (.int .i64))], [], [(6, (.int .i64))], []⟩
  | 92, 0 => ⟨[(27, false, (.int .i64))], [], [(6, (.int .i64))], []⟩
  | 98, 0 => ⟨[(3, false, (.int .i64)), (8, false, (.int .i64))], [], [], []⟩
  | 217, 0 => ⟨[(3, true, (.sl (.pair (.int .i64) (.int .i64)))), (4, false, (.int .i64))], [(0, (.pair (.sl (.int .u8)) (.pair (.int .i64) (.int .u64))))], [], []⟩
  | 219, 0 => ⟨[(2, false, .bool), (7, false, (.int .i64))], [], [], []⟩
  | 224, 0 => ⟨[(2, false, .bool), (7, false, (.int .i64))], [], [], []⟩
  | 252, 0 => ⟨[(1, false, (.int .i64)), (5, true, (.sl (.int .i64)))], [(0, (.pair (.sl (.int .u8)) (.pair (.int .i64) (.int .u64))))], [], []⟩
  | 253, 0 => ⟨[(2, false, .bool), (7, false, (.int .i64))], [], [], []⟩
  | 257, 0 => ⟨[(6, false, .bool), (11, false, (.int .i64))], [], [], []⟩
  | _, _ => ⟨[], [], [], []⟩
def pvEloops : FuncId → Nat → List (Nat × Value)
  | 46, 0 => [(0, (.slice none 0 0)), (1, (.slice none 0 0)), (4, (.bool false)), (12, (.int .i64 0)), (13, (.int .i64 0))]
  | 85, 0 => [(2, (.slice none 0 0)), (3, (.pointer (some ⟨0, 0, none⟩))), (6, (.pointer (some ⟨0, 0, none⟩))), (7, (.slice none 0 0)), (8, (.bool false)), (9, (.slice none 0 0)), (10, (.int .i64 0)), (41, (.slice none 0 0)), (42, (.int .i64 0)), (43, (.int .i64 0))]
  | 86, 0 => [(2, (.slice none 0 0)), (3, (.pointer (some ⟨0, 0, none⟩))), (6, (.pointer (some ⟨0, 0, none⟩))), (7, (.slice none 0 0)), (8, (.bool false)), (9, (.slice none 0 0)), (10, (.int .i64 0)), (40, (.slice none 0 0)), (41, (.int .i64 0)), (42, (.int .i64 0))]
  | 88, 0 => [(2, (.slice none 0 0)), (3, (.bool false)), (4, (.slice none 0 0)), (11, (.slice none 0 0)), (12, (.int .i64 0)), (13, (.int .i64 0))]
  | 89, 0 => [(2, (.slice none 0 0)), (3, (.bool false)), (4, (.slice none 0 0)), (16, (.slice none 0 0)), (17, (.int .i64 0)), (18, (.int .i64 0))]
  | 91, 0 => [(0, (.slice none 0 0)), (4, (.slice none 0 0)), (5, (.bool false)), (6, (.slice none 0 0)), (25, (.slice none 0 0)), (26, (.int .i64 0)), (27, (.int .i64 0))]
  | 92, 0 => [(1, (.slice none 0 0)), (4, (.slice none 0 0)), (5, (.bool false)), (6, (.slice none 0 0)), (25, (.slice none 0 0)), (26, (.int .i64 0)), (27, (.int .i64 0))]
  | 98, 0 => [(2, (.int .i64 0)), (3, (.int .i64 0)), (6, (.slice none 0 0)), (7, (.int .i64 0)), (8, (.int .i64 0))]
  | 217, 0 => [(0, (.pointer (some ⟨0, 0, none⟩))), (2, (.slice none 0 0)), (3, (.slice none 0 0)), (4, (.int .i64 0)), (5, (.int .i64 0))]
  | 219, 0 => [(0, (.slice none 0 0)), (2, (.bool false)), (5, (.slice none 0 0)), (6, (.int .i64 0)), (7, (.int .i64 0))]
  | 224, 0 => [(0, (.slice none 0 0)), (2, (.bool false)), (5, (.slice none 0 0)), (6, (.int .i64 0)), (7, (.int .i64 0))]
  | 252, 0 => [(0, (.pointer (some ⟨0, 0, none⟩))), (1, (.int .i64 0)), (4, (.slice none 0 0)), (5, (.slice none 0 0))]
  | 253, 0 => [(0, (.slice none 0 0)), (2, (.bool false)), (5, (.slice none 0 0)), (6, (.int .i64 0)), (7, (.int .i64 0))]
  | 257, 0 => [(1, (.int .i64 0)), (2, (.int .i64 0)), (6, (.bool false)), (9, (.slice none 0 0)), (10, (.int .i64 0)), (11, (.int .i64 0))]
  | _, _ => []
def pvInline : FuncId → Bool
  | 220 => true
  | 221 => true
  | 265 => true
  | 353 => true
  | _ => false
noncomputable def pvAnn : AnnV := ⟨fuelN, pvSig, pvLoops, pvEloops, pvInline⟩

/-- loop.example/g00838/laws.qInts -/
noncomputable def g46 (d : Nat) (l1 : List Int) (l2 : List Int) : Option Bool := (lev Try.prog pvAnn d).call 46 (l1, l2)
/-- (*loop.example/g00838/spec.l1Cur).next -/
noncomputable def g352 (d : Nat) (x1 : ((List Int) × Int × Int)) : Option (Int × ((List Int) × Int × Int)) := (lev Try.prog pvAnn d).call 352 (x1)
/-- (*loop.example/g00838/spec.l1Cur).pick -/
noncomputable def g203 (d : Nat) (x1 : ((List Int) × Int × Int)) (n2 : Int) : Option (Int × ((List Int) × Int × Int)) := (lev Try.prog pvAnn d).call 203 (x1, n2)
/-- (*loop.example/g00838/spec.l1Cur).among -/
noncomputable def g190 (d : Nat) (x1 : ((List Int) × Int × Int)) (l2 : List Int) : Option (Int × ((List Int) × Int × Int)) := (lev Try.prog pvAnn d).call 190 (x1, l2)
/-- (*loop.example/g00838/spec.l1Cur).one -/
noncomputable def g230 (d : Nat) (x1 : ((List Int) × Int × Int)) (n2 : Int) : Option (Bool × ((List Int) × Int × Int)) := (lev Try.prog pvAnn d).call 230 (x1, n2)
/-- (*loop.example/g00838/spec.l1Cur).sends -/
noncomputable def g217 (d : Nat) (x1 : ((List Int) × Int × Int)) : Option ((List (Int × Int)) × ((List Int) × Int × Int)) := (lev Try.prog pvAnn d).call 217 (x1)
/-- loop.example/g00838/spec.l1Least -/
noncomputable def g274 (d : Nat) (n1 : Int) (n2 : Int) : Option Int := (lev Try.prog pvAnn d).call 274 (n1, n2)
/-- (*loop.example/g00838/spec.l1Cur).bucket -/
noncomputable def g226 (d : Nat) (x1 : ((List Int) × Int × Int)) : Option ((Int × Int × Int) × ((List Int) × Int × Int)) := (lev Try.prog pvAnn d).call 226 (x1)
/-- (*loop.example/g00838/spec.l1Cur).policer -/
noncomputable def g251 (d : Nat) (x1 : ((List Int) × Int × Int)) : Option (((Int × Int × Int) × Int × Int × Int) × ((List Int) × Int × Int)) := (lev Try.prog pvAnn d).call 251 (x1)
/-- (*loop.example/g00838/spec.l1Cur).colours -/
noncomputable def g252 (d : Nat) (x1 : ((List Int) × Int × Int)) (n2 : Int) : Option ((List Int) × ((List Int) × Int × Int)) := (lev Try.prog pvAnn d).call 252 (x1, n2)
/-- loop.example/g00838/spec.DrawRunPolicer -/
noncomputable def g84 (d : Nat) (l1 : List Int) : Option (((Int × Int × Int) × Int × Int × Int) × (List (Int × Int)) × (List Int)) := (lev Try.prog pvAnn d).call 84 (l1)
/-- loop.example/g00838/impl.isFlowRate -/
noncomputable def g218 (d : Nat) (n1 : Int) : Option Bool := (lev Try.prog pvAnn d).call 218 (n1)
/-- loop.example/g00838/impl.IsBucket -/
noncomputable def g61 (d : Nat) (x1 : (Int × Int × Int)) : Option Bool := (lev Try.prog pvAnn d).call 61 (x1)
/-- loop.example/g00838/impl.IsPolicer -/
noncomputable def g99 (d : Nat) (x1 : ((Int × Int × Int) × Int × Int × Int)) : Option Bool := (lev Try.prog pvAnn d).call 99 (x1)
/-- loop.example/g00838/impl.isTicks -/
noncomputable def g205 (d : Nat) (n1 : Int) : Option Bool := (lev Try.prog pvAnn d).call 205 (n1)
/-- loop.example/g00838/impl.isSize -/
noncomputable def g249 (d : Nat) (n1 : Int) : Option Bool := (lev Try.prog pvAnn d).call 249 (n1)
/-- loop.example/g00838/impl.areSends -/
noncomputable def g219 (d : Nat) (l1 : List (Int × Int)) : Option Bool := (lev Try.prog pvAnn d).call 219 (l1)
/-- loop.example/g00838/impl.isColour -/
noncomputable def g355 (d : Nat) (n1 : Int) : Option Bool := (lev Try.prog pvAnn d).call 355 (n1)
/-- loop.example/g00838/impl.areColours -/
noncomputable def g253 (d : Nat) (l1 : List Int) : Option Bool := (lev Try.prog pvAnn d).call 253 (l1)
/-- loop.example/g00838/impl.filled -/
noncomputable def g254 (d : Nat) (n1 : Int) (n2 : Int) (n3 : Int) (n4 : Int) : Option Int := (lev Try.prog pvAnn d).call 254 (n1, n2, n3, n4)
/-- loop.example/g00838/impl.colourOf -/
noncomputable def g356 (d : Nat) (x1 : ((Int × Int × Int) × Int × Int × Int)) (n2 : Int) (n3 : Int) : Option Int := (lev Try.prog pvAnn d).call 356 (x1, n2, n3)
/-- (*loop.example/g00838/impl.Policer).police -/
noncomputable def g255 (d : Nat) (x1 : ((Int × Int × Int) × Int × Int × Int)) (n2 : Int) (n3 : Int) : Option (Int × ((Int × Int × Int) × Int × Int × Int)) := (lev Try.prog pvAnn d).call 255 (x1, n2, n3)
/-- loop.example/g00838/impl.RunPolicer -/
noncomputable def g85 (d : Nat) (x1 : ((Int × Int × Int) × Int × Int × Int)) (l2 : List (Int × Int)) (l3 : List Int) : Option (((Int × Int × Int) × Int × Int × Int) × (List Int) × Bool) := (lev Try.prog pvAnn d).call 85 (x1, l2, l3)
/-- loop.example/g00838/spec.l1In -/
noncomputable def g211 (d : Nat) (n1 : Int) (n2 : Int) (n3 : Int) : Option Bool := (lev Try.prog pvAnn d).call 211 (n1, n2, n3)
/-- loop.example/g00838/spec.buSize -/
noncomputable def g354 (d : Nat) (n1 : Int) : Option Bool := (lev Try.prog pvAnn d).call 354 (n1)
/-- loop.example/g00838/spec.buSends -/
noncomputable def g224 (d : Nat) (l1 : List (Int × Int)) : Option Bool := (lev Try.prog pvAnn d).call 224 (l1)
/-- loop.example/g00838/spec.buRate -/
noncomputable def g223 (d : Nat) (n1 : Int) : Option Bool := (lev Try.prog pvAnn d).call 223 (n1)
/-- loop.example/g00838/spec.buGood -/
noncomputable def g228 (d : Nat) (x1 : (Int × Int × Int)) : Option Bool := (lev Try.prog pvAnn d).call 228 (x1)
/-- loop.example/g00838/spec.poGood -/
noncomputable def g256 (d : Nat) (x1 : ((Int × Int × Int) × Int × Int × Int)) : Option Bool := (lev Try.prog pvAnn d).call 256 (x1)
/-- loop.example/g00838/spec.l1All -/
noncomputable def g257 (d : Nat) (l1 : List Int) (n2 : Int) (n3 : Int) : Option Bool := (lev Try.prog pvAnn d).call 257 (l1, n2, n3)
/-- loop.example/g00838/spec.buFill -/
noncomputable def g258 (d : Nat) (x1 : (Int × Int × Int)) (n2 : Int) : Option (Int × Int × Int) := (lev Try.prog pvAnn d).call 258 (x1, n2)
/-- loop.example/g00838/spec.poOf -/
noncomputable def g259 (d : Nat) (x1 : ((Int × Int × Int) × Int × Int × Int)) (n2 : Int) (n3 : Int) : Option Int := (lev Try.prog pvAnn d).call 259 (x1, n2, n3)
/-- loop.example/g00838/spec.poAfter -/
noncomputable def g260 (d : Nat) (x1 : ((Int × Int × Int) × Int × Int × Int)) (n2 : Int) (n3 : Int) : Option ((Int × Int × Int) × Int × Int × Int) := (lev Try.prog pvAnn d).call 260 (x1, n2, n3)
/-- loop.example/g00838/spec.RunPolicer -/
noncomputable def g86 (d : Nat) (x1 : ((Int × Int × Int) × Int × Int × Int)) (l2 : List (Int × Int)) (l3 : List Int) : Option (((Int × Int × Int) × Int × Int × Int) × (List Int) × Bool) := (lev Try.prog pvAnn d).call 86 (x1, l2, l3)
/-- loop.example/g00838/spec.DrawCountColours -/
noncomputable def g87 (d : Nat) (l1 : List Int) : Option (List Int) := (lev Try.prog pvAnn d).call 87 (l1)
/-- loop.example/g00838/impl.CountColours -/
noncomputable def g88 (d : Nat) (l1 : List Int) : Option ((List Int) × Bool) := (lev Try.prog pvAnn d).call 88 (l1)
/-- loop.example/g00838/spec.CountColours -/
noncomputable def g89 (d : Nat) (l1 : List Int) : Option ((List Int) × Bool) := (lev Try.prog pvAnn d).call 89 (l1)
/-- loop.example/g00838/spec.DrawBytesOfColours -/
noncomputable def g90 (d : Nat) (l1 : List Int) : Option ((List (Int × Int)) × (List Int)) := (lev Try.prog pvAnn d).call 90 (l1)
/-- loop.example/g00838/impl.BytesOfColours -/
noncomputable def g91 (d : Nat) (l1 : List (Int × Int)) (l2 : List Int) : Option ((List Int) × Bool) := (lev Try.prog pvAnn d).call 91 (l1, l2)
/-- loop.example/g00838/spec.BytesOfColours -/
noncomputable def g92 (d : Nat) (l1 : List (Int × Int)) (l2 : List Int) : Option ((List Int) × Bool) := (lev Try.prog pvAnn d).call 92 (l1, l2)
/-- loop.example/g00838/spec.DrawGreenBound -/
noncomputable def g93 (d : Nat) (l1 : List Int) : Option (((Int × Int × Int) × Int × Int × Int) × Int) := (lev Try.prog pvAnn d).call 93 (l1)
/-- loop.example/g00838/impl.GreenBound -/
noncomputable def g94 (d : Nat) (x1 : ((Int × Int × Int) × Int × Int × Int)) (n2 : Int) : Option (Int × Bool) := (lev Try.prog pvAnn d).call 94 (x1, n2)
/-- loop.example/g00838/spec.GreenBound -/
noncomputable def g95 (d : Nat) (x1 : ((Int × Int × Int) × Int × Int × Int)) (n2 : Int) : Option (Int × Bool) := (lev Try.prog pvAnn d).call 95 (x1, n2)
/-- loop.example/g00838/impl.NotRedBound -/
noncomputable def g96 (d : Nat) (x1 : ((Int × Int × Int) × Int × Int × Int)) (n2 : Int) : Option (Int × Bool) := (lev Try.prog pvAnn d).call 96 (x1, n2)
/-- loop.example/g00838/spec.NotRedBound -/
noncomputable def g97 (d : Nat) (x1 : ((Int × Int × Int) × Int × Int × Int)) (n2 : Int) : Option (Int × Bool) := (lev Try.prog pvAnn d).call 97 (x1, n2)
/-- loop.example/g00838/laws.qSum -/
noncomputable def g98 (d : Nat) (l1 : List Int) : Option Int := (lev Try.prog pvAnn d).call 98 (l1)
/-- loop.example/g00838/laws.FnColours -/
noncomputable def g7 (d : Nat) (l1 : List Int) (l2 : List Int) : Option Bool := (lev Try.prog pvAnn d).call 7 (l1, l2)

noncomputable def j46_0 (d : Nat)  (b4 : Bool) : Option Bool :=
 some true
noncomputable def l46_0_b (d : Nat) (l1 : List Int) (l2 : List Int) (kx46_0_0 : Bool → Option Bool) (ag3 : (Bool × Int) → Option Bool) (b4 : Bool) (n5 : Int) : Option Bool :=
 oif (decide ((n5 : Int) < ((l1.length : Nat) : Int))) (
 oif (decide (0 ≤ (n5 : Int))) (
 obind (l1[(n5 : Int).toNat]?) fun n6 =>
 oif (decide (0 ≤ (n5 : Int))) (
 obind (l2[(n5 : Int).toNat]?) fun n7 =>
 oif ((n6 : Int) != n7) (
 some false) (
 ag3 (b4, (IntKind.i64.wrap (n5 + 1))))) none) none) (
 kx46_0_0 b4)
noncomputable def l46_0 (d : Nat) (l1 : List Int) (l2 : List Int) (kx46_0_0 : Bool → Option Bool) (ag3 : (Bool × Int) → Option Bool) (s : (Bool × Int)) : Option Bool := l46_0_b d l1 l2 kx46_0_0 ag3 s.1 s.2
theorem e46 (d : Nat) (l1 : List Int) (l2 : List Int) : g46 (d + 1) l1 l2 =
 oif ((((l1.length : Nat) : Int) : Int) != ((l2.length : Nat) : Int)) (
 some false) (
 iterP (l46_0 d l1 l2 (j46_0 d)) fuelN (false, 0)) := by kernel_rfl

noncomputable def j352_0 (d : Nat) (x1 : ((List Int) × Int × Int)) (n2 : Int) : Option (Int × ((List Int) × Int × Int)) :=
 oif (decide (((IntKind.i64.wrap (x1.2.1 + 1)) : Int) ≤ ((x1.1.length : Nat) : Int))) (
 some (n2, (x1.1, (IntKind.i64.wrap (x1.2.1 + 1)), (IntKind.u64.wrap ((IntKind.u64.wrap ((IntKind.u64.wrap (x1.2.2 * 6364136223846793005)) + (IntKind.u64.wrap n2))) + 1442695040888963407))))) (
 some ((IntKind.i64.wrap (IntKind.u64.wrap ((BitVec.ofInt IntKind.u64.bits ((IntKind.u64.wrap ((IntKind.u64.wrap ((IntKind.u64.wrap (x1.2.2 * 6364136223846793005)) + (IntKind.u64.wrap n2))) + 1442695040888963407)).fdiv (2 ^ (min (40 : Int).toNat IntKind.u64.bits))) &&& BitVec.ofInt IntKind.u64.bits 255).toNat : Int))), (x1.1, (IntKind.i64.wrap (x1.2.1 + 1)), (IntKind.u64.wrap ((IntKind.u64.wrap ((IntKind.u64.wrap (x1.2.2 * 6364136223846793005)) + (IntKind.u64.wrap n2))) + 1442695040888963407)))))
theorem e352 (d : Nat) (x1 : ((List Int) × Int × Int)) : g352 (d + 1) x1 =
 oif (decide ((x1.2.1 : Int) < ((x1.1.length : Nat) : Int))) (
 oif (decide (0 ≤ (x1.2.1 : Int))) (
 obind (x1.1[(x1.2.1 : Int).toNat]?) fun n2 =>
 j352_0 d x1 (IntKind.i64.wrap n2)) none) (
 j352_0 d x1 0) := by kernel_rfl

theorem e203 (d : Nat) (x1 : ((List Int) × Int × Int)) (n2 : Int) : g203 (d + 1) x1 n2 =
 oif (decide ((n2 : Int) ≤ 1)) (
 some (0, x1)) (
 obind (g352 d x1) fun r3 =>
 oif (decide ((n2 : Int) > 200)) (
 obind (g352 d r3.2) fun r4 =>
 oif ((n2 : Int) == 0) none (
 some (((IntKind.i64.wrap ((IntKind.i64.wrap (r3.1 * 256)) + r4.1)).tmod n2), r4.2))) (
 oif ((n2 : Int) == 0) none (
 some ((r3.1.tmod n2), r3.2)))) := by kernel_rfl

theorem e190 (d : Nat) (x1 : ((List Int) × Int × Int)) (l2 : List Int) : g190 (d + 1) x1 l2 =
 obind (g203 d x1 ((l2.length : Nat) : Int)) fun r3 =>
 oif (decide (0 ≤ (r3.1 : Int))) (
 obind (l2[(r3.1 : Int).toNat]?) fun n4 =>
 some (n4, r3.2)) none := by kernel_rfl

theorem e230 (d : Nat) (x1 : ((List Int) × Int × Int)) (n2 : Int) : g230 (d + 1) x1 n2 =
 obind (g203 d x1 n2) fun r3 =>
 some (((r3.1 : Int) == 0), r3.2) := by kernel_rfl

noncomputable def j217_0 (d : Nat)  (l10 : List Int) (n11 : Int) (n12 : Int) (l13 : List (Int × Int)) : Option ((List (Int × Int)) × ((List Int) × Int × Int)) :=
 oif (decide ((((l13.length : Nat) : Int) : Int) > 0)) (
 obind (g203 d (l10, n11, n12) ((l13.length : Nat) : Int)) fun r14 =>
 oif (decide (0 ≤ (r14.1 : Int))) (
 oif (Nat.blt ((r14.1 : Int).toNat) l13.length) (
 obind (g203 d r14.2 24) fun r15 =>
 oif ((r15.1 : Int) == 0) (
 obind (g190 d r15.2 [0, 1500, 1501]) fun r16 =>
 obind (l13[(r14.1 : Int).toNat]?) fun x17 =>
 some ((l13.set ((r14.1 : Int).toNat) (x17.1, r16.1)), r16.2)) (
 oif ((r15.1 : Int) == 1) (
 obind (g190 d r15.2 [(-1), 0, 100000, 100001]) fun r18 =>
 obind (l13[(r14.1 : Int).toNat]?) fun x19 =>
 some ((l13.set ((r14.1 : Int).toNat) (r18.1, x19.2)), r18.2)) (
 oif ((r15.1 : Int) == 2) (
 obind (g190 d r15.2 [100000, 100001]) fun r20 =>
 oif (decide (0 ≤ ((IntKind.i64.wrap (((l13.length : Nat) : Int) - 1)) : Int))) (
 oif (Nat.blt (((IntKind.i64.wrap (((l13.length : Nat) : Int) - 1)) : Int).toNat) l13.length) (
 obind (l13[((IntKind.i64.wrap (((l13.length : Nat) : Int) - 1)) : Int).toNat]?) fun x21 =>
 some ((l13.set (((IntKind.i64.wrap (((l13.length : Nat) : Int) - 1)) : Int).toNat) (r20.1, x21.2)), r20.2)) none) none) (
 some (l13, r15.2))))) none) none) (
 some (l13, (l10, n11, n12)))
noncomputable def l217_0_b (d : Nat) (n5 : Int) (kx217_0_0 : (List Int) → Int → Int → (List (Int × Int)) → Option ((List (Int × Int)) × ((List Int) × Int × Int))) (ag9 : ((List (Int × Int)) × Int × ((List Int) × Int × Int)) → Option ((List (Int × Int)) × ((List Int) × Int × Int))) (l10 : List (Int × Int)) (n11 : Int) (x12 : ((List Int) × Int × Int)) : Option ((List (Int × Int)) × ((List Int) × Int × Int)) :=
 oif (decide ((((l10.length : Nat) : Int) : Int) < n5)) (
 obind (g190 d x12 [1, 40, 100, 576, 1500]) fun r13 =>
 oif (Nat.ble ((l10.length + [(n11, r13.1)].length) * 16) roomMax) (
 obind (g190 d r13.2 [0, 0, 1, 2, 10, 40]) fun r14 =>
 ag9 ((l10 ++ [(n11, r13.1)]), (IntKind.i64.wrap (n11 + r14.1)), r14.2)) none) (
 kx217_0_0 x12.1 x12.2.1 x12.2.2 l10)
noncomputable def l217_0 (d : Nat) (n5 : Int) (kx217_0_0 : (List Int) → Int → Int → (List (Int × Int)) → Option ((List (Int × Int)) × ((List Int) × Int × Int))) (ag9 : ((List (Int × Int)) × Int × ((List Int) × Int × Int)) → Option ((List (Int × Int)) × ((List Int) × Int × Int))) (s : ((List (Int × Int)) × Int × ((List Int) × Int × Int))) : Option ((List (Int × Int)) × ((List Int) × Int × Int)) := l217_0_b d n5 kx217_0_0 ag9 s.1 s.2.1 s.2.2
noncomputable def j217_1 (d : Nat) (r2 : (Int × ((List Int) × Int × Int))) (n5 : Int) (l6 : List Int) (n7 : Int) (n8 : Int) : Option ((List (Int × Int)) × ((List Int) × Int × Int)) :=
 iterP (l217_0 d n5 (j217_0 d)) fuelN ([], r2.1, (l6, n7, n8))
theorem e217 (d : Nat) (x1 : ((List Int) × Int × Int)) : g217 (d + 1) x1 =
 obind (g203 d x1 3) fun r2 =>
 obind (g203 d r2.2 12) fun r3 =>
 obind (g230 d r3.2 24) fun r4 =>
 oif r4.1 (
 obind (g203 d r4.2 2) fun r5 =>
 j217_1 d r2 (IntKind.i64.wrap ((60 : Int) + r5.1)) r5.2.1 r5.2.2.1 r5.2.2.2) (
 j217_1 d r2 r3.1 r4.2.1 r4.2.2.1 r4.2.2.2) := by kernel_rfl

theorem e274 (d : Nat) (n1 : Int) (n2 : Int) : g274 (d + 1) n1 n2 =
 oif (decide ((n1 : Int) < n2)) (
 some n1) (
 some n2) := by kernel_rfl

theorem e226 (d : Nat) (x1 : ((List Int) × Int × Int)) : g226 (d + 1) x1 =
 obind (g190 d x1 [0, 1, 10, 100, 1500, 100000]) fun r2 =>
 obind (g190 d r2.2 [0, 100, 1500, 3000, 20000, 1000000]) fun r3 =>
 obind (g203 d r3.2 3000) fun r4 =>
 obind (g274 d r3.1 r4.1) fun r5 =>
 obind (g190 d r4.2 [0, r3.1, (IntKind.i64.wrap (r3.1.tdiv 2)), r5]) fun r6 =>
 obind (g203 d r6.2 24) fun r7 =>
 oif ((r7.1 : Int) == 0) (
 obind (g190 d r7.2 [(-1), 100001]) fun r8 =>
 some ((r8.1, r3.1, r6.1), r8.2)) (
 oif ((r7.1 : Int) == 1) (
 obind (g190 d r7.2 [(-1), 1000001]) fun r9 =>
 some ((r2.1, r9.1, r6.1), r9.2)) (
 oif ((r7.1 : Int) == 2) (
 obind (g190 d r7.2 [(-1), (IntKind.i64.wrap (r3.1 + 1))]) fun r10 =>
 some ((r2.1, r3.1, r10.1), r10.2)) (
 some ((r2.1, r3.1, r6.1), r7.2)))) := by kernel_rfl

theorem e251 (d : Nat) (x1 : ((List Int) × Int × Int)) : g251 (d + 1) x1 =
 obind (g226 d x1) fun r2 =>
 obind (g226 d r2.2) fun r3 =>
 oif (decide ((r2.1.1 : Int) > r3.1.1)) (
 obind (g230 d r3.2 10) fun r4 =>
 oif (!r4.1) (
 some (((r3.1.1, r2.1.2), r2.1.1, r3.1.2), r4.2)) (
 some ((r2.1, r3.1), r4.2))) (
 some ((r2.1, r3.1), r3.2)) := by kernel_rfl

noncomputable def j252_0 (d : Nat)  (l4 : List Int) (n5 : Int) (n6 : Int) (l7 : List Int) : Option ((List Int) × ((List Int) × Int × Int)) :=
 obind (g203 d (l4, n5, n6) 24) fun r8 =>
 oif ((r8.1 : Int) == 0) (
 oif (Nat.ble ((l7.length + [1].length) * 8) roomMax) (
 some ((l7 ++ [1]), r8.2)) none) (
 oif ((r8.1 : Int) == 1) (
 oif (decide ((((l7.length : Nat) : Int) : Int) > 0)) (
 obind (g190 d r8.2 [(-1), 3]) fun r9 =>
 oif (Nat.blt 0 l7.length) (
 obind (l7[0]?) fun n10 =>
 some ((l7.set 0 r9.1), r9.2)) none) (
 some (l7, r8.2))) (
 some (l7, r8.2)))
noncomputable def l252_0_b (d : Nat)  (kx252_0_0 : (List Int) → Int → Int → (List Int) → Option ((List Int) × ((List Int) × Int × Int))) (ag3 : (Int × (List Int) × ((List Int) × Int × Int)) → Option ((List Int) × ((List Int) × Int × Int))) (n4 : Int) (l5 : List Int) (x6 : ((List Int) × Int × Int)) : Option ((List Int) × ((List Int) × Int × Int)) :=
 oif (decide ((n4 : Int) > 0)) (
 obind (g203 d x6 3) fun r7 =>
 oif (Nat.ble ((l5.length + [r7.1].length) * 8) roomMax) (
 ag3 ((IntKind.i64.wrap (n4 - 1)), (l5 ++ [r7.1]), r7.2)) none) (
 kx252_0_0 x6.1 x6.2.1 x6.2.2 l5)
noncomputable def l252_0 (d : Nat)  (kx252_0_0 : (List Int) → Int → Int → (List Int) → Option ((List Int) × ((List Int) × Int × Int))) (ag3 : (Int × (List Int) × ((List Int) × Int × Int)) → Option ((List Int) × ((List Int) × Int × Int))) (s : (Int × (List Int) × ((List Int) × Int × Int))) : Option ((List Int) × ((List Int) × Int × Int)) := l252_0_b d kx252_0_0 ag3 s.1 s.2.1 s.2.2
theorem e252 (d : Nat) (x1 : ((List Int) × Int × Int)) (n2 : Int) : g252 (d + 1) x1 n2 =
 iterP (l252_0 d (j252_0 d)) fuelN (n2, [], x1) := by kernel_rfl

theorem e84 (d : Nat) (l1 : List Int) : g84 (d + 1) l1 =
 obind (g251 d (l1, 0, 0)) fun r2 =>
 obind (g217 d r2.2) fun r3 =>
 obind (g230 d r3.2 2) fun r4 =>
 oif r4.1 (
 some (r2.1, r3.1, [])) (
 obind (g252 d r4.2 ((r3.1.length : Nat) : Int)) fun r5 =>
 some (r2.1, r3.1, r5.1)) := by kernel_rfl

theorem e218 (d : Nat) (n1 : Int) : g218 (d + 1) n1 =
 oif (decide ((n1 : Int) ≥ 0)) (
 some (decide ((n1 : Int) ≤ 100000))) (
 some false) := by kernel_rfl

theorem e61 (d : Nat) (x1 : (Int × Int × Int)) : g61 (d + 1) x1 =
 obind (g218 d x1.1) fun r2 =>
 oif r2 (
 oif (decide ((x1.2.1 : Int) ≥ 0)) (
 oif (decide ((x1.2.1 : Int) ≤ 1000000)) (
 oif (decide ((x1.2.2 : Int) ≥ 0)) (
 some (decide ((x1.2.2 : Int) ≤ x1.2.1))) (
 some false)) (
 some false)) (
 some false)) (
 some false) := by kernel_rfl

theorem e99 (d : Nat) (x1 : ((Int × Int × Int) × Int × Int × Int)) : g99 (d + 1) x1 =
 obind (g61 d x1.1) fun r2 =>
 oif r2 (
 obind (g61 d x1.2) fun r3 =>
 oif r3 (
 some (decide ((x1.1.1 : Int) ≤ x1.2.1))) (
 some false)) (
 some false) := by kernel_rfl

theorem e205 (d : Nat) (n1 : Int) : g205 (d + 1) n1 =
 oif (decide ((n1 : Int) ≥ 0)) (
 some (decide ((n1 : Int) ≤ 100000))) (
 some false) := by kernel_rfl

theorem e249 (d : Nat) (n1 : Int) : g249 (d + 1) n1 =
 oif (decide ((n1 : Int) ≥ 1)) (
 some (decide ((n1 : Int) ≤ 1500))) (
 some false) := by kernel_rfl

noncomputable def j219_0 (d : Nat) (l1 : List (Int × Int)) (b3 : Bool) : Option Bool :=
 some (decide ((((l1.length : Nat) : Int) : Int) ≤ 60))
noncomputable def j219_1 (d : Nat) (ag2 : (Bool × Int) → Option Bool) (b3 : Bool) (n4 : Int) (b6 : Bool) (b7 : Bool) (b8 : Bool) (b9 : Bool) (b10 : Bool) (b11 : Bool) : Option Bool :=
 oif b11 (
 some false) (
 ag2 (b3, (IntKind.i64.wrap (n4 + 1))))
noncomputable def l219_0_b (d : Nat) (l1 : List (Int × Int)) (kx219_0_0 : Bool → Option Bool) (ag2 : (Bool × Int) → Option Bool) (b3 : Bool) (n4 : Int) : Option Bool :=
 oif (decide ((n4 : Int) < ((l1.length : Nat) : Int))) (
 oif (decide (0 ≤ (n4 : Int))) (
 obind (l1[(n4 : Int).toNat]?) fun x5 =>
 obind (g249 d x5.2) fun r6 =>
 oif (!r6) (
 j219_1 d ag2 b3 n4 r6 (!r6) true true true true) (
 obind (g205 d x5.1) fun r7 =>
 oif (!r7) (
 j219_1 d ag2 b3 n4 r6 (!r6) false (!r7) true true) (
 oif (decide ((n4 : Int) > 0)) (
 oif (decide (0 ≤ ((IntKind.i64.wrap (n4 - 1)) : Int))) (
 obind (l1[((IntKind.i64.wrap (n4 - 1)) : Int).toNat]?) fun x8 =>
 j219_1 d ag2 b3 n4 r6 (!r6) false (!r7) false (decide ((x5.1 : Int) < x8.1))) none) (
 j219_1 d ag2 b3 n4 r6 (!r6) false (!r7) false false)))) none) (
 kx219_0_0 b3)
noncomputable def l219_0 (d : Nat) (l1 : List (Int × Int)) (kx219_0_0 : Bool → Option Bool) (ag2 : (Bool × Int) → Option Bool) (s : (Bool × Int)) : Option Bool := l219_0_b d l1 kx219_0_0 ag2 s.1 s.2
theorem e219 (d : Nat) (l1 : List (Int × Int)) : g219 (d + 1) l1 =
 iterP (l219_0 d l1 (j219_0 d l1)) fuelN (false, 0) := by kernel_rfl

theorem e355 (d : Nat) (n1 : Int) : g355 (d + 1) n1 =
 oif (decide ((n1 : Int) ≥ 0)) (
 some (decide ((n1 : Int) ≤ 2))) (
 some false) := by kernel_rfl

noncomputable def j253_0 (d : Nat) (l1 : List Int) (b3 : Bool) : Option Bool :=
 some (decide ((((l1.length : Nat) : Int) : Int) ≤ 60))
noncomputable def l253_0_b (d : Nat) (l1 : List Int) (kx253_0_0 : Bool → Option Bool) (ag2 : (Bool × Int) → Option Bool) (b3 : Bool) (n4 : Int) : Option Bool :=
 oif (decide ((n4 : Int) < ((l1.length : Nat) : Int))) (
 oif (decide (0 ≤ (n4 : Int))) (
 obind (l1[(n4 : Int).toNat]?) fun n5 =>
 obind (g355 d n5) fun r6 =>
 oif (!r6) (
 some false) (
 ag2 (b3, (IntKind.i64.wrap (n4 + 1))))) none) (
 kx253_0_0 b3)
noncomputable def l253_0 (d : Nat) (l1 : List Int) (kx253_0_0 : Bool → Option Bool) (ag2 : (Bool × Int) → Option Bool) (s : (Bool × Int)) : Option Bool := l253_0_b d l1 kx253_0_0 ag2 s.1 s.2
theorem e253 (d : Nat) (l1 : List Int) : g253 (d + 1) l1 =
 iterP (l253_0 d l1 (j253_0 d l1)) fuelN (false, 0) := by kernel_rfl

theorem e254 (d : Nat) (n1 : Int) (n2 : Int) (n3 : Int) (n4 : Int) : g254 (d + 1) n1 n2 n3 n4 =
 some (if (IntKind.i64.wrap (n1 + (IntKind.i64.wrap (n2 * n4)))) < n3 then (IntKind.i64.wrap (n1 + (IntKind.i64.wrap (n2 * n4)))) else n3) := by kernel_rfl

theorem e356 (d : Nat) (x1 : ((Int × Int × Int) × Int × Int × Int)) (n2 : Int) (n3 : Int) : g356 (d + 1) x1 n2 n3 =
 oif ((n3 : Int) == 0) (
 some 0) (
 oif (decide ((x1.2.2.2 : Int) < n2)) (
 some 0) (
 oif ((n3 : Int) == 1) (
 some 1) (
 oif (decide ((x1.1.2.2 : Int) < n2)) (
 some 1) (
 some 2)))) := by kernel_rfl

theorem e255 (d : Nat) (x1 : ((Int × Int × Int) × Int × Int × Int)) (n2 : Int) (n3 : Int) : g255 (d + 1) x1 n2 n3 =
 obind (g356 d x1 n2 n3) fun r4 =>
 oif ((r4 : Int) != 0) (
 oif ((r4 : Int) == 2) (
 some (r4, ((x1.1.1, x1.1.2.1, (IntKind.i64.wrap (x1.1.2.2 - n2))), x1.2.1, x1.2.2.1, (IntKind.i64.wrap (x1.2.2.2 - n2))))) (
 some (r4, (x1.1, x1.2.1, x1.2.2.1, (IntKind.i64.wrap (x1.2.2.2 - n2)))))) (
 oif ((r4 : Int) == 2) (
 some (r4, ((x1.1.1, x1.1.2.1, (IntKind.i64.wrap (x1.1.2.2 - n2))), x1.2))) (
 some (r4, x1))) := by kernel_rfl

noncomputable def j85_0 (d : Nat)  (n6 : Int) (n7 : Int) (n8 : Int) (n9 : Int) (n10 : Int) (n11 : Int) (l12 : List Int) : Option (((Int × Int × Int) × Int × Int × Int) × (List Int) × Bool) :=
 some (((n6, n7, n8), n9, n10, n11), l12, true)
noncomputable def j85_1 (d : Nat) (ag5 : ((List Int) × Int × Int × ((Int × Int × Int) × Int × Int × Int)) → Option (((Int × Int × Int) × Int × Int × Int) × (List Int) × Bool)) (l6 : List Int) (n8 : Int) (x9 : ((Int × Int × Int) × Int × Int × Int)) (x10 : (Int × Int)) (r11 : Int) (r12 : Int) (n13 : Int) (b14 : Bool) : Option (((Int × Int × Int) × Int × Int × Int) × (List Int) × Bool) :=
 obind (g255 d ((x9.1.1, x9.1.2.1, r11), x9.2.1, x9.2.2.1, r12) x10.2 n13) fun r15 =>
 oif (Nat.ble ((l6.length + [r15.1].length) * 8) roomMax) (
 ag5 ((l6 ++ [r15.1]), x10.1, (IntKind.i64.wrap (n8 + 1)), r15.2)) none
noncomputable def l85_0_b (d : Nat) (l2 : List (Int × Int)) (l3 : List Int) (kx85_0_0 : Int → Int → Int → Int → Int → Int → (List Int) → Option (((Int × Int × Int) × Int × Int × Int) × (List Int) × Bool)) (ag5 : ((List Int) × Int × Int × ((Int × Int × Int) × Int × Int × Int)) → Option (((Int × Int × Int) × Int × Int × Int) × (List Int) × Bool)) (l6 : List Int) (n7 : Int) (n8 : Int) (x9 : ((Int × Int × Int) × Int × Int × Int)) : Option (((Int × Int × Int) × Int × Int × Int) × (List Int) × Bool) :=
 oif (decide ((n8 : Int) < ((l2.length : Nat) : Int))) (
 oif (decide (0 ≤ (n8 : Int))) (
 obind (l2[(n8 : Int).toNat]?) fun x10 =>
 obind (g254 d x9.1.2.2 x9.1.1 x9.1.2.1 (IntKind.i64.wrap (x10.1 - n7))) fun r11 =>
 obind (g254 d x9.2.2.2 x9.2.1 x9.2.2.1 (IntKind.i64.wrap (x10.1 - n7))) fun r12 =>
 oif (decide ((((l3.length : Nat) : Int) : Int) > 0)) (
 oif (decide (0 ≤ (n8 : Int))) (
 obind (l3[(n8 : Int).toNat]?) fun n13 =>
 j85_1 d ag5 l6 n8 x9 x10 r11 r12 n13 true) none) (
 j85_1 d ag5 l6 n8 x9 x10 r11 r12 2 false)) none) (
 kx85_0_0 x9.1.1 x9.1.2.1 x9.1.2.2 x9.2.1 x9.2.2.1 x9.2.2.2 l6)
noncomputable def l85_0 (d : Nat) (l2 : List (Int × Int)) (l3 : List Int) (kx85_0_0 : Int → Int → Int → Int → Int → Int → (List Int) → Option (((Int × Int × Int) × Int × Int × Int) × (List Int) × Bool)) (ag5 : ((List Int) × Int × Int × ((Int × Int × Int) × Int × Int × Int)) → Option (((Int × Int × Int) × Int × Int × Int) × (List Int) × Bool)) (s : ((List Int) × Int × Int × ((Int × Int × Int) × Int × Int × Int))) : Option (((Int × Int × Int) × Int × Int × Int) × (List Int) × Bool) := l85_0_b d l2 l3 kx85_0_0 ag5 s.1 s.2.1 s.2.2.1 s.2.2.2
noncomputable def j85_2 (d : Nat) (x1 : ((Int × Int × Int) × Int × Int × Int)) (l2 : List (Int × Int)) (l3 : List Int) (b4 : Bool) : Option (((Int × Int × Int) × Int × Int × Int) × (List Int) × Bool) :=
 oif b4 (
 some (((0, 0, 0), 0, 0, 0), [], false)) (
 iterP (l85_0 d l2 l3 (j85_0 d)) fuelN (([] : List Int), 0, 0, x1))
theorem e85 (d : Nat) (x1 : ((Int × Int × Int) × Int × Int × Int)) (l2 : List (Int × Int)) (l3 : List Int) : g85 (d + 1) x1 l2 l3 =
 obind (g99 d x1) fun r4 =>
 oif (!r4) (
 j85_2 d x1 l2 l3 true) (
 obind (g219 d l2) fun r5 =>
 oif (!r5) (
 j85_2 d x1 l2 l3 true) (
 obind (g253 d l3) fun r6 =>
 oif (!r6) (
 j85_2 d x1 l2 l3 true) (
 oif ((((l3.length : Nat) : Int) : Int) != 0) (
 j85_2 d x1 l2 l3 ((((l3.length : Nat) : Int) : Int) != ((l2.length : Nat) : Int))) (
 j85_2 d x1 l2 l3 false)))) := by kernel_rfl

theorem e211 (d : Nat) (n1 : Int) (n2 : Int) (n3 : Int) : g211 (d + 1) n1 n2 n3 =
 oif (decide ((n1 : Int) ≥ n2)) (
 some (decide ((n1 : Int) ≤ n3))) (
 some false) := by kernel_rfl

theorem e354 (d : Nat) (n1 : Int) : g354 (d + 1) n1 =
 obind (g211 d n1 1 1500) fun r2 =>
 some r2 := by kernel_rfl

noncomputable def j224_0 (d : Nat) (l1 : List (Int × Int)) (b3 : Bool) : Option Bool :=
 some (decide ((((l1.length : Nat) : Int) : Int) ≤ 60))
noncomputable def j224_1 (d : Nat) (ag2 : (Bool × Int) → Option Bool) (b3 : Bool) (n4 : Int) (b6 : Bool) (b7 : Bool) (b8 : Bool) (b9 : Bool) (b10 : Bool) (b11 : Bool) : Option Bool :=
 oif b11 (
 some false) (
 ag2 (b3, (IntKind.i64.wrap (n4 + 1))))
noncomputable def l224_0_b (d : Nat) (l1 : List (Int × Int)) (kx224_0_0 : Bool → Option Bool) (ag2 : (Bool × Int) → Option Bool) (b3 : Bool) (n4 : Int) : Option Bool :=
 oif (decide ((n4 : Int) < ((l1.length : Nat) : Int))) (
 oif (decide (0 ≤ (n4 : Int))) (
 obind (l1[(n4 : Int).toNat]?) fun x5 =>
 obind (g354 d x5.2) fun r6 =>
 oif (!r6) (
 j224_1 d ag2 b3 n4 r6 (!r6) true true true true) (
 obind (g211 d x5.1 0 100000) fun r7 =>
 oif (!r7) (
 j224_1 d ag2 b3 n4 r6 (!r6) false (!r7) true true) (
 oif (decide ((n4 : Int) > 0)) (
 oif (decide (0 ≤ ((IntKind.i64.wrap (n4 - 1)) : Int))) (
 obind (l1[((IntKind.i64.wrap (n4 - 1)) : Int).toNat]?) fun x8 =>
 j224_1 d ag2 b3 n4 r6 (!r6) false (!r7) false (decide ((x8.1 : Int) > x5.1))) none) (
 j224_1 d ag2 b3 n4 r6 (!r6) false (!r7) false false)))) none) (
 kx224_0_0 b3)
noncomputable def l224_0 (d : Nat) (l1 : List (Int × Int)) (kx224_0_0 : Bool → Option Bool) (ag2 : (Bool × Int) → Option Bool) (s : (Bool × Int)) : Option Bool := l224_0_b d l1 kx224_0_0 ag2 s.1 s.2
theorem e224 (d : Nat) (l1 : List (Int × Int)) : g224 (d + 1) l1 =
 iterP (l224_0 d l1 (j224_0 d l1)) fuelN (false, 0) := by kernel_rfl

theorem e223 (d : Nat) (n1 : Int) : g223 (d + 1) n1 =
 obind (g211 d n1 0 100000) fun r2 =>
 some r2 := by kernel_rfl

theorem e228 (d : Nat) (x1 : (Int × Int × Int)) : g228 (d + 1) x1 =
 obind (g223 d x1.1) fun r2 =>
 oif r2 (
 obind (g211 d x1.2.1 0 1000000) fun r3 =>
 oif r3 (
 obind (g211 d x1.2.2 0 x1.2.1) fun r4 =>
 some r4) (
 some false)) (
 some false) := by kernel_rfl

theorem e256 (d : Nat) (x1 : ((Int × Int × Int) × Int × Int × Int)) : g256 (d + 1) x1 =
 obind (g228 d x1.1) fun r2 =>
 oif r2 (
 obind (g228 d x1.2) fun r3 =>
 oif r3 (
 some (decide ((x1.1.1 : Int) ≤ x1.2.1))) (
 some false)) (
 some false) := by kernel_rfl

noncomputable def j257_0 (d : Nat)  (b5 : Bool) : Option Bool :=
 some true
noncomputable def l257_0_b (d : Nat) (l1 : List Int) (n2 : Int) (n3 : Int) (kx257_0_0 : Bool → Option Bool) (ag4 : (Bool × Int) → Option Bool) (b5 : Bool) (n6 : Int) : Option Bool :=
 oif (decide ((n6 : Int) < ((l1.length : Nat) : Int))) (
 oif (decide (0 ≤ (n6 : Int))) (
 obind (l1[(n6 : Int).toNat]?) fun n7 =>
 obind (g211 d n7 n2 n3) fun r8 =>
 oif (!r8) (
 some false) (
 ag4 (b5, (IntKind.i64.wrap (n6 + 1))))) none) (
 kx257_0_0 b5)
noncomputable def l257_0 (d : Nat) (l1 : List Int) (n2 : Int) (n3 : Int) (kx257_0_0 : Bool → Option Bool) (ag4 : (Bool × Int) → Option Bool) (s : (Bool × Int)) : Option Bool := l257_0_b d l1 n2 n3 kx257_0_0 ag4 s.1 s.2
theorem e257 (d : Nat) (l1 : List Int) (n2 : Int) (n3 : Int) : g257 (d + 1) l1 n2 n3 =
 iterP (l257_0 d l1 n2 n3 (j257_0 d)) fuelN (false, 0) := by kernel_rfl

theorem e258 (d : Nat) (x1 : (Int × Int × Int)) (n2 : Int) : g258 (d + 1) x1 n2 =
 obind (g274 d x1.2.1 (IntKind.i64.wrap (x1.2.2 + (IntKind.i64.wrap (x1.1 * n2))))) fun r3 =>
 some (x1.1, x1.2.1, r3) := by kernel_rfl

theorem e259 (d : Nat) (x1 : ((Int × Int × Int) × Int × Int × Int)) (n2 : Int) (n3 : Int) : g259 (d + 1) x1 n2 n3 =
 oif ((n3 : Int) == 0) (
 some 0) (
 oif (decide ((x1.2.2.2 : Int) < n2)) (
 some 0) (
 oif ((n3 : Int) == 1) (
 some 1) (
 oif (decide ((x1.1.2.2 : Int) < n2)) (
 some 1) (
 some 2)))) := by kernel_rfl

theorem e260 (d : Nat) (x1 : ((Int × Int × Int) × Int × Int × Int)) (n2 : Int) (n3 : Int) : g260 (d + 1) x1 n2 n3 =
 oif ((n3 : Int) != 0) (
 oif ((n3 : Int) == 2) (
 some ((x1.1.1, x1.1.2.1, (IntKind.i64.wrap (x1.1.2.2 - n2))), x1.2.1, x1.2.2.1, (IntKind.i64.wrap (x1.2.2.2 - n2)))) (
 some (x1.1, x1.2.1, x1.2.2.1, (IntKind.i64.wrap (x1.2.2.2 - n2))))) (
 oif ((n3 : Int) == 2) (
 some ((x1.1.1, x1.1.2.1, (IntKind.i64.wrap (x1.1.2.2 - n2))), x1.2)) (
 some x1)) := by kernel_rfl

noncomputable def j86_0 (d : Nat)  (n6 : Int) (n7 : Int) (n8 : Int) (n9 : Int) (n10 : Int) (n11 : Int) (l12 : List Int) : Option (((Int × Int × Int) × Int × Int × Int) × (List Int) × Bool) :=
 some (((n6, n7, n8), n9, n10, n11), l12, true)
noncomputable def j86_1 (d : Nat) (ag5 : ((List Int) × Int × Int × ((Int × Int × Int) × Int × Int × Int)) → Option (((Int × Int × Int) × Int × Int × Int) × (List Int) × Bool)) (l6 : List Int) (n8 : Int) (x10 : (Int × Int)) (r11 : (Int × Int × Int)) (r12 : (Int × Int × Int)) (n13 : Int) (b14 : Bool) : Option (((Int × Int × Int) × Int × Int × Int) × (List Int) × Bool) :=
 obind (g259 d (r11, r12) x10.2 n13) fun r15 =>
 obind (g260 d (r11, r12) x10.2 r15) fun r16 =>
 oif (Nat.ble ((l6.length + [r15].length) * 8) roomMax) (
 ag5 ((l6 ++ [r15]), x10.1, (IntKind.i64.wrap (n8 + 1)), r16)) none
noncomputable def l86_0_b (d : Nat) (l2 : List (Int × Int)) (l3 : List Int) (kx86_0_0 : Int → Int → Int → Int → Int → Int → (List Int) → Option (((Int × Int × Int) × Int × Int × Int) × (List Int) × Bool)) (ag5 : ((List Int) × Int × Int × ((Int × Int × Int) × Int × Int × Int)) → Option (((Int × Int × Int) × Int × Int × Int) × (List Int) × Bool)) (l6 : List Int) (n7 : Int) (n8 : Int) (x9 : ((Int × Int × Int) × Int × Int × Int)) : Option (((Int × Int × Int) × Int × Int × Int) × (List Int) × Bool) :=
 oif (decide ((n8 : Int) < ((l2.length : Nat) : Int))) (
 oif (decide (0 ≤ (n8 : Int))) (
 obind (l2[(n8 : Int).toNat]?) fun x10 =>
 obind (g258 d x9.1 (IntKind.i64.wrap (x10.1 - n7))) fun r11 =>
 obind (g258 d x9.2 (IntKind.i64.wrap (x10.1 - n7))) fun r12 =>
 oif (decide ((((l3.length : Nat) : Int) : Int) > 0)) (
 oif (decide (0 ≤ (n8 : Int))) (
 obind (l3[(n8 : Int).toNat]?) fun n13 =>
 j86_1 d ag5 l6 n8 x10 r11 r12 n13 true) none) (
 j86_1 d ag5 l6 n8 x10 r11 r12 2 false)) none) (
 kx86_0_0 x9.1.1 x9.1.2.1 x9.1.2.2 x9.2.1 x9.2.2.1 x9.2.2.2 l6)
noncomputable def l86_0 (d : Nat) (l2 : List (Int × Int)) (l3 : List Int) (kx86_0_0 : Int → Int → Int → Int → Int → Int → (List Int) → Option (((Int × Int × Int) × Int × Int × Int) × (List Int) × Bool)) (ag5 : ((List Int) × Int × Int × ((Int × Int × Int) × Int × Int × Int)) → Option (((Int × Int × Int) × Int × Int × Int) × (List Int) × Bool)) (s : ((List Int) × Int × Int × ((Int × Int × Int) × Int × Int × Int))) : Option (((Int × Int × Int) × Int × Int × Int) × (List Int) × Bool) := l86_0_b d l2 l3 kx86_0_0 ag5 s.1 s.2.1 s.2.2.1 s.2.2.2
noncomputable def j86_2 (d : Nat) (x1 : ((Int × Int × Int) × Int × Int × Int)) (l2 : List (Int × Int)) (l3 : List Int) (b4 : Bool) : Option (((Int × Int × Int) × Int × Int × Int) × (List Int) × Bool) :=
 oif b4 (
 some (((0, 0, 0), 0, 0, 0), [], false)) (
 iterP (l86_0 d l2 l3 (j86_0 d)) fuelN ([], 0, 0, x1))
theorem e86 (d : Nat) (x1 : ((Int × Int × Int) × Int × Int × Int)) (l2 : List (Int × Int)) (l3 : List Int) : g86 (d + 1) x1 l2 l3 =
 obind (g256 d x1) fun r4 =>
 oif (!r4) (
 j86_2 d x1 l2 l3 true) (
 obind (g224 d l2) fun r5 =>
 oif (!r5) (
 j86_2 d x1 l2 l3 true) (
 obind (g257 d l3 0 2) fun r6 =>
 oif (!r6) (
 j86_2 d x1 l2 l3 true) (
 oif (decide ((((l3.length : Nat) : Int) : Int) > 0)) (
 j86_2 d x1 l2 l3 ((((l3.length : Nat) : Int) : Int) != ((l2.length : Nat) : Int))) (
 j86_2 d x1 l2 l3 false)))) := by kernel_rfl

theorem e87 (d : Nat) (l1 : List Int) : g87 (d + 1) l1 =
 obind (g203 d (l1, 0, 0) 9) fun r2 =>
 obind (g230 d r2.2 20) fun r3 =>
 oif r3.1 (
 obind (g203 d r3.2 2) fun r4 =>
 obind (g252 d r4.2 (IntKind.i64.wrap ((60 : Int) + r4.1))) fun r5 =>
 some r5.1) (
 obind (g252 d r3.2 r2.1) fun r6 =>
 some r6.1) := by kernel_rfl

noncomputable def j88_0 (d : Nat)  (l4 : List Int) : Option ((List Int) × Bool) :=
 some (l4, true)
noncomputable def l88_0_b (d : Nat) (l1 : List Int) (kx88_0_0 : (List Int) → Option ((List Int) × Bool)) (ag3 : (Int × (List Int)) → Option ((List Int) × Bool)) (n4 : Int) (l5 : List Int) : Option ((List Int) × Bool) :=
 oif (decide ((n4 : Int) < ((l1.length : Nat) : Int))) (
 oif (decide (0 ≤ (n4 : Int))) (
 obind (l1[(n4 : Int).toNat]?) fun n6 =>
 oif (decide (0 ≤ (n6 : Int))) (
 oif (Nat.blt ((n6 : Int).toNat) l5.length) (
 obind (l5[(n6 : Int).toNat]?) fun n7 =>
 oif (decide (0 ≤ (n6 : Int))) (
 oif (Nat.blt ((n6 : Int).toNat) l5.length) (
 obind (l5[(n6 : Int).toNat]?) fun n8 =>
 ag3 ((IntKind.i64.wrap (n4 + 1)), (l5.set ((n6 : Int).toNat) (IntKind.i64.wrap (n7 + 1))))) none) none) none) none) none) (
 kx88_0_0 l5)
noncomputable def l88_0 (d : Nat) (l1 : List Int) (kx88_0_0 : (List Int) → Option ((List Int) × Bool)) (ag3 : (Int × (List Int)) → Option ((List Int) × Bool)) (s : (Int × (List Int))) : Option ((List Int) × Bool) := l88_0_b d l1 kx88_0_0 ag3 s.1 s.2
theorem e88 (d : Nat) (l1 : List Int) : g88 (d + 1) l1 =
 obind (g253 d l1) fun r2 =>
 oif (!r2) (
 some ([], false)) (
 oif (Nat.ble 3 3 && Nat.ble (3 * 8) roomMax) (
 iterP (l88_0 d l1 (j88_0 d)) fuelN (0, (List.replicate 3 (0 : Int)))) none) := by kernel_rfl

noncomputable def j89_0 (d : Nat)  (l4 : List Int) : Option ((List Int) × Bool) :=
 some (l4, true)
noncomputable def l89_0_b (d : Nat) (l1 : List Int) (kx89_0_0 : (List Int) → Option ((List Int) × Bool)) (ag3 : (Int × (List Int)) → Option ((List Int) × Bool)) (n4 : Int) (l5 : List Int) : Option ((List Int) × Bool) :=
 oif (decide ((n4 : Int) < ((l1.length : Nat) : Int))) (
 oif (decide (0 ≤ (n4 : Int))) (
 obind (l1[(n4 : Int).toNat]?) fun n6 =>
 oif (decide (0 ≤ (n6 : Int))) (
 oif (Nat.blt ((n6 : Int).toNat) l5.length) (
 obind (l5[(n6 : Int).toNat]?) fun n7 =>
 oif (decide (0 ≤ (n6 : Int))) (
 oif (Nat.blt ((n6 : Int).toNat) l5.length) (
 obind (l5[(n6 : Int).toNat]?) fun n8 =>
 ag3 ((IntKind.i64.wrap (n4 + 1)), (l5.set ((n6 : Int).toNat) (IntKind.i64.wrap (n7 + 1))))) none) none) none) none) none) (
 kx89_0_0 l5)
noncomputable def l89_0 (d : Nat) (l1 : List Int) (kx89_0_0 : (List Int) → Option ((List Int) × Bool)) (ag3 : (Int × (List Int)) → Option ((List Int) × Bool)) (s : (Int × (List Int))) : Option ((List Int) × Bool) := l89_0_b d l1 kx89_0_0 ag3 s.1 s.2
noncomputable def j89_1 (d : Nat) (l1 : List Int) (b2 : Bool) : Option ((List Int) × Bool) :=
 oif b2 (
 some ([], false)) (
 oif (Nat.ble 3 3 && Nat.ble (3 * 8) roomMax) (
 iterP (l89_0 d l1 (j89_0 d)) fuelN (0, (List.replicate 3 (0 : Int)))) none)
theorem e89 (d : Nat) (l1 : List Int) : g89 (d + 1) l1 =
 oif (decide ((((l1.length : Nat) : Int) : Int) > 60)) (
 j89_1 d l1 true) (
 obind (g257 d l1 0 2) fun r2 =>
 j89_1 d l1 (!r2)) := by kernel_rfl

theorem e90 (d : Nat) (l1 : List Int) : g90 (d + 1) l1 =
 obind (g217 d (l1, 0, 0)) fun r2 =>
 obind (g252 d r2.2 ((r2.1.length : Nat) : Int)) fun r3 =>
 some (r2.1, r3.1) := by kernel_rfl

noncomputable def j91_0 (d : Nat)  (l5 : List Int) : Option ((List Int) × Bool) :=
 some (l5, true)
noncomputable def l91_0_b (d : Nat) (l1 : List (Int × Int)) (l2 : List Int) (kx91_0_0 : (List Int) → Option ((List Int) × Bool)) (ag4 : (Int × (List Int)) → Option ((List Int) × Bool)) (n5 : Int) (l6 : List Int) : Option ((List Int) × Bool) :=
 oif (decide ((n5 : Int) < ((l2.length : Nat) : Int))) (
 oif (decide (0 ≤ (n5 : Int))) (
 obind (l2[(n5 : Int).toNat]?) fun n7 =>
 oif (decide (0 ≤ (n7 : Int))) (
 oif (Nat.blt ((n7 : Int).toNat) l6.length) (
 obind (l6[(n7 : Int).toNat]?) fun n8 =>
 oif (decide (0 ≤ (n5 : Int))) (
 obind (l1[(n5 : Int).toNat]?) fun x9 =>
 oif (decide (0 ≤ (n7 : Int))) (
 oif (Nat.blt ((n7 : Int).toNat) l6.length) (
 obind (l6[(n7 : Int).toNat]?) fun n10 =>
 ag4 ((IntKind.i64.wrap (n5 + 1)), (l6.set ((n7 : Int).toNat) (IntKind.i64.wrap (n8 + x9.2))))) none) none) none) none) none) none) (
 kx91_0_0 l6)
noncomputable def l91_0 (d : Nat) (l1 : List (Int × Int)) (l2 : List Int) (kx91_0_0 : (List Int) → Option ((List Int) × Bool)) (ag4 : (Int × (List Int)) → Option ((List Int) × Bool)) (s : (Int × (List Int))) : Option ((List Int) × Bool) := l91_0_b d l1 l2 kx91_0_0 ag4 s.1 s.2
noncomputable def j91_1 (d : Nat) (l1 : List (Int × Int)) (l2 : List Int) (b3 : Bool) : Option ((List Int) × Bool) :=
 oif b3 (
 some ([], false)) (
 oif (Nat.ble 3 3 && Nat.ble (3 * 8) roomMax) (
 iterP (l91_0 d l1 l2 (j91_0 d)) fuelN (0, (List.replicate 3 (0 : Int)))) none)
theorem e91 (d : Nat) (l1 : List (Int × Int)) (l2 : List Int) : g91 (d + 1) l1 l2 =
 obind (g219 d l1) fun r3 =>
 oif (!r3) (
 j91_1 d l1 l2 true) (
 obind (g253 d l2) fun r4 =>
 oif (!r4) (
 j91_1 d l1 l2 true) (
 j91_1 d l1 l2 ((((l2.length : Nat) : Int) : Int) != ((l1.length : Nat) : Int)))) := by kernel_rfl

noncomputable def j92_0 (d : Nat)  (l5 : List Int) : Option ((List Int) × Bool) :=
 some (l5, true)
noncomputable def l92_0_b (d : Nat) (l1 : List (Int × Int)) (l2 : List Int) (kx92_0_0 : (List Int) → Option ((List Int) × Bool)) (ag4 : (Int × (List Int)) → Option ((List Int) × Bool)) (n5 : Int) (l6 : List Int) : Option ((List Int) × Bool) :=
 oif (decide ((n5 : Int) < ((l1.length : Nat) : Int))) (
 oif (decide (0 ≤ (n5 : Int))) (
 obind (l1[(n5 : Int).toNat]?) fun x7 =>
 oif (decide (0 ≤ (n5 : Int))) (
 obind (l2[(n5 : Int).toNat]?) fun n8 =>
 oif (decide (0 ≤ (n8 : Int))) (
 oif (Nat.blt ((n8 : Int).toNat) l6.length) (
 obind (l6[(n8 : Int).toNat]?) fun n9 =>
 oif (decide (0 ≤ (n8 : Int))) (
 oif (Nat.blt ((n8 : Int).toNat) l6.length) (
 obind (l6[(n8 : Int).toNat]?) fun n10 =>
 ag4 ((IntKind.i64.wrap (n5 + 1)), (l6.set ((n8 : Int).toNat) (IntKind.i64.wrap (n9 + x7.2))))) none) none) none) none) none) none) (
 kx92_0_0 l6)
noncomputable def l92_0 (d : Nat) (l1 : List (Int × Int)) (l2 : List Int) (kx92_0_0 : (List Int) → Option ((List Int) × Bool)) (ag4 : (Int × (List Int)) → Option ((List Int) × Bool)) (s : (Int × (List Int))) : Option ((List Int) × Bool) := l92_0_b d l1 l2 kx92_0_0 ag4 s.1 s.2
noncomputable def j92_1 (d : Nat) (l1 : List (Int × Int)) (l2 : List Int) (b3 : Bool) : Option ((List Int) × Bool) :=
 oif b3 (
 some ([], false)) (
 oif (Nat.ble 3 3 && Nat.ble (3 * 8) roomMax) (
 iterP (l92_0 d l1 l2 (j92_0 d)) fuelN (0, (List.replicate 3 (0 : Int)))) none)
theorem e92 (d : Nat) (l1 : List (Int × Int)) (l2 : List Int) : g92 (d + 1) l1 l2 =
 obind (g224 d l1) fun r3 =>
 oif (!r3) (
 j92_1 d l1 l2 true) (
 oif ((((l2.length : Nat) : Int) : Int) != ((l1.length : Nat) : Int)) (
 j92_1 d l1 l2 true) (
 obind (g257 d l2 0 2) fun r4 =>
 j92_1 d l1 l2 (!r4))) := by kernel_rfl

theorem e93 (d : Nat) (l1 : List Int) : g93 (d + 1) l1 =
 obind (g251 d (l1, 0, 0)) fun r2 =>
 obind (g190 d r2.2 [0, 1, 2, 90, 100000, 100001, (-1)]) fun r3 =>
 some (r2.1, r3.1) := by kernel_rfl

theorem e94 (d : Nat) (x1 : ((Int × Int × Int) × Int × Int × Int)) (n2 : Int) : g94 (d + 1) x1 n2 =
 obind (g99 d x1) fun r3 =>
 oif (!r3) (
 some (0, false)) (
 obind (g205 d n2) fun r4 =>
 oif (!r4) (
 some (0, false)) (
 some ((IntKind.i64.wrap ((IntKind.i64.wrap (x1.1.1 * n2)) + x1.1.2.1)), true))) := by kernel_rfl

theorem e95 (d : Nat) (x1 : ((Int × Int × Int) × Int × Int × Int)) (n2 : Int) : g95 (d + 1) x1 n2 =
 obind (g256 d x1) fun r3 =>
 oif (!r3) (
 some (0, false)) (
 obind (g211 d n2 0 100000) fun r4 =>
 oif (!r4) (
 some (0, false)) (
 some ((IntKind.i64.wrap ((IntKind.i64.wrap (x1.1.1 * n2)) + x1.1.2.1)), true))) := by kernel_rfl

theorem e96 (d : Nat) (x1 : ((Int × Int × Int) × Int × Int × Int)) (n2 : Int) : g96 (d + 1) x1 n2 =
 obind (g99 d x1) fun r3 =>
 oif (!r3) (
 some (0, false)) (
 obind (g205 d n2) fun r4 =>
 oif (!r4) (
 some (0, false)) (
 some ((IntKind.i64.wrap ((IntKind.i64.wrap (x1.2.1 * n2)) + x1.2.2.1)), true))) := by kernel_rfl

theorem e97 (d : Nat) (x1 : ((Int × Int × Int) × Int × Int × Int)) (n2 : Int) : g97 (d + 1) x1 n2 =
 obind (g256 d x1) fun r3 =>
 oif (!r3) (
 some (0, false)) (
 obind (g211 d n2 0 100000) fun r4 =>
 oif (!r4) (
 some (0, false)) (
 some ((IntKind.i64.wrap ((IntKind.i64.wrap (x1.2.1 * n2)) + x1.2.2.1)), true))) := by kernel_rfl

noncomputable def j98_0 (d : Nat)  (n3 : Int) : Option Int :=
 some n3
noncomputable def l98_0_b (d : Nat) (l1 : List Int) (kx98_0_0 : Int → Option Int) (ag2 : (Int × Int) → Option Int) (n3 : Int) (n4 : Int) : Option Int :=
 oif (decide ((n4 : Int) < ((l1.length : Nat) : Int))) (
 oif (decide (0 ≤ (n4 : Int))) (
 obind (l1[(n4 : Int).toNat]?) fun n5 =>
 ag2 ((IntKind.i64.wrap (n3 + n5)), (IntKind.i64.wrap (n4 + 1)))) none) (
 kx98_0_0 n3)
noncomputable def l98_0 (d : Nat) (l1 : List Int) (kx98_0_0 : Int → Option Int) (ag2 : (Int × Int) → Option Int) (s : (Int × Int)) : Option Int := l98_0_b d l1 kx98_0_0 ag2 s.1 s.2
theorem e98 (d : Nat) (l1 : List Int) : g98 (d + 1) l1 =
 iterP (l98_0 d l1 (j98_0 d)) fuelN (0, 0) := by kernel_rfl

noncomputable def j7_0 (d : Nat) (r20 : ((List Int) × Bool)) (r21 : (Int × Bool)) (r22 : (Int × Bool)) (b23 : Bool) : Option Bool :=
 oif b23 (
 some false) (
 oif (Nat.blt 2 r20.1.length) (
 obind (r20.1[2]?) fun n24 =>
 oif (decide ((n24 : Int) ≤ r21.1)) (
 oif (Nat.blt 2 r20.1.length) (
 obind (r20.1[2]?) fun n25 =>
 oif (Nat.blt 1 r20.1.length) (
 obind (r20.1[1]?) fun n26 =>
 some (decide (((IntKind.i64.wrap (n25 + n26)) : Int) ≤ r22.1))) none) none) (
 some false)) none)
noncomputable def j7_1 (d : Nat) (r3 : (((Int × Int × Int) × Int × Int × Int) × (List (Int × Int)) × (List Int))) (r4 : (((Int × Int × Int) × Int × Int × Int) × (List Int) × Bool)) (r5 : (((Int × Int × Int) × Int × Int × Int) × (List Int) × Bool)) (n18 : Int) : Option Bool :=
 obind (g91 d r3.2.1 r4.2.1) fun r19 =>
 obind (g92 d r3.2.1 r5.2.1) fun r20 =>
 obind (g94 d r3.1 n18) fun r21 =>
 obind (g96 d r3.1 n18) fun r22 =>
 oif (!r19.2) (
 j7_0 d r20 r21 r22 true) (
 oif (!r20.2) (
 j7_0 d r20 r21 r22 true) (
 obind (g46 d r19.1 r20.1) fun r23 =>
 oif (!r23) (
 j7_0 d r20 r21 r22 true) (
 oif ((((r20.1.length : Nat) : Int) : Int) != 3) (
 j7_0 d r20 r21 r22 true) (
 oif (!r21.2) (
 j7_0 d r20 r21 r22 true) (
 oif (!r22.2) (
 j7_0 d r20 r21 r22 true) (
 obind (g99 d r4.1) fun r24 =>
 j7_0 d r20 r21 r22 (!r24)))))))
noncomputable def j7_2 (d : Nat) (r3 : (((Int × Int × Int) × Int × Int × Int) × (List (Int × Int)) × (List Int))) (r4 : (((Int × Int × Int) × Int × Int × Int) × (List Int) × Bool)) (r5 : (((Int × Int × Int) × Int × Int × Int) × (List Int) × Bool)) (b17 : Bool) : Option Bool :=
 oif b17 (
 some false) (
 oif (!r4.2.2) (
 some true) (
 oif (decide ((((r3.2.1.length : Nat) : Int) : Int) > 0)) (
 oif (decide (0 ≤ ((IntKind.i64.wrap (((r3.2.1.length : Nat) : Int) - 1)) : Int))) (
 oif (Nat.blt (((IntKind.i64.wrap (((r3.2.1.length : Nat) : Int) - 1)) : Int).toNat) r3.2.1.length) (
 obind (r3.2.1[((IntKind.i64.wrap (((r3.2.1.length : Nat) : Int) - 1)) : Int).toNat]?) fun x18 =>
 j7_1 d r3 r4 r5 x18.1) none) none) (
 j7_1 d r3 r4 r5 0)))
theorem e7 (d : Nat) (l1 : List Int) (l2 : List Int) : g7 (d + 1) l1 l2 =
 oif (decide (((IntKind.i64.wrap (((l1.length : Nat) : Int) + ((l2.length : Nat) : Int))) : Int) > 1048576)) (
 some true) (
 obind (g84 d l1) fun r3 =>
 obind (g85 d r3.1 r3.2.1 r3.2.2) fun r4 =>
 obind (g86 d r3.1 r3.2.1 r3.2.2) fun r5 =>
 obind (g87 d l2) fun r6 =>
 obind (g88 d r6) fun r7 =>
 obind (g89 d r6) fun r8 =>
 obind (g90 d l2) fun r9 =>
 obind (g91 d r9.1 r9.2) fun r10 =>
 obind (g92 d r9.1 r9.2) fun r11 =>
 obind (g93 d l2) fun r12 =>
 obind (g94 d r12.1 r12.2) fun r13 =>
 obind (g95 d r12.1 r12.2) fun r14 =>
 obind (g96 d r12.1 r12.2) fun r15 =>
 obind (g97 d r12.1 r12.2) fun r16 =>
 oif (!(r4.2.2 == r5.2.2)) (
 j7_2 d r3 r4 r5 true) (
 oif (!((((r4.1.1.1 : Int) == r5.1.1.1) && (((r4.1.1.2.1 : Int) == r5.1.1.2.1) && (((r4.1.1.2.2 : Int) == r5.1.1.2.2) && true))) && ((((r4.1.2.1 : Int) == r5.1.2.1) && (((r4.1.2.2.1 : Int) == r5.1.2.2.1) && (((r4.1.2.2.2 : Int) == r5.1.2.2.2) && true))) && true))) (
 j7_2 d r3 r4 r5 true) (
 obind (g46 d r4.2.1 r5.2.1) fun r17 =>
 oif (!r17) (
 j7_2 d r3 r4 r5 true) (
 oif (!(r7.2 == r8.2)) (
 j7_2 d r3 r4 r5 true) (
 obind (g46 d r7.1 r8.1) fun r18 =>
 oif (!r18) (
 j7_2 d r3 r4 r5 true) (
 oif r7.2 (
 obind (g98 d r8.1) fun r19 =>
 oif ((r19 : Int) != ((r6.length : Nat) : Int)) (
 j7_2 d r3 r4 r5 true) (
 oif (!(r10.2 == r11.2)) (
 j7_2 d r3 r4 r5 true) (
 obind (g46 d r10.1 r11.1) fun r20 =>
 oif (!r20) (
 j7_2 d r3 r4 r5 true) (
 oif (!(r13.2 == r14.2)) (
 j7_2 d r3 r4 r5 true) (
 oif ((r13.1 : Int) != r14.1) (
 j7_2 d r3 r4 r5 true) (
 oif (!(r15.2 == r16.2)) (
 j7_2 d r3 r4 r5 true) (
 j7_2 d r3 r4 r5 ((r15.1 : Int) != r16.1)))))))) (
 oif (!(r10.2 == r11.2)) (
 j7_2 d r3 r4 r5 true) (
 obind (g46 d r10.1 r11.1) fun r21 =>
 oif (!r21) (
 j7_2 d r3 r4 r5 true) (
 oif (!(r13.2 == r14.2)) (
 j7_2 d r3 r4 r5 true) (
 oif ((r13.1 : Int) != r14.1) (
 j7_2 d r3 r4 r5 true) (
 oif (!(r15.2 == r16.2)) (
 j7_2 d r3 r4 r5 true) (
 j7_2 d r3 r4 r5 ((r15.1 : Int) != r16.1))))))))))))) := by kernel_rfl

end Go.Proofs.Ytcoojpojnmnboaa
