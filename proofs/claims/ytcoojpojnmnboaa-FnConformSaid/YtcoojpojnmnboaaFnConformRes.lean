/-
  The residual forms of the program's functions under the interpreter by value, printed by program (wip/pv/gen2.py); each equation is checked by the kernel.
  Conditions: none.
-/
import Derived.Test.YtcoojpojnmnboaaVDef
import Derived.Test.YtcoojpojnmnboaaProg
import Derived.KernelRfl
set_option linter.all false
set_option maxRecDepth 1000000
namespace Go.Proofs.Ytcoojpojnmnboaa
open Go.Ev Go.Pv

theorem fuel_is : ∃ n : Nat, n = 4194304 := ⟨_, rfl⟩
noncomputable def fuelN : Nat := Classical.choose fuel_is
theorem fuelN_eq : fuelN = 4194304 := Classical.choose_spec fuel_is
def pvSig : FuncId → Sig
  | 10 => ⟨[(.ro, (.sl (.int .u8))), (.ro, (.sl (.int .u8)))], [(false, .bool)]⟩
  | 14 => ⟨[(.ro, (.sl (.int .u8))), (.ro, (.sl (.int .u8)))], [(false, .bool)]⟩
  | 18 => ⟨[(.ro, (.sl (.int .i64))), (.ro, (.sl (.int .i64)))], [(false, .bool)]⟩
  | 129 => ⟨[(.ro, (.sl (.int .u8)))], [(false, (.int .i64)), (true, (.sl (.pair (.int .i64) (.int .i64))))]⟩
  | 130 => ⟨[(.ro, (.int .i64)), (.ro, (.sl (.pair (.int .i64) (.int .i64))))], [(false, (.int .i64)), (false, .bool)]⟩
  | 131 => ⟨[(.ro, (.int .i64)), (.ro, (.sl (.pair (.int .i64) (.int .i64))))], [(false, (.int .i64)), (false, .bool)]⟩
  | 132 => ⟨[(.ro, (.pair (.int .i64) (.int .i64))), (.ro, (.sl (.pair (.int .i64) (.int .i64))))], [(false, .bool), (false, .bool)]⟩
  | 133 => ⟨[(.ro, (.pair (.int .i64) (.int .i64))), (.ro, (.sl (.pair (.int .i64) (.int .i64))))], [(true, (.sl (.int .i64))), (false, .bool)]⟩
  | 134 => ⟨[(.ro, (.pair (.int .i64) (.int .i64))), (.ro, (.sl (.pair (.int .i64) (.int .i64))))], [(true, (.sl (.int .i64))), (false, .bool)]⟩
  | 135 => ⟨[(.ro, (.pair (.int .i64) (.int .i64))), (.ro, (.pair (.int .i64) (.int .i64)))], [(false, (.int .i64)), (false, .bool)]⟩
  | 136 => ⟨[(.ro, (.sl (.int .u8)))], [(false, (.pair (.int .i64) (.int .i64))), (true, (.sl (.pair (.int .i64) (.int .i64))))]⟩
  | 137 => ⟨[(.ro, (.pair (.int .i64) (.int .i64))), (.ro, (.sl (.pair (.int .i64) (.int .i64))))], [(false, (.int .i64)), (false, (.int .i64)), (false, .bool)]⟩
  | 138 => ⟨[(.ro, (.pair (.int .i64) (.int .i64))), (.ro, (.sl (.pair (.int .i64) (.int .i64))))], [(false, (.int .i64)), (false, (.int .i64)), (false, .bool)]⟩
  | 139 => ⟨[(.ro, (.sl (.int .u8)))], [(true, (.sl (.pair (.int .i64) (.int .i64))))]⟩
  | 140 => ⟨[(.ro, (.sl (.pair (.int .i64) (.int .i64))))], [(false, (.pair (.int .i64) (.int .i64))), (false, .bool)]⟩
  | 141 => ⟨[(.ro, (.sl (.pair (.int .i64) (.int .i64))))], [(false, (.pair (.int .i64) (.int .i64))), (false, .bool)]⟩
  | 142 => ⟨[(.ro, (.sl (.int .u8)))], [(false, (.pair (.int .i64) (.int .i64))), (true, (.sl (.pair (.int .i64) (.int .i64))))]⟩
  | 143 => ⟨[(.ro, (.pair (.int .i64) (.int .i64))), (.ro, (.sl (.pair (.int .i64) (.int .i64))))], [(false, .bool), (false, .bool)]⟩
  | 144 => ⟨[(.ro, (.sl (.int .u8)))], [(false, (.pair (.int .i64) (.int .i64))), (true, (.sl (.pair (.int .i64) (.int .i64))))]⟩
  | 190 => ⟨[(.ps, (.pair (.sl (.int .u8)) (.pair (.int .i64) (.int .u64)))), (.ro, (.sl (.int .i64)))], [(false, (.int .i64))]⟩
  | 203 => ⟨[(.ps, (.pair (.sl (.int .u8)) (.pair (.int .i64) (.int .u64)))), (.ro, (.int .i64))], [(false, (.int .i64))]⟩
  | 204 => ⟨[(.ro, (.int .i64)), (.ro, (.int .i64))], [(false, (.int .i64))]⟩
  | 211 => ⟨[(.ro, (.int .i64)), (.ro, (.int .i64)), (.ro, (.int .i64))], [(false, .bool)]⟩
  | 230 => ⟨[(.ps, (.pair (.sl (.int .u8)) (.pair (.int .i64) (.int .u64)))), (.ro, (.int .i64))], [(false, .bool)]⟩
  | 249 => ⟨[(.ro, (.int .i64))], [(false, .bool)]⟩
  | 274 => ⟨[(.ro, (.int .i64)), (.ro, (.int .i64))], [(false, (.int .i64))]⟩
  | 298 => ⟨[(.ps, (.pair (.sl (.int .u8)) (.pair (.int .i64) (.int .u64))))], [(true, (.sl (.pair (.int .i64) (.int .i64))))]⟩
  | 299 => ⟨[(.ro, (.sl (.pair (.int .i64) (.int .i64))))], [(false, .bool)]⟩
  | 300 => ⟨[(.ro, (.int .i64)), (.ro, (.sl (.pair (.int .i64) (.int .i64))))], [(false, (.int .i64))]⟩
  | 301 => ⟨[(.ro, (.sl (.pair (.int .i64) (.int .i64))))], [(false, .bool)]⟩
  | 302 => ⟨[(.ro, (.int .i64)), (.ro, (.sl (.pair (.int .i64) (.int .i64))))], [(false, (.int .i64))]⟩
  | 303 => ⟨[(.ro, (.pair (.int .i64) (.int .i64)))], [(false, .bool)]⟩
  | 304 => ⟨[(.ro, (.pair (.int .i64) (.int .i64)))], [(false, .bool)]⟩
  | 305 => ⟨[(.ro, (.int .i64)), (.ro, (.int .i64))], [(false, (.int .i64))]⟩
  | 306 => ⟨[(.ro, (.pair (.int .i64) (.int .i64)))], [(false, .bool)]⟩
  | 307 => ⟨[(.ro, (.int .i64)), (.ro, (.int .i64))], [(false, (.int .i64))]⟩
  | 308 => ⟨[(.ro, (.pair (.int .i64) (.int .i64))), (.ro, (.pair (.int .i64) (.int .i64)))], [(false, .bool)]⟩
  | 309 => ⟨[(.ps, (.pair (.sl (.int .u8)) (.pair (.int .i64) (.int .u64))))], [(false, (.pair (.int .i64) (.int .i64)))]⟩
  | 310 => ⟨[(.ps, (.pair (.sl (.int .u8)) (.pair (.int .i64) (.int .u64))))], [(true, (.sl (.pair (.int .i64) (.int .i64))))]⟩
  | 311 => ⟨[(.ro, (.pair (.int .i64) (.int .i64))), (.ro, (.pair (.int .i64) (.int .i64)))], [(false, (.pair (.int .i64) (.int .i64))), (false, .bool)]⟩
  | 312 => ⟨[(.ro, (.sl (.pair (.int .i64) (.int .i64))))], [(false, .bool)]⟩
  | 313 => ⟨[(.ro, (.sl (.pair (.int .i64) (.int .i64))))], [(false, (.pair (.int .i64) (.int .i64)))]⟩
  | 314 => ⟨[(.ro, (.pair (.int .i64) (.int .i64))), (.ro, (.pair (.int .i64) (.int .i64)))], [(false, .bool)]⟩
  | 315 => ⟨[(.ro, (.pair (.int .i64) (.int .i64))), (.ro, (.pair (.int .i64) (.int .i64)))], [(false, (.int .i64))]⟩
  | 316 => ⟨[(.ro, (.pair (.int .i64) (.int .i64))), (.ro, (.pair (.int .i64) (.int .i64)))], [(false, (.int .i64))]⟩
  | 317 => ⟨[(.ro, (.pair (.int .i64) (.int .i64)))], [(false, .bool)]⟩
  | 318 => ⟨[(.ps, (.pair (.sl (.int .u8)) (.pair (.int .i64) (.int .u64))))], [(false, (.pair (.int .i64) (.int .i64)))]⟩
  | 352 => ⟨[(.ps, (.pair (.sl (.int .u8)) (.pair (.int .i64) (.int .u64))))], [(false, (.int .i64))]⟩
  | 360 => ⟨[(.ro, (.pair (.int .i64) (.int .i64))), (.ro, (.pair (.int .i64) (.int .i64)))], [(false, (.int .i64)), (false, .bool)]⟩
  | _ => ⟨[], []⟩
def pvLoops : FuncId → Nat → LoopA
  | 10, 0 => ⟨[(4, false, .bool), (166, false, (.int .i64))], [], [], []⟩
  | 18, 0 => ⟨[(4, false, .bool), (13, false, (.int .i64))], [], [], []⟩
  | 133, 0 => ⟨[(6, true, (.sl (.int .i64))), (7, false, (.int .i64)), (8, false, (.int .i64)), (22, false, (.int .i64))], [], [], []⟩
  | 134, 0 => ⟨[(6, true, (.sl (.int .i64))), (7, false, (.int .i64)), (8, false, (.int .i64)), (9, false, (.int .i64)), (22, false, (.int .i64))], [], [], []⟩
  | 137, 0 => ⟨[(4, false, (.int .i64)), (5, false, (.int .i64)), (6, false, .bool), (8, false, .bool), (10, false, (.int .i64)), (34, false, (.int .i64))], [(11, (.pair (.int .i64) (.int .i64)))], [], []⟩
  | 138, 0 => ⟨[(4, false, (.int .i64)), (5, false, (.int .i64)), (6, false, .bool), (7, false, (.int .i64)), (30, false, (.int .i64))], [(8, (.pair (.int .i64) (.int .i64)))], [], []⟩
  | 140, 0 => ⟨[(3, false, .bool), (19, false, (.int .i64))], [(4, (.pair (.int .i64) (.int .i64)))], [], []⟩
  | 298, 0 => ⟨[(3, true, (.sl (.pair (.int .i64) (.int .i64)))), (4, false, (.int .i64)), (5, false, (.int .i64))], [(0, (.pair (.sl (.int .u8)) (.pair (.int .i64) (.int .u64))))], [], []⟩
  | 299, 0 => ⟨[(2, false, .bool), (7, false, (.int .i64))], [], [], []⟩
  | 300, 0 => ⟨[(5, false, (.int .i64)), (12, false, (.int .i64))], [], [], []⟩
  | 300, 1 => ⟨[(5, false, (.int .i64)), (7, false, (.int .i64)), (19, false, (.int .i64))], [], [], []⟩
  | 301, 0 => ⟨[(2, false, .bool), (3, false, (.int .i64)), (8, false, (.int .i64))], [], [], []⟩
  | 302, 0 => ⟨[(5, false, (.int .i64)), (13, false, (.int .i64))], [], [], []⟩
  | 302, 1 => ⟨[(5, false, (.int .i64)), (8, false, (.int .i64)), (22, false, (.int .i64))], [], [], []⟩
  | 310, 0 => ⟨[(3, true, (.sl (.pair (.int .i64) (.int .i64)))), (4, false, (.int .i64))], [(0, (.pair (.sl (.int .u8)) (.pair (.int .i64) (.int .u64))))], [], []⟩
  | 312, 0 => ⟨[(2, false, .bool), (7, false, (.int .i64))], [], [], []⟩
  | 313, 0 => ⟨[(12, false, (.int .i64))], [(3, (.pair (.int .i64) (.int .i64)))], [], []⟩
  | _, _ => ⟨[], [], [], []⟩
def pvEloops : FuncId → Nat → List (Nat × Value)
  | 10, 0 => [(1, (.slice none 0 0)), (4, (.bool false)), (6, (.slice none 0 0)), (20, (.int .i64 0)), (164, (.slice none 0 0)), (165, (.int .i64 0)), (166, (.int .i64 0))]
  | 18, 0 => [(0, (.slice none 0 0)), (1, (.slice none 0 0)), (4, (.bool false)), (12, (.int .i64 0)), (13, (.int .i64 0))]
  | 133, 0 => [(2, (.pointer (some ⟨0, 0, none⟩))), (4, (.slice none 0 0)), (5, (.bool false)), (6, (.slice none 0 0)), (7, (.int .i64 0)), (8, (.int .i64 0)), (20, (.slice none 0 0)), (21, (.int .i64 0)), (22, (.int .i64 0))]
  | 134, 0 => [(2, (.pointer (some ⟨0, 0, none⟩))), (4, (.slice none 0 0)), (5, (.bool false)), (6, (.slice none 0 0)), (7, (.int .i64 0)), (8, (.int .i64 0)), (9, (.int .i64 0)), (20, (.slice none 0 0)), (21, (.int .i64 0)), (22, (.int .i64 0))]
  | 137, 0 => [(1, (.slice none 0 0)), (4, (.int .i64 0)), (5, (.int .i64 0)), (6, (.bool false)), (8, (.bool false)), (9, (.int .i64 0)), (10, (.int .i64 0)), (11, (.pointer (some ⟨0, 0, none⟩))), (32, (.slice none 0 0)), (33, (.int .i64 0)), (34, (.int .i64 0))]
  | 138, 0 => [(1, (.slice none 0 0)), (2, (.pointer (some ⟨0, 0, none⟩))), (4, (.int .i64 0)), (5, (.int .i64 0)), (6, (.bool false)), (7, (.int .i64 0)), (8, (.pointer (some ⟨0, 0, none⟩))), (28, (.slice none 0 0)), (29, (.int .i64 0)), (30, (.int .i64 0))]
  | 140, 0 => [(2, (.pointer (some ⟨0, 0, none⟩))), (3, (.bool false)), (4, (.pointer (some ⟨0, 0, none⟩))), (17, (.slice none 0 0)), (18, (.int .i64 0)), (19, (.int .i64 0))]
  | 298, 0 => [(0, (.pointer (some ⟨0, 0, none⟩))), (2, (.slice none 0 0)), (3, (.slice none 0 0)), (4, (.int .i64 0)), (5, (.int .i64 0))]
  | 299, 0 => [(0, (.slice none 0 0)), (2, (.bool false)), (5, (.slice none 0 0)), (6, (.int .i64 0)), (7, (.int .i64 0))]
  | 300, 0 => [(0, (.int .i64 0)), (1, (.slice none 0 0)), (4, (.int .i64 0)), (5, (.int .i64 0)), (11, (.int .i64 0)), (12, (.int .i64 0))]
  | 300, 1 => [(0, (.int .i64 0)), (1, (.slice none 0 0)), (4, (.int .i64 0)), (5, (.int .i64 0)), (6, (.int .i64 0)), (7, (.int .i64 0)), (11, (.int .i64 0)), (12, (.int .i64 0)), (13, (.bool false)), (14, (.int .i64 0)), (15, (.slice none 0 0)), (16, (.int .i64 0)), (17, (.slice none 0 0)), (18, (.int .i64 0)), (19, (.int .i64 0))]
  | 301, 0 => [(0, (.slice none 0 0)), (2, (.bool false)), (3, (.int .i64 0)), (6, (.slice none 0 0)), (7, (.int .i64 0)), (8, (.int .i64 0))]
  | 302, 0 => [(0, (.int .i64 0)), (1, (.slice none 0 0)), (4, (.int .i64 0)), (5, (.int .i64 0)), (11, (.slice none 0 0)), (12, (.int .i64 0)), (13, (.int .i64 0))]
  | 302, 1 => [(0, (.int .i64 0)), (1, (.slice none 0 0)), (4, (.int .i64 0)), (5, (.int .i64 0)), (6, (.int .i64 0)), (7, (.pointer (some ⟨0, 0, none⟩))), (8, (.int .i64 0)), (11, (.slice none 0 0)), (12, (.int .i64 0)), (13, (.int .i64 0)), (14, (.bool false)), (15, (.int .i64 0)), (16, (.pointer (some ⟨0, 0, none⟩))), (17, (.agg #[(.int .i64 0), (.int .i64 0)])), (18, (.slice none 0 0)), (19, (.int .i64 0)), (20, (.slice none 0 0)), (21, (.int .i64 0)), (22, (.int .i64 0))]
  | 310, 0 => [(0, (.pointer (some ⟨0, 0, none⟩))), (2, (.slice none 0 0)), (3, (.slice none 0 0)), (4, (.int .i64 0))]
  | 312, 0 => [(0, (.slice none 0 0)), (2, (.bool false)), (5, (.slice none 0 0)), (6, (.int .i64 0)), (7, (.int .i64 0))]
  | 313, 0 => [(2, (.pointer (some ⟨0, 0, none⟩))), (3, (.pointer (some ⟨0, 0, none⟩))), (10, (.slice none 0 0)), (11, (.int .i64 0)), (12, (.int .i64 0))]
  | _, _ => []
def pvInline : FuncId → Bool
  | 220 => true
  | 221 => true
  | 265 => true
  | 353 => true
  | _ => false
noncomputable def pvAnn : AnnV := ⟨fuelN, pvSig, pvLoops, pvEloops, pvInline⟩

/-- loop.example/g00838/laws.big -/
noncomputable def g14 (d : Nat) (l1 : List Int) (l2 : List Int) : Option Bool := (lev Try.prog pvAnn d).call 14 (l1, l2)
/-- loop.example/g00838/laws.sameInts -/
noncomputable def g18 (d : Nat) (l1 : List Int) (l2 : List Int) : Option Bool := (lev Try.prog pvAnn d).call 18 (l1, l2)
/-- (*loop.example/g00838/spec.l1Cur).next -/
noncomputable def g352 (d : Nat) (x1 : ((List Int) × Int × Int)) : Option (Int × ((List Int) × Int × Int)) := (lev Try.prog pvAnn d).call 352 (x1)
/-- (*loop.example/g00838/spec.l1Cur).pick -/
noncomputable def g203 (d : Nat) (x1 : ((List Int) × Int × Int)) (n2 : Int) : Option (Int × ((List Int) × Int × Int)) := (lev Try.prog pvAnn d).call 203 (x1, n2)
/-- (*loop.example/g00838/spec.l1Cur).among -/
noncomputable def g190 (d : Nat) (x1 : ((List Int) × Int × Int)) (l2 : List Int) : Option (Int × ((List Int) × Int × Int)) := (lev Try.prog pvAnn d).call 190 (x1, l2)
/-- (*loop.example/g00838/spec.l1Cur).one -/
noncomputable def g230 (d : Nat) (x1 : ((List Int) × Int × Int)) (n2 : Int) : Option (Bool × ((List Int) × Int × Int)) := (lev Try.prog pvAnn d).call 230 (x1, n2)
/-- (*loop.example/g00838/spec.l1Cur).trace -/
noncomputable def g298 (d : Nat) (x1 : ((List Int) × Int × Int)) : Option ((List (Int × Int)) × ((List Int) × Int × Int)) := (lev Try.prog pvAnn d).call 298 (x1)
/-- loop.example/g00838/spec.DrawLeastBurst -/
noncomputable def g129 (d : Nat) (l1 : List Int) : Option (Int × (List (Int × Int))) := (lev Try.prog pvAnn d).call 129 (l1)
/-- loop.example/g00838/impl.isSize -/
noncomputable def g249 (d : Nat) (n1 : Int) : Option Bool := (lev Try.prog pvAnn d).call 249 (n1)
/-- loop.example/g00838/impl.isTrace -/
noncomputable def g299 (d : Nat) (l1 : List (Int × Int)) : Option Bool := (lev Try.prog pvAnn d).call 299 (l1)
/-- loop.example/g00838/impl.burstOf -/
noncomputable def g300 (d : Nat) (n1 : Int) (l2 : List (Int × Int)) : Option Int := (lev Try.prog pvAnn d).call 300 (n1, l2)
/-- loop.example/g00838/impl.LeastBurst -/
noncomputable def g130 (d : Nat) (n1 : Int) (l2 : List (Int × Int)) : Option (Int × Bool) := (lev Try.prog pvAnn d).call 130 (n1, l2)
/-- loop.example/g00838/spec.l1In -/
noncomputable def g211 (d : Nat) (n1 : Int) (n2 : Int) (n3 : Int) : Option Bool := (lev Try.prog pvAnn d).call 211 (n1, n2, n3)
/-- loop.example/g00838/spec.bnTrace -/
noncomputable def g301 (d : Nat) (l1 : List (Int × Int)) : Option Bool := (lev Try.prog pvAnn d).call 301 (l1)
/-- loop.example/g00838/spec.l1Most -/
noncomputable def g204 (d : Nat) (n1 : Int) (n2 : Int) : Option Int := (lev Try.prog pvAnn d).call 204 (n1, n2)
/-- loop.example/g00838/spec.bnLeast -/
noncomputable def g302 (d : Nat) (n1 : Int) (l2 : List (Int × Int)) : Option Int := (lev Try.prog pvAnn d).call 302 (n1, l2)
/-- loop.example/g00838/spec.LeastBurst -/
noncomputable def g131 (d : Nat) (n1 : Int) (l2 : List (Int × Int)) : Option (Int × Bool) := (lev Try.prog pvAnn d).call 131 (n1, l2)
/-- loop.example/g00838/impl.IsInflow -/
noncomputable def g303 (d : Nat) (x1 : (Int × Int)) : Option Bool := (lev Try.prog pvAnn d).call 303 (x1)
/-- loop.example/g00838/impl.ConformsTo -/
noncomputable def g132 (d : Nat) (x1 : (Int × Int)) (l2 : List (Int × Int)) : Option (Bool × Bool) := (lev Try.prog pvAnn d).call 132 (x1, l2)
/-- loop.example/g00838/impl.IsService -/
noncomputable def g304 (d : Nat) (x1 : (Int × Int)) : Option Bool := (lev Try.prog pvAnn d).call 304 (x1)
/-- loop.example/g00838/impl.divideUp -/
noncomputable def g305 (d : Nat) (n1 : Int) (n2 : Int) : Option Int := (lev Try.prog pvAnn d).call 305 (n1, n2)
/-- loop.example/g00838/impl.SlowestSends -/
noncomputable def g133 (d : Nat) (x1 : (Int × Int)) (l2 : List (Int × Int)) : Option ((List Int) × Bool) := (lev Try.prog pvAnn d).call 133 (x1, l2)
/-- loop.example/g00838/spec.bnService -/
noncomputable def g306 (d : Nat) (x1 : (Int × Int)) : Option Bool := (lev Try.prog pvAnn d).call 306 (x1)
/-- loop.example/g00838/spec.bnUp -/
noncomputable def g307 (d : Nat) (n1 : Int) (n2 : Int) : Option Int := (lev Try.prog pvAnn d).call 307 (n1, n2)
/-- loop.example/g00838/spec.SlowestSends -/
noncomputable def g134 (d : Nat) (x1 : (Int × Int)) (l2 : List (Int × Int)) : Option ((List Int) × Bool) := (lev Try.prog pvAnn d).call 134 (x1, l2)
/-- loop.example/g00838/impl.bearable -/
noncomputable def g308 (d : Nat) (x1 : (Int × Int)) (x2 : (Int × Int)) : Option Bool := (lev Try.prog pvAnn d).call 308 (x1, x2)
/-- loop.example/g00838/impl.DelayBound -/
noncomputable def g135 (d : Nat) (x1 : (Int × Int)) (x2 : (Int × Int)) : Option (Int × Bool) := (lev Try.prog pvAnn d).call 135 (x1, x2)
/-- (*loop.example/g00838/spec.l1Cur).inflow -/
noncomputable def g309 (d : Nat) (x1 : ((List Int) × Int × Int)) : Option ((Int × Int) × ((List Int) × Int × Int)) := (lev Try.prog pvAnn d).call 309 (x1)
/-- (*loop.example/g00838/spec.l1Cur).service -/
noncomputable def g318 (d : Nat) (x1 : ((List Int) × Int × Int)) : Option ((Int × Int) × ((List Int) × Int × Int)) := (lev Try.prog pvAnn d).call 318 (x1)
/-- (*loop.example/g00838/spec.l1Cur).services -/
noncomputable def g310 (d : Nat) (x1 : ((List Int) × Int × Int)) : Option ((List (Int × Int)) × ((List Int) × Int × Int)) := (lev Try.prog pvAnn d).call 310 (x1)
/-- loop.example/g00838/spec.DrawChainDelays -/
noncomputable def g136 (d : Nat) (l1 : List Int) : Option ((Int × Int) × (List (Int × Int))) := (lev Try.prog pvAnn d).call 136 (l1)
/-- loop.example/g00838/impl.ChainServices -/
noncomputable def g140 (d : Nat) (l1 : List (Int × Int)) : Option ((Int × Int) × Bool) := (lev Try.prog pvAnn d).call 140 (l1)
/-- loop.example/g00838/impl.BacklogBound -/
noncomputable def g360 (d : Nat) (x1 : (Int × Int)) (x2 : (Int × Int)) : Option (Int × Bool) := (lev Try.prog pvAnn d).call 360 (x1, x2)
/-- loop.example/g00838/impl.OutputInflow -/
noncomputable def g311 (d : Nat) (x1 : (Int × Int)) (x2 : (Int × Int)) : Option ((Int × Int) × Bool) := (lev Try.prog pvAnn d).call 311 (x1, x2)
/-- loop.example/g00838/impl.ChainDelays -/
noncomputable def g137 (d : Nat) (x1 : (Int × Int)) (l2 : List (Int × Int)) : Option (Int × Int × Bool) := (lev Try.prog pvAnn d).call 137 (x1, l2)
/-- loop.example/g00838/spec.bnServices -/
noncomputable def g312 (d : Nat) (l1 : List (Int × Int)) : Option Bool := (lev Try.prog pvAnn d).call 312 (l1)
/-- loop.example/g00838/spec.l1Least -/
noncomputable def g274 (d : Nat) (n1 : Int) (n2 : Int) : Option Int := (lev Try.prog pvAnn d).call 274 (n1, n2)
/-- loop.example/g00838/spec.bnChain -/
noncomputable def g313 (d : Nat) (l1 : List (Int × Int)) : Option (Int × Int) := (lev Try.prog pvAnn d).call 313 (l1)
/-- loop.example/g00838/spec.bnInflow -/
noncomputable def g317 (d : Nat) (x1 : (Int × Int)) : Option Bool := (lev Try.prog pvAnn d).call 317 (x1)
/-- loop.example/g00838/spec.bnBoth -/
noncomputable def g314 (d : Nat) (x1 : (Int × Int)) (x2 : (Int × Int)) : Option Bool := (lev Try.prog pvAnn d).call 314 (x1, x2)
/-- loop.example/g00838/spec.bnDelay -/
noncomputable def g315 (d : Nat) (x1 : (Int × Int)) (x2 : (Int × Int)) : Option Int := (lev Try.prog pvAnn d).call 315 (x1, x2)
/-- loop.example/g00838/spec.bnBacklog -/
noncomputable def g316 (d : Nat) (x1 : (Int × Int)) (x2 : (Int × Int)) : Option Int := (lev Try.prog pvAnn d).call 316 (x1, x2)
/-- loop.example/g00838/spec.ChainDelays -/
noncomputable def g138 (d : Nat) (x1 : (Int × Int)) (l2 : List (Int × Int)) : Option (Int × Int × Bool) := (lev Try.prog pvAnn d).call 138 (x1, l2)
/-- loop.example/g00838/spec.DrawChainServices -/
noncomputable def g139 (d : Nat) (l1 : List Int) : Option (List (Int × Int)) := (lev Try.prog pvAnn d).call 139 (l1)
/-- loop.example/g00838/spec.ChainServices -/
noncomputable def g141 (d : Nat) (l1 : List (Int × Int)) : Option ((Int × Int) × Bool) := (lev Try.prog pvAnn d).call 141 (l1)
/-- loop.example/g00838/spec.DrawConformsTo -/
noncomputable def g142 (d : Nat) (l1 : List Int) : Option ((Int × Int) × (List (Int × Int))) := (lev Try.prog pvAnn d).call 142 (l1)
/-- loop.example/g00838/spec.ConformsTo -/
noncomputable def g143 (d : Nat) (x1 : (Int × Int)) (l2 : List (Int × Int)) : Option (Bool × Bool) := (lev Try.prog pvAnn d).call 143 (x1, l2)
/-- loop.example/g00838/spec.DrawSlowestSends -/
noncomputable def g144 (d : Nat) (l1 : List Int) : Option ((Int × Int) × (List (Int × Int))) := (lev Try.prog pvAnn d).call 144 (l1)
/-- loop.example/g00838/laws.FnConform -/
noncomputable def g10 (d : Nat) (l1 : List Int) (l2 : List Int) : Option Bool := (lev Try.prog pvAnn d).call 10 (l1, l2)

theorem e14 (d : Nat) (l1 : List Int) (l2 : List Int) : g14 (d + 1) l1 l2 =
 oif (decide ((((l1.length : Nat) : Int) : Int) > 1048576)) (
 some true) (
 some (decide ((((l2.length : Nat) : Int) : Int) > (IntKind.i64.wrap ((1048576 : Int) - ((l1.length : Nat) : Int)))))) := by kernel_rfl

noncomputable def j18_0 (d : Nat)  (b4 : Bool) : Option Bool :=
 some true
noncomputable def l18_0_b (d : Nat) (l1 : List Int) (l2 : List Int) (kx18_0_0 : Bool → Option Bool) (ag3 : (Bool × Int) → Option Bool) (b4 : Bool) (n5 : Int) : Option Bool :=
 oif (decide ((n5 : Int) < ((l1.length : Nat) : Int))) (
 oif (decide (0 ≤ (n5 : Int))) (
 obind (l1[(n5 : Int).toNat]?) fun n6 =>
 oif (decide (0 ≤ (n5 : Int))) (
 obind (l2[(n5 : Int).toNat]?) fun n7 =>
 oif ((n6 : Int) != n7) (
 some false) (
 ag3 (b4, (IntKind.i64.wrap (n5 + 1))))) none) none) (
 kx18_0_0 b4)
noncomputable def l18_0 (d : Nat) (l1 : List Int) (l2 : List Int) (kx18_0_0 : Bool → Option Bool) (ag3 : (Bool × Int) → Option Bool) (s : (Bool × Int)) : Option Bool := l18_0_b d l1 l2 kx18_0_0 ag3 s.1 s.2
theorem e18 (d : Nat) (l1 : List Int) (l2 : List Int) : g18 (d + 1) l1 l2 =
 oif ((((l1.length : Nat) : Int) : Int) != ((l2.length : Nat) : Int)) (
 some false) (
 iterP (l18_0 d l1 l2 (j18_0 d)) fuelN (false, 0)) := by kernel_rfl

noncomputable def j352_0 (d : Nat) (x1 : ((List Int) × Int × Int)) (n2 : Int) : Option (Int × ((List Int) × Int × Int)) :=
 oif (decide (((IntKind.i64.wrap (x1.2.1 + 1)) : Int) ≤ ((x1.1.length : Nat) : Int))) (
 some (n2, (x1.1, (IntKind.i64.wrap (x1.2.1 + 1)), (IntKind.u64.wrap ((IntKind.u64.wrap ((IntKind.u64.wrap (x1.2.2 * 6364136223846793005)) + (IntKind.u64.wrap n2))) + 1442695040888963407))))) (
 some ((IntKind.i64.wrap (IntKind.u64.wrap ((BitVec.ofInt IntKind.u64.bits ((IntKind.u64.wrap ((IntKind.u64.wrap ((IntKind.u64.wrap (x1.2.2 * 6364136223846793005)) + (IntKind.u64.wrap n2))) + 1442695040888963407)).fdiv (2 ^ (min (40 : Int).toNat IntKind.u64.bits))) &&& BitVec.ofInt IntKind.u64.bits 255).toNat : Int))), (x1.1, (IntKind.i64.wrap (x1.2.1 + 1)), (IntKind.u64.wrap ((IntKind.u64.wrap ((IntKind.u64.wrap (x1.2.2 * 6364136223846793005)) + (IntKind.u64.wrap n2))) + 1442695040888963407)))))
theorem e352 (d : Nat) (x1 : ((List Int) × Int × Int)) : g352 (d + 1) x1 =
 oif (decide ((x1.2.1 : Int) < ((x1.1.length : Nat) : Int))) (
 oif (decide (0 ≤ (x1.2.1 : Int))) (
 obind (x1.1[(x1.2.1 : Int).toNat]?) fun n2 =>
 j352_0 d x1 (IntKind.i64.wrap n2)) none) (
 j352_0 d x1 0) := by kernel_rfl

theorem e203 (d : Nat) (x1 : ((List Int) × Int × Int)) (n2 : Int) : g203 (d + 1) x1 n2 =
 oif (decide ((n2 : Int) ≤ 1)) (
 some (0, x1)) (
 obind (g352 d x1) fun r3 =>
 oif (decide ((n2 : Int) > 200)) (
 obind (g352 d r3.2) fun r4 =>
 oif ((n2 : Int) == 0) none (
 some (((IntKind.i64.wrap ((IntKind.i64.wrap (r3.1 * 256)) + r4.1)).tmod n2), r4.2))) (
 oif ((n2 : Int) == 0) none (
 some ((r3.1.tmod n2), r3.2)))) := by kernel_rfl

theorem e190 (d : Nat) (x1 : ((List Int) × Int × Int)) (l2 : List Int) : g190 (d + 1) x1 l2 =
 obind (g203 d x1 ((l2.length : Nat) : Int)) fun r3 =>
 oif (decide (0 ≤ (r3.1 : Int))) (
 obind (l2[(r3.1 : Int).toNat]?) fun n4 =>
 some (n4, r3.2)) none := by kernel_rfl

theorem e230 (d : Nat) (x1 : ((List Int) × Int × Int)) (n2 : Int) : g230 (d + 1) x1 n2 =
 obind (g203 d x1 n2) fun r3 =>
 some (((r3.1 : Int) == 0), r3.2) := by kernel_rfl

noncomputable def j298_0 (d : Nat) (l13 : List (Int × Int)) (b14 : Bool) (l15 : List Int) (n16 : Int) (n17 : Int) : Option ((List (Int × Int)) × ((List Int) × Int × Int)) :=
 oif b14 (
 obind (g203 d (l15, n16, n17) ((l13.length : Nat) : Int)) fun r18 =>
 oif (decide (0 ≤ (r18.1 : Int))) (
 oif (Nat.blt ((r18.1 : Int).toNat) l13.length) (
 obind (g203 d r18.2 3) fun r19 =>
 oif ((r19.1 : Int) == 0) (
 obind (g190 d r19.2 [(-1), 0, 100000, 100001]) fun r20 =>
 obind (l13[(r18.1 : Int).toNat]?) fun x21 =>
 some ((l13.set ((r18.1 : Int).toNat) (r20.1, x21.2)), r20.2)) (
 oif ((r19.1 : Int) == 1) (
 obind (g190 d r19.2 [0, 1501]) fun r22 =>
 obind (l13[(r18.1 : Int).toNat]?) fun x23 =>
 some ((l13.set ((r18.1 : Int).toNat) (x23.1, r22.1)), r22.2)) (
 obind (l13[(r18.1 : Int).toNat]?) fun x24 =>
 some ((l13.set ((r18.1 : Int).toNat) (x24.1, 1500)), r19.2)))) none) none) (
 some (l13, (l15, n16, n17)))
noncomputable def j298_1 (d : Nat)  (l10 : List Int) (n11 : Int) (n12 : Int) (l13 : List (Int × Int)) : Option ((List (Int × Int)) × ((List Int) × Int × Int)) :=
 oif (decide ((((l13.length : Nat) : Int) : Int) > 0)) (
 obind (g230 d (l10, n11, n12) 16) fun r14 =>
 j298_0 d l13 r14.1 r14.2.1 r14.2.2.1 r14.2.2.2) (
 j298_0 d l13 false l10 n11 n12)
noncomputable def l298_0_b (d : Nat)  (kx298_0_0 : (List Int) → Int → Int → (List (Int × Int)) → Option ((List (Int × Int)) × ((List Int) × Int × Int))) (ag9 : ((List (Int × Int)) × Int × Int × ((List Int) × Int × Int)) → Option ((List (Int × Int)) × ((List Int) × Int × Int))) (l10 : List (Int × Int)) (n11 : Int) (n12 : Int) (x13 : ((List Int) × Int × Int)) : Option ((List (Int × Int)) × ((List Int) × Int × Int)) :=
 oif (decide ((n12 : Int) > 0)) (
 obind (g190 d x13 [1, 40, 100, 500, 1500]) fun r14 =>
 oif (Nat.ble ((l10.length + [(n11, r14.1)].length) * 16) roomMax) (
 obind (g190 d r14.2 [0, 0, 1, 3, 10, 100]) fun r15 =>
 ag9 ((l10 ++ [(n11, r14.1)]), (IntKind.i64.wrap (n11 + r15.1)), (IntKind.i64.wrap (n12 - 1)), r15.2)) none) (
 kx298_0_0 x13.1 x13.2.1 x13.2.2 l10)
noncomputable def l298_0 (d : Nat)  (kx298_0_0 : (List Int) → Int → Int → (List (Int × Int)) → Option ((List (Int × Int)) × ((List Int) × Int × Int))) (ag9 : ((List (Int × Int)) × Int × Int × ((List Int) × Int × Int)) → Option ((List (Int × Int)) × ((List Int) × Int × Int))) (s : ((List (Int × Int)) × Int × Int × ((List Int) × Int × Int))) : Option ((List (Int × Int)) × ((List Int) × Int × Int)) := l298_0_b d kx298_0_0 ag9 s.1 s.2.1 s.2.2.1 s.2.2.2
noncomputable def j298_2 (d : Nat) (r2 : (Int × ((List Int) × Int × Int))) (n5 : Int) (l6 : List Int) (n7 : Int) (n8 : Int) : Option ((List (Int × Int)) × ((List Int) × Int × Int)) :=
 iterP (l298_0 d (j298_1 d)) fuelN ([], r2.1, n5, (l6, n7, n8))
theorem e298 (d : Nat) (x1 : ((List Int) × Int × Int)) : g298 (d + 1) x1 =
 obind (g203 d x1 9) fun r2 =>
 obind (g203 d r2.2 10) fun r3 =>
 obind (g230 d r3.2 24) fun r4 =>
 oif r4.1 (
 obind (g203 d r4.2 2) fun r5 =>
 j298_2 d r2 (IntKind.i64.wrap ((40 : Int) + r5.1)) r5.2.1 r5.2.2.1 r5.2.2.2) (
 j298_2 d r2 r3.1 r4.2.1 r4.2.2.1 r4.2.2.2) := by kernel_rfl

theorem e129 (d : Nat) (l1 : List Int) : g129 (d + 1) l1 =
 obind (g190 d (l1, 0, 0) [0, 1, 10, 100, 1500, 100000, 100001, (-1)]) fun r2 =>
 obind (g298 d r2.2) fun r3 =>
 some (r2.1, r3.1) := by kernel_rfl

theorem e249 (d : Nat) (n1 : Int) : g249 (d + 1) n1 =
 oif (decide ((n1 : Int) ≥ 1)) (
 some (decide ((n1 : Int) ≤ 1500))) (
 some false) := by kernel_rfl

noncomputable def j299_0 (d : Nat) (l1 : List (Int × Int)) (b3 : Bool) : Option Bool :=
 some (decide ((((l1.length : Nat) : Int) : Int) ≤ 40))
noncomputable def j299_1 (d : Nat) (ag2 : (Bool × Int) → Option Bool) (b3 : Bool) (n4 : Int) (b6 : Bool) (b7 : Bool) (b8 : Bool) (b9 : Bool) (b10 : Bool) (b11 : Bool) : Option Bool :=
 oif b11 (
 some false) (
 ag2 (b3, (IntKind.i64.wrap (n4 + 1))))
noncomputable def l299_0_b (d : Nat) (l1 : List (Int × Int)) (kx299_0_0 : Bool → Option Bool) (ag2 : (Bool × Int) → Option Bool) (b3 : Bool) (n4 : Int) : Option Bool :=
 oif (decide ((n4 : Int) < ((l1.length : Nat) : Int))) (
 oif (decide (0 ≤ (n4 : Int))) (
 obind (l1[(n4 : Int).toNat]?) fun x5 =>
 oif (decide ((x5.1 : Int) < 0)) (
 j299_1 d ag2 b3 n4 true true true true true true) (
 oif (decide ((x5.1 : Int) > 100000)) (
 j299_1 d ag2 b3 n4 false (decide ((x5.1 : Int) > 100000)) true true true true) (
 obind (g249 d x5.2) fun r6 =>
 oif (!r6) (
 j299_1 d ag2 b3 n4 false (decide ((x5.1 : Int) > 100000)) false (!r6) true true) (
 oif (decide ((n4 : Int) > 0)) (
 oif (decide (0 ≤ ((IntKind.i64.wrap (n4 - 1)) : Int))) (
 obind (l1[((IntKind.i64.wrap (n4 - 1)) : Int).toNat]?) fun x7 =>
 j299_1 d ag2 b3 n4 false (decide ((x5.1 : Int) > 100000)) false (!r6) false (decide ((x5.1 : Int) < x7.1))) none) (
 j299_1 d ag2 b3 n4 false (decide ((x5.1 : Int) > 100000)) false (!r6) false false))))) none) (
 kx299_0_0 b3)
noncomputable def l299_0 (d : Nat) (l1 : List (Int × Int)) (kx299_0_0 : Bool → Option Bool) (ag2 : (Bool × Int) → Option Bool) (s : (Bool × Int)) : Option Bool := l299_0_b d l1 kx299_0_0 ag2 s.1 s.2
theorem e299 (d : Nat) (l1 : List (Int × Int)) : g299 (d + 1) l1 =
 iterP (l299_0 d l1 (j299_0 d l1)) fuelN (false, 0) := by kernel_rfl

noncomputable def j300_0 (d : Nat)  (n4 : Int) : Option Int :=
 some n4
noncomputable def j300_1 (d : Nat) (ag3 : (Int × Int) → Option Int) (n5 : Int) (n7 : Int) (n8 : Int) (n9 : Int) : Option Int :=
 ag3 (n7, (IntKind.i64.wrap (n5 + 1)))
noncomputable def l300_1_b (d : Nat) (n1 : Int) (l2 : List (Int × Int)) (n5 : Int) (kx300_1_0 : Int → Int → Int → Option Int) (ag6 : (Int × Int × Int) → Option Int) (n7 : Int) (n8 : Int) (n9 : Int) : Option Int :=
 oif (decide ((n9 : Int) < (((l2.drop ((n5 : Int).toNat)).length : Nat) : Int))) (
 oif (decide (0 ≤ (n9 : Int))) (
 obind ((l2.drop ((n5 : Int).toNat))[(n9 : Int).toNat]?) fun x10 =>
 oif (decide (0 ≤ (n5 : Int))) (
 obind (l2[(n5 : Int).toNat]?) fun x11 =>
 ag6 ((if (IntKind.i64.wrap ((IntKind.i64.wrap (n8 + x10.2)) - (IntKind.i64.wrap (n1 * (IntKind.i64.wrap (x10.1 - x11.1)))))) > n7 then (IntKind.i64.wrap ((IntKind.i64.wrap (n8 + x10.2)) - (IntKind.i64.wrap (n1 * (IntKind.i64.wrap (x10.1 - x11.1)))))) else n7), (IntKind.i64.wrap (n8 + x10.2)), (IntKind.i64.wrap (n9 + 1)))) none) none) (
 kx300_1_0 n7 n8 n9)
noncomputable def l300_1 (d : Nat) (n1 : Int) (l2 : List (Int × Int)) (n5 : Int) (kx300_1_0 : Int → Int → Int → Option Int) (ag6 : (Int × Int × Int) → Option Int) (s : (Int × Int × Int)) : Option Int := l300_1_b d n1 l2 n5 kx300_1_0 ag6 s.1 s.2.1 s.2.2
noncomputable def l300_0_b (d : Nat) (n1 : Int) (l2 : List (Int × Int)) (kx300_0_0 : Int → Option Int) (ag3 : (Int × Int) → Option Int) (n4 : Int) (n5 : Int) : Option Int :=
 oif (decide ((n5 : Int) < ((l2.length : Nat) : Int))) (
 oif (decide (0 ≤ (n5 : Int))) (
 oif (Nat.ble ((n5 : Int).toNat) l2.length) (
 iterP (l300_1 d n1 l2 n5 (j300_1 d ag3 n5)) fuelN (n4, 0, 0)) none) none) (
 kx300_0_0 n4)
noncomputable def l300_0 (d : Nat) (n1 : Int) (l2 : List (Int × Int)) (kx300_0_0 : Int → Option Int) (ag3 : (Int × Int) → Option Int) (s : (Int × Int)) : Option Int := l300_0_b d n1 l2 kx300_0_0 ag3 s.1 s.2
theorem e300 (d : Nat) (n1 : Int) (l2 : List (Int × Int)) : g300 (d + 1) n1 l2 =
 iterP (l300_0 d n1 l2 (j300_0 d)) fuelN (0, 0) := by kernel_rfl

theorem e130 (d : Nat) (n1 : Int) (l2 : List (Int × Int)) : g130 (d + 1) n1 l2 =
 oif (decide ((n1 : Int) < 0)) (
 some (0, false)) (
 oif (decide ((n1 : Int) > 100000)) (
 some (0, false)) (
 obind (g299 d l2) fun r3 =>
 oif (!r3) (
 some (0, false)) (
 obind (g300 d n1 l2) fun r4 =>
 some (r4, true)))) := by kernel_rfl

theorem e211 (d : Nat) (n1 : Int) (n2 : Int) (n3 : Int) : g211 (d + 1) n1 n2 n3 =
 oif (decide ((n1 : Int) ≥ n2)) (
 some (decide ((n1 : Int) ≤ n3))) (
 some false) := by kernel_rfl

noncomputable def j301_0 (d : Nat) (l1 : List (Int × Int)) (b3 : Bool) : Option Bool :=
 some (decide ((((l1.length : Nat) : Int) : Int) ≤ 40))
noncomputable def l301_0_b (d : Nat) (l1 : List (Int × Int)) (kx301_0_0 : Bool → Option Bool) (ag2 : (Bool × Int × Int) → Option Bool) (b3 : Bool) (n4 : Int) (n5 : Int) : Option Bool :=
 oif (decide ((n5 : Int) < ((l1.length : Nat) : Int))) (
 oif (decide (0 ≤ (n5 : Int))) (
 obind (l1[(n5 : Int).toNat]?) fun x6 =>
 obind (g211 d x6.1 n4 100000) fun r7 =>
 oif (!r7) (
 some false) (
 obind (g211 d x6.2 1 1500) fun r8 =>
 oif (!r8) (
 some false) (
 ag2 (b3, x6.1, (IntKind.i64.wrap (n5 + 1)))))) none) (
 kx301_0_0 b3)
noncomputable def l301_0 (d : Nat) (l1 : List (Int × Int)) (kx301_0_0 : Bool → Option Bool) (ag2 : (Bool × Int × Int) → Option Bool) (s : (Bool × Int × Int)) : Option Bool := l301_0_b d l1 kx301_0_0 ag2 s.1 s.2.1 s.2.2
theorem e301 (d : Nat) (l1 : List (Int × Int)) : g301 (d + 1) l1 =
 iterP (l301_0 d l1 (j301_0 d l1)) fuelN (false, 0, 0) := by kernel_rfl

theorem e204 (d : Nat) (n1 : Int) (n2 : Int) : g204 (d + 1) n1 n2 =
 oif (decide ((n1 : Int) > n2)) (
 some n1) (
 some n2) := by kernel_rfl

noncomputable def j302_0 (d : Nat)  (n4 : Int) : Option Int :=
 some n4
noncomputable def j302_1 (d : Nat) (ag3 : (Int × Int) → Option Int) (n5 : Int) (n8 : Int) (n9 : Int) (n10 : Int) : Option Int :=
 ag3 (n8, (IntKind.i64.wrap (n5 + 1)))
noncomputable def l302_1_b (d : Nat) (n1 : Int) (l2 : List (Int × Int)) (n5 : Int) (x6 : (Int × Int)) (kx302_1_0 : Int → Int → Int → Option Int) (ag7 : (Int × Int × Int) → Option Int) (n8 : Int) (n9 : Int) (n10 : Int) : Option Int :=
 oif (decide ((n10 : Int) < (((l2.drop ((n5 : Int).toNat)).length : Nat) : Int))) (
 oif (decide (0 ≤ (n10 : Int))) (
 obind ((l2.drop ((n5 : Int).toNat))[(n10 : Int).toNat]?) fun x11 =>
 obind (g204 d n8 (IntKind.i64.wrap ((IntKind.i64.wrap (n9 + x11.2)) - (IntKind.i64.wrap (n1 * (IntKind.i64.wrap (x11.1 - x6.1))))))) fun r12 =>
 ag7 (r12, (IntKind.i64.wrap (n9 + x11.2)), (IntKind.i64.wrap (n10 + 1)))) none) (
 kx302_1_0 n8 n9 n10)
noncomputable def l302_1 (d : Nat) (n1 : Int) (l2 : List (Int × Int)) (n5 : Int) (x6 : (Int × Int)) (kx302_1_0 : Int → Int → Int → Option Int) (ag7 : (Int × Int × Int) → Option Int) (s : (Int × Int × Int)) : Option Int := l302_1_b d n1 l2 n5 x6 kx302_1_0 ag7 s.1 s.2.1 s.2.2
noncomputable def l302_0_b (d : Nat) (n1 : Int) (l2 : List (Int × Int)) (kx302_0_0 : Int → Option Int) (ag3 : (Int × Int) → Option Int) (n4 : Int) (n5 : Int) : Option Int :=
 oif (decide ((n5 : Int) < ((l2.length : Nat) : Int))) (
 oif (decide (0 ≤ (n5 : Int))) (
 obind (l2[(n5 : Int).toNat]?) fun x6 =>
 oif (decide (0 ≤ (n5 : Int))) (
 oif (Nat.ble ((n5 : Int).toNat) l2.length) (
 iterP (l302_1 d n1 l2 n5 x6 (j302_1 d ag3 n5)) fuelN (n4, 0, 0)) none) none) none) (
 kx302_0_0 n4)
noncomputable def l302_0 (d : Nat) (n1 : Int) (l2 : List (Int × Int)) (kx302_0_0 : Int → Option Int) (ag3 : (Int × Int) → Option Int) (s : (Int × Int)) : Option Int := l302_0_b d n1 l2 kx302_0_0 ag3 s.1 s.2
theorem e302 (d : Nat) (n1 : Int) (l2 : List (Int × Int)) : g302 (d + 1) n1 l2 =
 iterP (l302_0 d n1 l2 (j302_0 d)) fuelN (0, 0) := by kernel_rfl

theorem e131 (d : Nat) (n1 : Int) (l2 : List (Int × Int)) : g131 (d + 1) n1 l2 =
 obind (g211 d n1 0 100000) fun r3 =>
 oif (!r3) (
 some (0, false)) (
 obind (g301 d l2) fun r4 =>
 oif (!r4) (
 some (0, false)) (
 obind (g302 d n1 l2) fun r5 =>
 some (r5, true))) := by kernel_rfl

theorem e303 (d : Nat) (x1 : (Int × Int)) : g303 (d + 1) x1 =
 oif (decide ((x1.1 : Int) ≥ 0)) (
 oif (decide ((x1.1 : Int) ≤ 1000000000)) (
 oif (decide ((x1.2 : Int) ≥ 0)) (
 some (decide ((x1.2 : Int) ≤ 100000))) (
 some false)) (
 some false)) (
 some false) := by kernel_rfl

theorem e132 (d : Nat) (x1 : (Int × Int)) (l2 : List (Int × Int)) : g132 (d + 1) x1 l2 =
 obind (g303 d x1) fun r3 =>
 oif (!r3) (
 some (false, false)) (
 obind (g299 d l2) fun r4 =>
 oif (!r4) (
 some (false, false)) (
 obind (g300 d x1.2 l2) fun r5 =>
 some ((decide ((r5 : Int) ≤ x1.1)), true))) := by kernel_rfl

theorem e304 (d : Nat) (x1 : (Int × Int)) : g304 (d + 1) x1 =
 oif (decide ((x1.1 : Int) ≥ 1)) (
 oif (decide ((x1.1 : Int) ≤ 100000)) (
 oif (decide ((x1.2 : Int) ≥ 0)) (
 some (decide ((x1.2 : Int) ≤ 10000))) (
 some false)) (
 some false)) (
 some false) := by kernel_rfl

theorem e305 (d : Nat) (n1 : Int) (n2 : Int) : g305 (d + 1) n1 n2 =
 oif ((n2 : Int) == 0) none (
 some (IntKind.i64.wrap ((IntKind.i64.wrap ((IntKind.i64.wrap (n1 + n2)) - 1)).tdiv n2))) := by kernel_rfl

noncomputable def j133_0 (d : Nat)  (l5 : List Int) : Option ((List Int) × Bool) :=
 some (l5, true)
noncomputable def j133_1 (d : Nat) (x1 : (Int × Int)) (ag4 : ((List Int) × Int × Int × Int) → Option ((List Int) × Bool)) (l5 : List Int) (n8 : Int) (x9 : (Int × Int)) (n12 : Int) (n13 : Int) (b14 : Bool) : Option ((List Int) × Bool) :=
 obind (g305 d (IntKind.i64.wrap (n13 + x9.2)) x1.1) fun r15 =>
 oif (Nat.ble ((l5.length + [(IntKind.i64.wrap ((IntKind.i64.wrap (n12 + x1.2)) + r15))].length) * 8) roomMax) (
 ag4 ((l5 ++ [(IntKind.i64.wrap ((IntKind.i64.wrap (n12 + x1.2)) + r15))]), n12, (IntKind.i64.wrap (n13 + x9.2)), (IntKind.i64.wrap (n8 + 1)))) none
noncomputable def j133_2 (d : Nat) (x1 : (Int × Int)) (ag4 : ((List Int) × Int × Int × Int) → Option ((List Int) × Bool)) (l5 : List Int) (n6 : Int) (n7 : Int) (n8 : Int) (x9 : (Int × Int)) (b10 : Bool) (b11 : Bool) : Option ((List Int) × Bool) :=
 oif b11 (
 j133_1 d x1 ag4 l5 n8 x9 x9.1 0 true) (
 j133_1 d x1 ag4 l5 n8 x9 n6 n7 false)
noncomputable def l133_0_b (d : Nat) (x1 : (Int × Int)) (l2 : List (Int × Int)) (kx133_0_0 : (List Int) → Option ((List Int) × Bool)) (ag4 : ((List Int) × Int × Int × Int) → Option ((List Int) × Bool)) (l5 : List Int) (n6 : Int) (n7 : Int) (n8 : Int) : Option ((List Int) × Bool) :=
 oif (decide ((n8 : Int) < ((l2.length : Nat) : Int))) (
 oif (decide (0 ≤ (n8 : Int))) (
 obind (l2[(n8 : Int).toNat]?) fun x9 =>
 oif ((n8 : Int) == 0) (
 j133_2 d x1 ag4 l5 n6 n7 n8 x9 true true) (
 oif (decide (0 ≤ ((IntKind.i64.wrap (n8 - 1)) : Int))) (
 oif (Nat.blt (((IntKind.i64.wrap (n8 - 1)) : Int).toNat) l5.length) (
 obind (l5[((IntKind.i64.wrap (n8 - 1)) : Int).toNat]?) fun n10 =>
 j133_2 d x1 ag4 l5 n6 n7 n8 x9 false (decide ((x9.1 : Int) > n10))) none) none)) none) (
 kx133_0_0 l5)
noncomputable def l133_0 (d : Nat) (x1 : (Int × Int)) (l2 : List (Int × Int)) (kx133_0_0 : (List Int) → Option ((List Int) × Bool)) (ag4 : ((List Int) × Int × Int × Int) → Option ((List Int) × Bool)) (s : ((List Int) × Int × Int × Int)) : Option ((List Int) × Bool) := l133_0_b d x1 l2 kx133_0_0 ag4 s.1 s.2.1 s.2.2.1 s.2.2.2
noncomputable def j133_3 (d : Nat) (x1 : (Int × Int)) (l2 : List (Int × Int)) (b3 : Bool) : Option ((List Int) × Bool) :=
 oif b3 (
 some ([], false)) (
 iterP (l133_0 d x1 l2 (j133_0 d)) fuelN (([] : List Int), 0, 0, 0))
theorem e133 (d : Nat) (x1 : (Int × Int)) (l2 : List (Int × Int)) : g133 (d + 1) x1 l2 =
 obind (g304 d x1) fun r3 =>
 oif (!r3) (
 j133_3 d x1 l2 true) (
 obind (g299 d l2) fun r4 =>
 j133_3 d x1 l2 (!r4)) := by kernel_rfl

theorem e306 (d : Nat) (x1 : (Int × Int)) : g306 (d + 1) x1 =
 obind (g211 d x1.1 1 100000) fun r2 =>
 oif r2 (
 obind (g211 d x1.2 0 10000) fun r3 =>
 some r3) (
 some false) := by kernel_rfl

theorem e307 (d : Nat) (n1 : Int) (n2 : Int) : g307 (d + 1) n1 n2 =
 oif ((n2 : Int) == 0) none (
 some (IntKind.i64.wrap ((IntKind.i64.wrap ((IntKind.i64.wrap (n1 + n2)) - 1)).tdiv n2))) := by kernel_rfl

noncomputable def j134_0 (d : Nat)  (l5 : List Int) : Option ((List Int) × Bool) :=
 some (l5, true)
noncomputable def j134_1 (d : Nat) (x1 : (Int × Int)) (ag4 : ((List Int) × Int × Int × Int × Int) → Option ((List Int) × Bool)) (l5 : List Int) (n9 : Int) (x10 : (Int × Int)) (n11 : Int) (n12 : Int) (b13 : Bool) : Option ((List Int) × Bool) :=
 obind (g307 d (IntKind.i64.wrap (n12 + x10.2)) x1.1) fun r14 =>
 oif (Nat.ble ((l5.length + [(IntKind.i64.wrap ((IntKind.i64.wrap (n11 + x1.2)) + r14))].length) * 8) roomMax) (
 ag4 ((l5 ++ [(IntKind.i64.wrap ((IntKind.i64.wrap (n11 + x1.2)) + r14))]), n11, (IntKind.i64.wrap (n12 + x10.2)), (IntKind.i64.wrap ((IntKind.i64.wrap (n11 + x1.2)) + r14)), (IntKind.i64.wrap (n9 + 1)))) none
noncomputable def l134_0_b (d : Nat) (x1 : (Int × Int)) (l2 : List (Int × Int)) (kx134_0_0 : (List Int) → Option ((List Int) × Bool)) (ag4 : ((List Int) × Int × Int × Int × Int) → Option ((List Int) × Bool)) (l5 : List Int) (n6 : Int) (n7 : Int) (n8 : Int) (n9 : Int) : Option ((List Int) × Bool) :=
 oif (decide ((n9 : Int) < ((l2.length : Nat) : Int))) (
 oif (decide (0 ≤ (n9 : Int))) (
 obind (l2[(n9 : Int).toNat]?) fun x10 =>
 oif (decide ((x10.1 : Int) > n8)) (
 j134_1 d x1 ag4 l5 n9 x10 x10.1 0 true) (
 j134_1 d x1 ag4 l5 n9 x10 n6 n7 false)) none) (
 kx134_0_0 l5)
noncomputable def l134_0 (d : Nat) (x1 : (Int × Int)) (l2 : List (Int × Int)) (kx134_0_0 : (List Int) → Option ((List Int) × Bool)) (ag4 : ((List Int) × Int × Int × Int × Int) → Option ((List Int) × Bool)) (s : ((List Int) × Int × Int × Int × Int)) : Option ((List Int) × Bool) := l134_0_b d x1 l2 kx134_0_0 ag4 s.1 s.2.1 s.2.2.1 s.2.2.2.1 s.2.2.2.2
noncomputable def j134_2 (d : Nat) (x1 : (Int × Int)) (l2 : List (Int × Int)) (b3 : Bool) : Option ((List Int) × Bool) :=
 oif b3 (
 some ([], false)) (
 iterP (l134_0 d x1 l2 (j134_0 d)) fuelN ([], 0, 0, (-1), 0))
theorem e134 (d : Nat) (x1 : (Int × Int)) (l2 : List (Int × Int)) : g134 (d + 1) x1 l2 =
 obind (g306 d x1) fun r3 =>
 oif (!r3) (
 j134_2 d x1 l2 true) (
 obind (g301 d l2) fun r4 =>
 j134_2 d x1 l2 (!r4)) := by kernel_rfl

theorem e308 (d : Nat) (x1 : (Int × Int)) (x2 : (Int × Int)) : g308 (d + 1) x1 x2 =
 obind (g303 d x1) fun r3 =>
 oif r3 (
 obind (g304 d x2) fun r4 =>
 oif r4 (
 some (decide ((x1.2 : Int) ≤ x2.1))) (
 some false)) (
 some false) := by kernel_rfl

theorem e135 (d : Nat) (x1 : (Int × Int)) (x2 : (Int × Int)) : g135 (d + 1) x1 x2 =
 obind (g308 d x1 x2) fun r3 =>
 oif (!r3) (
 some (0, false)) (
 obind (g305 d x1.1 x2.1) fun r4 =>
 some ((IntKind.i64.wrap (x2.2 + r4)), true)) := by kernel_rfl

theorem e309 (d : Nat) (x1 : ((List Int) × Int × Int)) : g309 (d + 1) x1 =
 obind (g203 d x1 9000) fun r2 =>
 obind (g190 d r2.2 [0, 1, 100, 1500, 60000, r2.1]) fun r3 =>
 obind (g190 d r3.2 [0, 1, 5, 10, 100, 1000]) fun r4 =>
 obind (g203 d r4.2 24) fun r5 =>
 oif ((r5.1 : Int) == 0) (
 obind (g190 d r5.2 [(-1), 1000000000, 1000000001, 999999999]) fun r6 =>
 some ((r6.1, r4.1), r6.2)) (
 oif ((r5.1 : Int) == 1) (
 obind (g190 d r5.2 [(-1), 100000, 100001]) fun r7 =>
 some ((r3.1, r7.1), r7.2)) (
 some ((r3.1, r4.1), r5.2))) := by kernel_rfl

theorem e318 (d : Nat) (x1 : ((List Int) × Int × Int)) : g318 (d + 1) x1 =
 obind (g190 d x1 [1, 10, 100, 1000, 1000, 5000]) fun r2 =>
 obind (g190 d r2.2 [0, 1, 4, 20, 100]) fun r3 =>
 obind (g203 d r3.2 24) fun r4 =>
 oif ((r4.1 : Int) == 0) (
 obind (g190 d r4.2 [0, 100000, 100001]) fun r5 =>
 some ((r5.1, r3.1), r5.2)) (
 oif ((r4.1 : Int) == 1) (
 obind (g190 d r4.2 [(-1), 10000, 10001]) fun r6 =>
 some ((r2.1, r6.1), r6.2)) (
 some ((r2.1, r3.1), r4.2))) := by kernel_rfl

noncomputable def j310_0 (d : Nat)  (l9 : List (Int × Int)) (l10 : List Int) (n11 : Int) (n12 : Int) : Option ((List (Int × Int)) × ((List Int) × Int × Int)) :=
 some (l9, (l10, n11, n12))
noncomputable def l310_0_b (d : Nat)  (kx310_0_0 : (List (Int × Int)) → (List Int) → Int → Int → Option ((List (Int × Int)) × ((List Int) × Int × Int))) (ag8 : ((List (Int × Int)) × Int × ((List Int) × Int × Int)) → Option ((List (Int × Int)) × ((List Int) × Int × Int))) (l9 : List (Int × Int)) (n10 : Int) (x11 : ((List Int) × Int × Int)) : Option ((List (Int × Int)) × ((List Int) × Int × Int)) :=
 oif (decide ((n10 : Int) > 0)) (
 obind (g318 d x11) fun r12 =>
 oif (Nat.ble ((l9.length + [r12.1].length) * 16) roomMax) (
 ag8 ((l9 ++ [r12.1]), (IntKind.i64.wrap (n10 - 1)), r12.2)) none) (
 kx310_0_0 l9 x11.1 x11.2.1 x11.2.2)
noncomputable def l310_0 (d : Nat)  (kx310_0_0 : (List (Int × Int)) → (List Int) → Int → Int → Option ((List (Int × Int)) × ((List Int) × Int × Int))) (ag8 : ((List (Int × Int)) × Int × ((List Int) × Int × Int)) → Option ((List (Int × Int)) × ((List Int) × Int × Int))) (s : ((List (Int × Int)) × Int × ((List Int) × Int × Int))) : Option ((List (Int × Int)) × ((List Int) × Int × Int)) := l310_0_b d kx310_0_0 ag8 s.1 s.2.1 s.2.2
noncomputable def j310_1 (d : Nat)  (n4 : Int) (l5 : List Int) (n6 : Int) (n7 : Int) : Option ((List (Int × Int)) × ((List Int) × Int × Int)) :=
 iterP (l310_0 d (j310_0 d)) fuelN ([], n4, (l5, n6, n7))
theorem e310 (d : Nat) (x1 : ((List Int) × Int × Int)) : g310 (d + 1) x1 =
 obind (g203 d x1 4) fun r2 =>
 obind (g230 d r2.2 12) fun r3 =>
 oif r3.1 (
 obind (g190 d r3.2 [0, 8, 9]) fun r4 =>
 j310_1 d r4.1 r4.2.1 r4.2.2.1 r4.2.2.2) (
 j310_1 d (IntKind.i64.wrap ((1 : Int) + r2.1)) r3.2.1 r3.2.2.1 r3.2.2.2) := by kernel_rfl

theorem e136 (d : Nat) (l1 : List Int) : g136 (d + 1) l1 =
 obind (g309 d (l1, 0, 0)) fun r2 =>
 obind (g310 d r2.2) fun r3 =>
 some (r2.1, r3.1) := by kernel_rfl

noncomputable def j140_0 (d : Nat)  (b4 : Bool) (n5 : Int) (n6 : Int) : Option ((Int × Int) × Bool) :=
 obind (g304 d (n5, n6)) fun r7 =>
 oif (!r7) (
 some ((0, 0), false)) (
 some ((n5, n6), true))
noncomputable def l140_0_b (d : Nat) (l1 : List (Int × Int)) (kx140_0_0 : Bool → Int → Int → Option ((Int × Int) × Bool)) (ag3 : (Bool × Int × (Int × Int)) → Option ((Int × Int) × Bool)) (b4 : Bool) (n5 : Int) (x6 : (Int × Int)) : Option ((Int × Int) × Bool) :=
 oif (decide ((n5 : Int) < ((l1.length : Nat) : Int))) (
 oif (decide (0 ≤ (n5 : Int))) (
 obind (l1[(n5 : Int).toNat]?) fun x7 =>
 obind (g304 d x7) fun r8 =>
 oif (!r8) (
 some ((0, 0), false)) (
 ag3 (b4, (IntKind.i64.wrap (n5 + 1)), ((if x7.1 < x6.1 then x7.1 else x6.1), (IntKind.i64.wrap (x6.2 + x7.2)))))) none) (
 kx140_0_0 b4 x6.1 x6.2)
noncomputable def l140_0 (d : Nat) (l1 : List (Int × Int)) (kx140_0_0 : Bool → Int → Int → Option ((Int × Int) × Bool)) (ag3 : (Bool × Int × (Int × Int)) → Option ((Int × Int) × Bool)) (s : (Bool × Int × (Int × Int))) : Option ((Int × Int) × Bool) := l140_0_b d l1 kx140_0_0 ag3 s.1 s.2.1 s.2.2
noncomputable def j140_1 (d : Nat) (l1 : List (Int × Int)) (b2 : Bool) : Option ((Int × Int) × Bool) :=
 oif b2 (
 some ((0, 0), false)) (
 iterP (l140_0 d l1 (j140_0 d)) fuelN (false, 0, (100000, 0)))
theorem e140 (d : Nat) (l1 : List (Int × Int)) : g140 (d + 1) l1 =
 oif (decide ((((l1.length : Nat) : Int) : Int) < 1)) (
 j140_1 d l1 true) (
 j140_1 d l1 (decide ((((l1.length : Nat) : Int) : Int) > 8))) := by kernel_rfl

theorem e360 (d : Nat) (x1 : (Int × Int)) (x2 : (Int × Int)) : g360 (d + 1) x1 x2 =
 obind (g308 d x1 x2) fun r3 =>
 oif (!r3) (
 some (0, false)) (
 some ((IntKind.i64.wrap (x1.1 + (IntKind.i64.wrap (x1.2 * x2.2)))), true)) := by kernel_rfl

theorem e311 (d : Nat) (x1 : (Int × Int)) (x2 : (Int × Int)) : g311 (d + 1) x1 x2 =
 obind (g360 d x1 x2) fun r3 =>
 oif (!r3.2) (
 some ((0, 0), false)) (
 obind (g303 d (r3.1, x1.2)) fun r4 =>
 oif (!r4) (
 some ((0, 0), false)) (
 some ((r3.1, x1.2), true))) := by kernel_rfl

noncomputable def j137_0 (d : Nat) (r4 : (Int × Bool)) (n6 : Int) (n7 : Int) (b8 : Bool) (n9 : Int) (n10 : Int) (n11 : Int) : Option (Int × Int × Bool) :=
 some (n9, r4.1, true)
noncomputable def j137_1 (d : Nat) (ag5 : (Int × Int × Bool × Bool × Int × Int × (Int × Int)) → Option (Int × Int × Bool)) (n6 : Int) (n7 : Int) (b8 : Bool) (n10 : Int) (n11 : Int) (x13 : (Int × Int)) (b14 : Bool) (b15 : Bool) (n16 : Int) (n17 : Int) : Option (Int × Int × Bool) :=
 obind (g135 d (n16, n17) x13) fun r18 =>
 oif (!r18.2) (
 some (0, 0, false)) (
 ag5 (n6, n7, b8, b14, (IntKind.i64.wrap (n10 + r18.1)), (IntKind.i64.wrap (n11 + 1)), (n16, n17)))
noncomputable def l137_0_b (d : Nat) (l2 : List (Int × Int)) (kx137_0_0 : Int → Int → Bool → Int → Int → Int → Option (Int × Int × Bool)) (ag5 : (Int × Int × Bool × Bool × Int × Int × (Int × Int)) → Option (Int × Int × Bool)) (n6 : Int) (n7 : Int) (b8 : Bool) (b9 : Bool) (n10 : Int) (n11 : Int) (x12 : (Int × Int)) : Option (Int × Int × Bool) :=
 oif (decide ((n11 : Int) < ((l2.length : Nat) : Int))) (
 oif (decide (0 ≤ (n11 : Int))) (
 obind (l2[(n11 : Int).toNat]?) fun x13 =>
 oif (decide ((n11 : Int) > 0)) (
 oif (decide (0 ≤ ((IntKind.i64.wrap (n11 - 1)) : Int))) (
 obind (l2[((IntKind.i64.wrap (n11 - 1)) : Int).toNat]?) fun x14 =>
 obind (g311 d x12 x14) fun r15 =>
 oif (!r15.2) (
 some (0, 0, false)) (
 j137_1 d ag5 n6 n7 b8 n10 n11 x13 r15.2 true r15.1.1 r15.1.2)) none) (
 j137_1 d ag5 n6 n7 b8 n10 n11 x13 b9 false x12.1 x12.2)) none) (
 kx137_0_0 n6 n7 b8 n10 x12.1 x12.2)
noncomputable def l137_0 (d : Nat) (l2 : List (Int × Int)) (kx137_0_0 : Int → Int → Bool → Int → Int → Int → Option (Int × Int × Bool)) (ag5 : (Int × Int × Bool × Bool × Int × Int × (Int × Int)) → Option (Int × Int × Bool)) (s : (Int × Int × Bool × Bool × Int × Int × (Int × Int))) : Option (Int × Int × Bool) := l137_0_b d l2 kx137_0_0 ag5 s.1 s.2.1 s.2.2.1 s.2.2.2.1 s.2.2.2.2.1 s.2.2.2.2.2.1 s.2.2.2.2.2.2
theorem e137 (d : Nat) (x1 : (Int × Int)) (l2 : List (Int × Int)) : g137 (d + 1) x1 l2 =
 obind (g140 d l2) fun r3 =>
 oif (!r3.2) (
 some (0, 0, false)) (
 obind (g135 d x1 r3.1) fun r4 =>
 oif (!r4.2) (
 some (0, 0, false)) (
 iterP (l137_0 d l2 (j137_0 d r4)) fuelN (0, 0, false, r4.2, 0, 0, x1))) := by kernel_rfl

noncomputable def j312_0 (d : Nat) (l1 : List (Int × Int)) (b3 : Bool) : Option Bool :=
 obind (g211 d ((l1.length : Nat) : Int) 1 8) fun r4 =>
 some r4
noncomputable def l312_0_b (d : Nat) (l1 : List (Int × Int)) (kx312_0_0 : Bool → Option Bool) (ag2 : (Bool × Int) → Option Bool) (b3 : Bool) (n4 : Int) : Option Bool :=
 oif (decide ((n4 : Int) < ((l1.length : Nat) : Int))) (
 oif (decide (0 ≤ (n4 : Int))) (
 obind (l1[(n4 : Int).toNat]?) fun x5 =>
 obind (g306 d x5) fun r6 =>
 oif (!r6) (
 some false) (
 ag2 (b3, (IntKind.i64.wrap (n4 + 1))))) none) (
 kx312_0_0 b3)
noncomputable def l312_0 (d : Nat) (l1 : List (Int × Int)) (kx312_0_0 : Bool → Option Bool) (ag2 : (Bool × Int) → Option Bool) (s : (Bool × Int)) : Option Bool := l312_0_b d l1 kx312_0_0 ag2 s.1 s.2
theorem e312 (d : Nat) (l1 : List (Int × Int)) : g312 (d + 1) l1 =
 iterP (l312_0 d l1 (j312_0 d l1)) fuelN (false, 0) := by kernel_rfl

theorem e274 (d : Nat) (n1 : Int) (n2 : Int) : g274 (d + 1) n1 n2 =
 oif (decide ((n1 : Int) < n2)) (
 some n1) (
 some n2) := by kernel_rfl

noncomputable def j313_0 (d : Nat)  (n4 : Int) (n5 : Int) : Option (Int × Int) :=
 some (n4, n5)
noncomputable def l313_0_b (d : Nat) (l1 : List (Int × Int)) (kx313_0_0 : Int → Int → Option (Int × Int)) (ag3 : (Int × (Int × Int)) → Option (Int × Int)) (n4 : Int) (x5 : (Int × Int)) : Option (Int × Int) :=
 oif (decide ((n4 : Int) < (((l1.drop 1).length : Nat) : Int))) (
 oif (decide (0 ≤ (n4 : Int))) (
 obind ((l1.drop 1)[(n4 : Int).toNat]?) fun x6 =>
 obind (g274 d x5.1 x6.1) fun r7 =>
 ag3 ((IntKind.i64.wrap (n4 + 1)), (r7, (IntKind.i64.wrap (x5.2 + x6.2))))) none) (
 kx313_0_0 x5.1 x5.2)
noncomputable def l313_0 (d : Nat) (l1 : List (Int × Int)) (kx313_0_0 : Int → Int → Option (Int × Int)) (ag3 : (Int × (Int × Int)) → Option (Int × Int)) (s : (Int × (Int × Int))) : Option (Int × Int) := l313_0_b d l1 kx313_0_0 ag3 s.1 s.2
theorem e313 (d : Nat) (l1 : List (Int × Int)) : g313 (d + 1) l1 =
 obind (l1[0]?) fun x2 =>
 oif (Nat.ble 1 l1.length) (
 iterP (l313_0 d l1 (j313_0 d)) fuelN (0, x2)) none := by kernel_rfl

theorem e317 (d : Nat) (x1 : (Int × Int)) : g317 (d + 1) x1 =
 obind (g211 d x1.1 0 1000000000) fun r2 =>
 oif r2 (
 obind (g211 d x1.2 0 100000) fun r3 =>
 some r3) (
 some false) := by kernel_rfl

theorem e314 (d : Nat) (x1 : (Int × Int)) (x2 : (Int × Int)) : g314 (d + 1) x1 x2 =
 obind (g317 d x1) fun r3 =>
 oif r3 (
 obind (g306 d x2) fun r4 =>
 oif r4 (
 some (decide ((x1.2 : Int) ≤ x2.1))) (
 some false)) (
 some false) := by kernel_rfl

theorem e315 (d : Nat) (x1 : (Int × Int)) (x2 : (Int × Int)) : g315 (d + 1) x1 x2 =
 obind (g307 d x1.1 x2.1) fun r3 =>
 some (IntKind.i64.wrap (x2.2 + r3)) := by kernel_rfl

theorem e316 (d : Nat) (x1 : (Int × Int)) (x2 : (Int × Int)) : g316 (d + 1) x1 x2 =
 some (IntKind.i64.wrap (x1.1 + (IntKind.i64.wrap (x1.2 * x2.2)))) := by kernel_rfl

noncomputable def j138_0 (d : Nat) (x1 : (Int × Int)) (l2 : List (Int × Int)) (n5 : Int) (n6 : Int) (b7 : Bool) (n8 : Int) (n9 : Int) (n10 : Int) : Option (Int × Int × Bool) :=
 obind (g313 d l2) fun r11 =>
 obind (g315 d x1 r11) fun r12 =>
 some (n8, r12, true)
noncomputable def l138_0_b (d : Nat) (l2 : List (Int × Int)) (kx138_0_0 : Int → Int → Bool → Int → Int → Int → Option (Int × Int × Bool)) (ag4 : (Int × Int × Bool × Int × Int × (Int × Int)) → Option (Int × Int × Bool)) (n5 : Int) (n6 : Int) (b7 : Bool) (n8 : Int) (n9 : Int) (x10 : (Int × Int)) : Option (Int × Int × Bool) :=
 oif (decide ((n9 : Int) < ((l2.length : Nat) : Int))) (
 oif (decide (0 ≤ (n9 : Int))) (
 obind (l2[(n9 : Int).toNat]?) fun x11 =>
 obind (g315 d x10 x11) fun r12 =>
 oif ((n9 : Int) == (IntKind.i64.wrap (((l2.length : Nat) : Int) - 1))) (
 kx138_0_0 n5 n6 b7 (IntKind.i64.wrap (n8 + r12)) x10.1 x10.2) (
 obind (g316 d x10 x11) fun r13 =>
 obind (g317 d (r13, x10.2)) fun r14 =>
 oif (!r14) (
 some (0, 0, false)) (
 ag4 (n5, n6, b7, (IntKind.i64.wrap (n8 + r12)), (IntKind.i64.wrap (n9 + 1)), (r13, x10.2))))) none) (
 kx138_0_0 n5 n6 b7 n8 x10.1 x10.2)
noncomputable def l138_0 (d : Nat) (l2 : List (Int × Int)) (kx138_0_0 : Int → Int → Bool → Int → Int → Int → Option (Int × Int × Bool)) (ag4 : (Int × Int × Bool × Int × Int × (Int × Int)) → Option (Int × Int × Bool)) (s : (Int × Int × Bool × Int × Int × (Int × Int))) : Option (Int × Int × Bool) := l138_0_b d l2 kx138_0_0 ag4 s.1 s.2.1 s.2.2.1 s.2.2.2.1 s.2.2.2.2.1 s.2.2.2.2.2
noncomputable def j138_1 (d : Nat) (x1 : (Int × Int)) (l2 : List (Int × Int)) (b3 : Bool) : Option (Int × Int × Bool) :=
 oif b3 (
 some (0, 0, false)) (
 iterP (l138_0 d l2 (j138_0 d x1 l2)) fuelN (0, 0, false, 0, 0, x1))
theorem e138 (d : Nat) (x1 : (Int × Int)) (l2 : List (Int × Int)) : g138 (d + 1) x1 l2 =
 obind (g312 d l2) fun r3 =>
 oif (!r3) (
 j138_1 d x1 l2 true) (
 obind (g313 d l2) fun r4 =>
 obind (g306 d r4) fun r5 =>
 oif (!r5) (
 j138_1 d x1 l2 true) (
 obind (g313 d l2) fun r6 =>
 obind (g314 d x1 r6) fun r7 =>
 j138_1 d x1 l2 (!r7))) := by kernel_rfl

theorem e139 (d : Nat) (l1 : List Int) : g139 (d + 1) l1 =
 obind (g310 d (l1, 0, 0)) fun r2 =>
 some r2.1 := by kernel_rfl

theorem e141 (d : Nat) (l1 : List (Int × Int)) : g141 (d + 1) l1 =
 obind (g312 d l1) fun r2 =>
 oif (!r2) (
 some ((0, 0), false)) (
 obind (g313 d l1) fun r3 =>
 obind (g306 d r3) fun r4 =>
 oif (!r4) (
 some ((0, 0), false)) (
 obind (g313 d l1) fun r5 =>
 some (r5, true))) := by kernel_rfl

noncomputable def j142_0 (d : Nat) (r2 : ((Int × Int) × ((List Int) × Int × Int))) (r3 : ((List (Int × Int)) × ((List Int) × Int × Int))) (b4 : Bool) (l5 : List Int) (n6 : Int) (n7 : Int) : Option ((Int × Int) × (List (Int × Int))) :=
 oif b4 (
 obind (g302 d r2.1.2 r3.1) fun r8 =>
 obind (g203 d (l5, n6, n7) 2) fun r9 =>
 obind (g204 d 0 (IntKind.i64.wrap (r8 - r9.1))) fun r10 =>
 some ((r10, r2.1.2), r3.1)) (
 some (r2.1, r3.1))
theorem e142 (d : Nat) (l1 : List Int) : g142 (d + 1) l1 =
 obind (g309 d (l1, 0, 0)) fun r2 =>
 obind (g298 d r2.2) fun r3 =>
 obind (g301 d r3.1) fun r4 =>
 oif r4 (
 obind (g317 d r2.1) fun r5 =>
 oif r5 (
 obind (g230 d r3.2 2) fun r6 =>
 j142_0 d r2 r3 r6.1 r6.2.1 r6.2.2.1 r6.2.2.2) (
 j142_0 d r2 r3 false r3.2.1 r3.2.2.1 r3.2.2.2)) (
 j142_0 d r2 r3 false r3.2.1 r3.2.2.1 r3.2.2.2) := by kernel_rfl

theorem e143 (d : Nat) (x1 : (Int × Int)) (l2 : List (Int × Int)) : g143 (d + 1) x1 l2 =
 obind (g317 d x1) fun r3 =>
 oif (!r3) (
 some (false, false)) (
 obind (g301 d l2) fun r4 =>
 oif (!r4) (
 some (false, false)) (
 obind (g302 d x1.2 l2) fun r5 =>
 some ((decide ((r5 : Int) ≤ x1.1)), true))) := by kernel_rfl

theorem e144 (d : Nat) (l1 : List Int) : g144 (d + 1) l1 =
 obind (g318 d (l1, 0, 0)) fun r2 =>
 obind (g298 d r2.2) fun r3 =>
 some (r2.1, r3.1) := by kernel_rfl

noncomputable def j10_0 (d : Nat) (l2 : List Int) (b12 : Bool) : Option Bool :=
 oif b12 (
 some false) (
 obind (g139 d l2) fun r13 =>
 obind (g140 d r13) fun r14 =>
 obind (g141 d r13) fun r15 =>
 obind (g142 d l2) fun r16 =>
 obind (g132 d r16.1 r16.2) fun r17 =>
 obind (g143 d r16.1 r16.2) fun r18 =>
 obind (g144 d l2) fun r19 =>
 obind (g133 d r19.1 r19.2) fun r20 =>
 obind (g134 d r19.1 r19.2) fun r21 =>
 oif (r14.2 == r15.2) (
 oif (((r14.1.1 : Int) == r15.1.1) && (((r14.1.2 : Int) == r15.1.2) && true)) (
 oif (r17.2 == r18.2) (
 oif (r17.1 == r18.1) (
 oif (r20.2 == r21.2) (
 obind (g18 d r20.1 r21.1) fun r22 =>
 some r22) (
 some false)) (
 some false)) (
 some false)) (
 some false)) (
 some false))
noncomputable def j10_1 (d : Nat) (l2 : List Int) (b8 : Bool) : Option Bool :=
 obind (g136 d l2) fun r9 =>
 obind (g137 d r9.1 r9.2) fun r10 =>
 obind (g138 d r9.1 r9.2) fun r11 =>
 oif (!(r10.2.2 == r11.2.2)) (
 j10_0 d l2 true) (
 oif ((r10.1 : Int) != r11.1) (
 j10_0 d l2 true) (
 oif ((r10.2.1 : Int) != r11.2.1) (
 j10_0 d l2 true) (
 oif r10.2.2 (
 j10_0 d l2 (decide ((r11.2.1 : Int) > r11.1))) (
 j10_0 d l2 false))))
noncomputable def j10_2 (d : Nat) (l2 : List Int) (b16 : Bool) : Option Bool :=
 j10_1 d l2 b16
noncomputable def l10_0_b (d : Nat) (r4 : (Int × (List (Int × Int)))) (r12 : ((List Int) × Bool)) (r13 : (Int × Bool)) (kx10_0_0 : Bool → Option Bool) (ag15 : (Bool × Int) → Option Bool) (b16 : Bool) (n17 : Int) : Option Bool :=
 oif (decide ((n17 : Int) < ((r12.1.length : Nat) : Int))) (
 oif (decide (0 ≤ (n17 : Int))) (
 oif (Nat.blt ((n17 : Int).toNat) r12.1.length) (
 obind (r12.1[(n17 : Int).toNat]?) fun n18 =>
 oif (decide (0 ≤ (n17 : Int))) (
 oif (Nat.blt ((n17 : Int).toNat) r4.2.length) (
 obind (r4.2[(n17 : Int).toNat]?) fun x19 =>
 oif (decide (((IntKind.i64.wrap (n18 - x19.1)) : Int) > r13.1)) (
 some false) (
 ag15 (b16, (IntKind.i64.wrap (n17 + 1))))) none) none) none) none) (
 kx10_0_0 b16)
noncomputable def l10_0 (d : Nat) (r4 : (Int × (List (Int × Int)))) (r12 : ((List Int) × Bool)) (r13 : (Int × Bool)) (kx10_0_0 : Bool → Option Bool) (ag15 : (Bool × Int) → Option Bool) (s : (Bool × Int)) : Option Bool := l10_0_b d r4 r12 r13 kx10_0_0 ag15 s.1 s.2
noncomputable def j10_3 (d : Nat) (l2 : List Int) (r4 : (Int × (List (Int × Int)))) (r12 : ((List Int) × Bool)) (r13 : (Int × Bool)) (b14 : Bool) : Option Bool :=
 oif b14 (
 some false) (
 iterP (l10_0 d r4 r12 r13 (j10_2 d l2)) fuelN (false, 0))
noncomputable def j10_4 (d : Nat) (l2 : List Int) (r4 : (Int × (List (Int × Int)))) (r6 : (Int × Bool)) (n10 : Int) : Option Bool :=
 obind (g133 d (n10, (((l2.length : Nat) : Int).tmod 50)) r4.2) fun r11 =>
 obind (g134 d (n10, (((l2.length : Nat) : Int).tmod 50)) r4.2) fun r12 =>
 obind (g135 d (r6.1, r4.1) (n10, (((l2.length : Nat) : Int).tmod 50))) fun r13 =>
 oif (!r11.2) (
 j10_3 d l2 r4 r12 r13 true) (
 oif (!r12.2) (
 j10_3 d l2 r4 r12 r13 true) (
 obind (g18 d r11.1 r12.1) fun r14 =>
 oif (!r14) (
 j10_3 d l2 r4 r12 r13 true) (
 oif (!r13.2) (
 j10_3 d l2 r4 r12 r13 true) (
 j10_3 d l2 r4 r12 r13 ((((r12.1.length : Nat) : Int) : Int) != ((r4.2.length : Nat) : Int))))))
noncomputable def j10_5 (d : Nat) (l2 : List Int) (r4 : (Int × (List (Int × Int)))) (r6 : (Int × Bool))  : Option Bool :=
 oif (decide (((IntKind.i64.wrap ((1 : Int) + (r4.1.tmod 1000))) : Int) < r4.1)) (
 j10_4 d l2 r4 r6 r4.1) (
 j10_4 d l2 r4 r6 (IntKind.i64.wrap ((1 : Int) + (r4.1.tmod 1000))))
noncomputable def j10_6 (d : Nat) (l2 : List Int) (r4 : (Int × (List (Int × Int)))) (r6 : (Int × Bool)) (b9 : Bool) : Option Bool :=
 oif b9 (
 some false) (
 oif (decide ((r6.1 : Int) > 0)) (
 obind (g132 d ((IntKind.i64.wrap (r6.1 - 1)), r4.1) r4.2) fun r10 =>
 oif (!r10.2) (
 some false) (
 oif r10.1 (
 some false) (
 j10_5 d l2 r4 r6))) (
 j10_5 d l2 r4 r6))
noncomputable def j10_7 (d : Nat) (l2 : List Int) (r4 : (Int × (List (Int × Int)))) (r5 : (Int × Bool)) (r6 : (Int × Bool)) (b7 : Bool) : Option Bool :=
 oif b7 (
 some false) (
 oif r5.2 (
 obind (g132 d (r6.1, r4.1) r4.2) fun r8 =>
 oif (!r8.2) (
 j10_6 d l2 r4 r6 true) (
 j10_6 d l2 r4 r6 (!r8.1))) (
 j10_1 d l2 false))
theorem e10 (d : Nat) (l1 : List Int) (l2 : List Int) : g10 (d + 1) l1 l2 =
 obind (g14 d l1 l2) fun r3 =>
 oif r3 (
 some true) (
 obind (g129 d l1) fun r4 =>
 obind (g130 d r4.1 r4.2) fun r5 =>
 obind (g131 d r4.1 r4.2) fun r6 =>
 oif (!(r5.2 == r6.2)) (
 j10_7 d l2 r4 r5 r6 true) (
 j10_7 d l2 r4 r5 r6 ((r5.1 : Int) != r6.1))) := by kernel_rfl

end Go.Proofs.Ytcoojpojnmnboaa
