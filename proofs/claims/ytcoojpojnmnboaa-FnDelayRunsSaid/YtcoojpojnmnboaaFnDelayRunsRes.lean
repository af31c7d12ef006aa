/-
  The residual forms of the program's functions under the interpreter by value, printed by program (wip/pv/gen2.py); each equation is checked by the kernel.
  Conditions: none.
-/
import Derived.Test.YtcoojpojnmnboaaVDef
import Derived.Test.YtcoojpojnmnboaaProg
import Derived.KernelRfl
set_option linter.all false
set_option maxRecDepth 1000000
namespace Go.Proofs.Ytcoojpojnmnboaa
open Go.Ev Go.Pv

theorem fuel_is : ∃ n : Nat, n = 4194304 := ⟨_, rfl⟩
noncomputable def fuelN : Nat := Classical.choose fuel_is
theorem fuelN_eq : fuelN = 4194304 := Classical.choose_spec fuel_is
def pvSig : FuncId → Sig
  | 12 => ⟨[(.ro, (.sl (.int .u8))), (.ro, (.sl (.int .u8)))], [(false, .bool)]⟩
  | 32 => ⟨[(.ro, (.pair (.int .i64) (.pair (.int .i64) (.pair (.int .i64) (.pair .bool (.pair (.int .i64) (.int .i64))))))), (.ro, (.int .i64)), (.ro, (.int .i64)), (.ro, (.int .i64))], [(false, (.pair (.int .i64) (.pair (.int .i64) (.pair (.int .i64) (.pair .bool (.pair (.int .i64) (.int .i64))))))), (false, .bool), (false, .bool)]⟩
  | 46 => ⟨[(.ro, (.sl (.int .i64))), (.ro, (.sl (.int .i64)))], [(false, .bool)]⟩
  | 47 => ⟨[(.ro, (.pair (.int .i64) (.pair (.int .i64) (.pair (.int .i64) (.pair .bool (.pair (.int .i64) (.int .i64)))))))], [(false, .bool)]⟩
  | 157 => ⟨[(.ro, (.sl (.int .u8)))], [(false, (.pair (.int .i64) (.pair (.int .i64) (.pair (.int .i64) (.pair .bool (.pair (.int .i64) (.int .i64))))))), (true, (.sl (.int .i64))), (false, (.int .i64))]⟩
  | 158 => ⟨[(.ro, (.pair (.int .i64) (.pair (.int .i64) (.pair (.int .i64) (.pair .bool (.pair (.int .i64) (.int .i64))))))), (.ro, (.sl (.int .i64))), (.ro, (.int .i64))], [(true, (.sl (.int .i64))), (false, .bool)]⟩
  | 159 => ⟨[(.ro, (.pair (.int .i64) (.pair (.int .i64) (.pair (.int .i64) (.pair .bool (.pair (.int .i64) (.int .i64))))))), (.ro, (.sl (.int .i64))), (.ro, (.int .i64))], [(true, (.sl (.int .i64))), (false, .bool)]⟩
  | 160 => ⟨[(.ro, (.sl (.int .u8)))], [(true, (.sl (.int .i64))), (true, (.sl (.int .i64)))]⟩
  | 161 => ⟨[(.ro, (.sl (.int .i64))), (.ro, (.sl (.int .i64)))], [(true, (.sl (.int .i64))), (false, .bool)]⟩
  | 162 => ⟨[(.ro, (.sl (.int .i64))), (.ro, (.sl (.int .i64)))], [(true, (.sl (.int .i64))), (false, .bool)]⟩
  | 163 => ⟨[(.ro, (.sl (.int .u8)))], [(true, (.sl (.int .i64)))]⟩
  | 164 => ⟨[(.ro, (.sl (.int .i64)))], [(false, (.int .i64)), (false, .bool)]⟩
  | 165 => ⟨[(.ro, (.sl (.int .i64)))], [(false, (.int .i64)), (false, .bool)]⟩
  | 190 => ⟨[(.ps, (.pair (.sl (.int .u8)) (.pair (.int .i64) (.int .u64)))), (.ro, (.sl (.int .i64)))], [(false, (.int .i64))]⟩
  | 202 => ⟨[(.ps, (.pair (.sl (.int .u8)) (.pair (.int .i64) (.int .u64))))], [(false, (.pair (.int .i64) (.pair (.int .i64) (.pair (.int .i64) (.pair .bool (.pair (.int .i64) (.int .i64)))))))]⟩
  | 203 => ⟨[(.ps, (.pair (.sl (.int .u8)) (.pair (.int .i64) (.int .u64)))), (.ro, (.int .i64))], [(false, (.int .i64))]⟩
  | 204 => ⟨[(.ro, (.int .i64)), (.ro, (.int .i64))], [(false, (.int .i64))]⟩
  | 205 => ⟨[(.ro, (.int .i64))], [(false, .bool)]⟩
  | 206 => ⟨[(.ps, (.pair (.int .i64) (.pair (.int .i64) (.pair (.int .i64) (.pair .bool (.pair (.int .i64) (.int .i64))))))), (.ro, (.int .i64)), (.ro, (.int .i64)), (.ro, (.int .i64))], [(false, .bool)]⟩
  | 207 => ⟨[(.ro, (.pair (.int .i64) (.pair (.int .i64) (.pair (.int .i64) (.pair .bool (.pair (.int .i64) (.int .i64)))))))], [(false, .bool)]⟩
  | 208 => ⟨[(.ro, (.int .i64))], [(false, .bool)]⟩
  | 209 => ⟨[(.ro, (.pair (.int .i64) (.pair (.int .i64) (.pair (.int .i64) (.pair .bool (.pair (.int .i64) (.int .i64))))))), (.ro, (.int .i64)), (.ro, (.int .i64)), (.ro, (.int .i64))], [(false, (.pair (.int .i64) (.pair (.int .i64) (.pair (.int .i64) (.pair .bool (.pair (.int .i64) (.int .i64))))))), (false, .bool)]⟩
  | 210 => ⟨[(.ro, (.int .i64))], [(false, (.int .i64))]⟩
  | 211 => ⟨[(.ro, (.int .i64)), (.ro, (.int .i64)), (.ro, (.int .i64))], [(false, .bool)]⟩
  | 212 => ⟨[(.ro, (.int .i64))], [(false, (.int .i64))]⟩
  | 213 => ⟨[(.ro, (.int .i64))], [(false, .bool)]⟩
  | 214 => ⟨[(.ro, (.int .i64)), (.ro, (.int .i64))], [(false, (.int .i64))]⟩
  | 215 => ⟨[(.ro, (.int .i64))], [(false, .bool)]⟩
  | 216 => ⟨[(.ro, (.int .i64)), (.ro, (.int .i64))], [(false, (.int .i64))]⟩
  | 230 => ⟨[(.ps, (.pair (.sl (.int .u8)) (.pair (.int .i64) (.int .u64)))), (.ro, (.int .i64))], [(false, .bool)]⟩
  | 274 => ⟨[(.ro, (.int .i64)), (.ro, (.int .i64))], [(false, (.int .i64))]⟩
  | 328 => ⟨[(.ps, (.pair (.sl (.int .u8)) (.pair (.int .i64) (.int .u64))))], [(true, (.sl (.int .i64)))]⟩
  | 329 => ⟨[(.ro, (.sl (.int .i64)))], [(false, .bool)]⟩
  | 330 => ⟨[(.ro, (.sl (.int .i64))), (.ro, (.int .i64))], [(false, (.int .i64))]⟩
  | 331 => ⟨[(.ro, (.sl (.int .i64)))], [(false, .bool)]⟩
  | 332 => ⟨[(.ro, (.pair (.int .i64) (.pair (.int .i64) (.pair (.int .i64) (.pair .bool (.pair (.int .i64) (.int .i64))))))), (.ro, (.sl (.int .i64))), (.ro, (.int .i64))], [(true, (.sl (.int .i64))), (false, .bool)]⟩
  | 333 => ⟨[(.ro, (.sl (.int .i64)))], [(true, (.sl (.int .i64)))]⟩
  | 334 => ⟨[(.ro, (.int .i64))], [(false, (.int .i64))]⟩
  | 352 => ⟨[(.ps, (.pair (.sl (.int .u8)) (.pair (.int .i64) (.int .u64))))], [(false, (.int .i64))]⟩
  | _ => ⟨[], []⟩
def pvLoops : FuncId → Nat → LoopA
  | 12, 0 => ⟨[(4, false, .bool), (123, false, (.int .i64))], [], [], []⟩
  | 12, 1 => ⟨[(4, false, .bool), (25, false, (.int .i64)), (26, false, (.int .i64)), (134, false, (.int .i64))], [], [], []⟩
  | 46, 0 => ⟨[(4, false, .bool), (13, false, (.int .i64))], [], [], []⟩
  | 158, 0 => ⟨[(6, true, (.sl (.int .i64))), (7, false, .bool), (8, true, (.sl (.int .i64))), (9, false, (.int .i64))], [(3, (.pair (.int .i64) (.pair (.int .i64) (.pair (.int .i64) (.pair .bool (.pair (.int .i64) (.int .i64)))))))], [], []⟩
  | 158, 1 => ⟨[(6, true, (.sl (.int .i64))), (7, false, .bool), (8, true, (.sl (.int .i64)))], [(3, (.pair (.int .i64) (.pair (.int .i64) (.pair (.int .i64) (.pair .bool (.pair (.int .i64) (.int .i64)))))))], [], []⟩
  | 161, 0 => ⟨[(4, true, (.sl (.int .i64))), (5, false, .bool), (6, true, (.sl (.int .i64))), (22, false, (.int .i64))], [], [], []⟩
  | 162, 0 => ⟨[(4, true, (.sl (.int .i64))), (5, false, .bool), (6, true, (.sl (.int .i64))), (21, false, (.int .i64))], [], [], []⟩
  | 163, 0 => ⟨[(4, true, (.sl (.int .i64)))], [(3, (.pair (.sl (.int .u8)) (.pair (.int .i64) (.int .u64))))], [], []⟩
  | 164, 0 => ⟨[(4, false, (.int .i64)), (12, false, (.int .i64))], [], [], []⟩
  | 165, 0 => ⟨[(4, false, (.int .i64)), (12, false, (.int .i64))], [], [], []⟩
  | 212, 0 => ⟨[(3, false, (.int .i64)), (4, false, (.int .i64))], [], [], []⟩
  | 220, 0 => ⟨[(0, false, (.int .i64)), (1, false, (.int .i64))], [], [], []⟩
  | 328, 0 => ⟨[(3, true, (.sl (.int .i64))), (4, false, (.int .i64))], [(0, (.pair (.sl (.int .u8)) (.pair (.int .i64) (.int .u64))))], [], []⟩
  | 329, 0 => ⟨[(2, false, .bool), (7, false, (.int .i64))], [], [], []⟩
  | 330, 0 => ⟨[(5, false, (.int .i64))], [], [], []⟩
  | 331, 0 => ⟨[(2, false, .bool), (7, false, (.int .i64))], [], [], []⟩
  | 332, 0 => ⟨[(6, true, (.sl (.int .i64))), (7, false, .bool), (8, true, (.sl (.int .i64))), (9, false, (.int .i64))], [(3, (.pair (.int .i64) (.pair (.int .i64) (.pair (.int .i64) (.pair .bool (.pair (.int .i64) (.int .i64)))))))], [], []⟩
  | 332, 1 => ⟨[(11, false, (.int .i64)), (12, false, (.int .i64))], [], [], []⟩
  | _, _ => ⟨[], [], [], []⟩
def pvEloops : FuncId → Nat → List (Nat × Value)
  | 12, 0 => [(4, (.bool false)), (6, (.slice none 0 0)), (7, (.int .i64 0)), (8, (.slice none 0 0)), (9, (.bool false)), (10, (.slice none 0 0)), (121, (.slice none 0 0)), (122, (.int .i64 0)), (123, (.int .i64 0))]
  | 12, 1 => [(4, (.bool false)), (6, (.slice none 0 0)), (7, (.int .i64 0)), (8, (.slice none 0 0)), (10, (.slice none 0 0)), (25, (.int .i64 0)), (26, (.int .i64 0)), (132, (.slice none 0 0)), (133, (.int .i64 0)), (134, (.int .i64 0))]
  | 46, 0 => [(0, (.slice none 0 0)), (1, (.slice none 0 0)), (4, (.bool false)), (12, (.int .i64 0)), (13, (.int .i64 0))]
  | 158, 0 => [(1, (.slice none 0 0)), (2, (.int .i64 0)), (3, (.pointer (some ⟨0, 0, none⟩))), (6, (.slice none 0 0)), (7, (.bool false)), (8, (.slice none 0 0)), (9, (.int .i64 0))]
  | 158, 1 => [(1, (.slice none 0 0)), (2, (.int .i64 0)), (3, (.pointer (some ⟨0, 0, none⟩))), (6, (.slice none 0 0)), (7, (.bool false)), (8, (.slice none 0 0)), (9, (.int .i64 0)), (10, (.int .i64 0)), (11, (.int .i64 0)), (33, (.slice none 0 0)), (34, (.int .i64 0)), (35, (.slice none 0 0)), (36, (.int .i64 0)), (37, (.bool false)), (38, (.int .i64 0)), (39, (.slice none 0 0)), (40, (.slice none 0 0)), (41, (.int .i64 0)), (42, (.pointer (some ⟨0, 0, none⟩))), (43, (.int .i64 0)), (44, (.int .i64 0)), (45, (.int .i64 0)), (46, (.int .i64 0)), (47, (.int .i64 0)), (48, (.int .i64 0)), (49, (.int .i64 0)), (50, (.int .i64 0)), (51, (.int .i64 0)), (52, (.int .i64 0)), (53, (.int .i64 0)), (54, (.int .i64 0)), (55, (.slice none 0 0)), (56, (.int .i64 0)), (57, (.int .i64 0))]
  | 161, 0 => [(0, (.slice none 0 0)), (4, (.slice none 0 0)), (5, (.bool false)), (6, (.slice none 0 0)), (20, (.slice none 0 0)), (21, (.int .i64 0)), (22, (.int .i64 0))]
  | 162, 0 => [(0, (.slice none 0 0)), (4, (.slice none 0 0)), (5, (.bool false)), (6, (.slice none 0 0)), (19, (.slice none 0 0)), (20, (.int .i64 0)), (21, (.int .i64 0))]
  | 163, 0 => [(2, (.slice none 0 0)), (3, (.pointer (some ⟨0, 0, none⟩))), (4, (.slice none 0 0)), (5, (.int .i64 0))]
  | 164, 0 => [(2, (.int .i64 0)), (3, (.bool false)), (4, (.int .i64 0)), (10, (.slice none 0 0)), (11, (.int .i64 0)), (12, (.int .i64 0))]
  | 165, 0 => [(2, (.int .i64 0)), (3, (.bool false)), (4, (.int .i64 0)), (10, (.slice none 0 0)), (11, (.int .i64 0)), (12, (.int .i64 0))]
  | 212, 0 => [(0, (.int .i64 0)), (2, (.int .i64 0)), (3, (.int .i64 0)), (4, (.int .i64 0))]
  | 220, 0 => [(0, (.int .i64 0)), (1, (.int .i64 0)), (2, .nilFunc), (6, (.int .i64 0))]
  | 328, 0 => [(0, (.pointer (some ⟨0, 0, none⟩))), (2, (.slice none 0 0)), (3, (.slice none 0 0)), (4, (.int .i64 0)), (5, (.int .i64 0))]
  | 329, 0 => [(0, (.slice none 0 0)), (2, (.bool false)), (5, (.slice none 0 0)), (6, (.int .i64 0)), (7, (.int .i64 0))]
  | 330, 0 => [(0, (.slice none 0 0)), (1, (.int .i64 0)), (4, (.int .i64 0)), (5, (.int .i64 0))]
  | 331, 0 => [(0, (.slice none 0 0)), (2, (.bool false)), (5, (.slice none 0 0)), (6, (.int .i64 0)), (7, (.int .i64 0))]
  | 332, 0 => [(1, (.slice none 0 0)), (2, (.int .i64 0)), (3, (.pointer (some ⟨0, 0, none⟩))), (6, (.slice none 0 0)), (7, (.bool false)), (8, (.slice none 0 0)), (9, (.int .i64 0))]
  | 332, 1 => [(1, (.slice none 0 0)), (2, (.int .i64 0)), (3, (.pointer (some ⟨0, 0, none⟩))), (6, (.slice none 0 0)), (7, (.bool false)), (8, (.slice none 0 0)), (9, (.int .i64 0)), (10, (.int .i64 0)), (11, (.int .i64 0)), (12, (.int .i64 0)), (15, (.slice none 0 0)), (16, (.int .i64 0)), (17, (.slice none 0 0)), (18, (.int .i64 0)), (19, (.bool false)), (20, (.slice none 0 0)), (21, (.int .i64 0)), (22, (.slice none 0 0)), (23, (.int .i64 0)), (24, (.pointer (some ⟨0, 0, none⟩))), (25, (.int .i64 0)), (26, (.int .i64 0)), (27, (.bool false)), (39, (.int .i64 0)), (40, (.int .i64 0))]
  | _, _ => []
def pvInline : FuncId → Bool
  | 220 => true
  | 221 => true
  | 265 => true
  | 353 => true
  | _ => false
noncomputable def pvAnn : AnnV := ⟨fuelN, pvSig, pvLoops, pvEloops, pvInline⟩

/-- loop.example/g00838/laws.qInts -/
noncomputable def g46 (d : Nat) (l1 : List Int) (l2 : List Int) : Option Bool := (lev Try.prog pvAnn d).call 46 (l1, l2)
/-- (*loop.example/g00838/spec.l1Cur).next -/
noncomputable def g352 (d : Nat) (x1 : ((List Int) × Int × Int)) : Option (Int × ((List Int) × Int × Int)) := (lev Try.prog pvAnn d).call 352 (x1)
/-- (*loop.example/g00838/spec.l1Cur).pick -/
noncomputable def g203 (d : Nat) (x1 : ((List Int) × Int × Int)) (n2 : Int) : Option (Int × ((List Int) × Int × Int)) := (lev Try.prog pvAnn d).call 203 (x1, n2)
/-- (*loop.example/g00838/spec.l1Cur).among -/
noncomputable def g190 (d : Nat) (x1 : ((List Int) × Int × Int)) (l2 : List Int) : Option (Int × ((List Int) × Int × Int)) := (lev Try.prog pvAnn d).call 190 (x1, l2)
/-- (*loop.example/g00838/spec.l1Cur).one -/
noncomputable def g230 (d : Nat) (x1 : ((List Int) × Int × Int)) (n2 : Int) : Option (Bool × ((List Int) × Int × Int)) := (lev Try.prog pvAnn d).call 230 (x1, n2)
/-- (*loop.example/g00838/spec.l1Cur).delay -/
noncomputable def g202 (d : Nat) (x1 : ((List Int) × Int × Int)) : Option ((Int × Int × Int × Bool × Int × Int) × ((List Int) × Int × Int)) := (lev Try.prog pvAnn d).call 202 (x1)
/-- (*loop.example/g00838/spec.l1Cur).arriving -/
noncomputable def g328 (d : Nat) (x1 : ((List Int) × Int × Int)) : Option ((List Int) × ((List Int) × Int × Int)) := (lev Try.prog pvAnn d).call 328 (x1)
/-- loop.example/g00838/spec.DrawRunDelay -/
noncomputable def g157 (d : Nat) (l1 : List Int) : Option ((Int × Int × Int × Bool × Int × Int) × (List Int) × Int) := (lev Try.prog pvAnn d).call 157 (l1)
/-- loop.example/g00838/impl.isInterval -/
noncomputable def g213 (d : Nat) (n1 : Int) : Option Bool := (lev Try.prog pvAnn d).call 213 (n1)
/-- loop.example/g00838/impl.IsDelay -/
noncomputable def g47 (d : Nat) (x1 : (Int × Int × Int × Bool × Int × Int)) : Option Bool := (lev Try.prog pvAnn d).call 47 (x1)
/-- loop.example/g00838/impl.isTicks -/
noncomputable def g205 (d : Nat) (n1 : Int) : Option Bool := (lev Try.prog pvAnn d).call 205 (n1)
/-- loop.example/g00838/impl.rootOf -/
noncomputable def g210 (d : Nat) (n1 : Int) : Option Int := (lev Try.prog pvAnn d).call 210 (n1)
/-- loop.example/g00838/impl.gapAfter -/
noncomputable def g214 (d : Nat) (n1 : Int) (n2 : Int) : Option Int := (lev Try.prog pvAnn d).call 214 (n1, n2)
/-- (*loop.example/g00838/impl.Delay).step -/
noncomputable def g206 (d : Nat) (x1 : (Int × Int × Int × Bool × Int × Int)) (n2 : Int) (n3 : Int) (n4 : Int) : Option (Bool × (Int × Int × Int × Bool × Int × Int)) := (lev Try.prog pvAnn d).call 206 (x1, n2, n3, n4)
/-- loop.example/g00838/impl.DelayStep -/
noncomputable def g32 (d : Nat) (x1 : (Int × Int × Int × Bool × Int × Int)) (n2 : Int) (n3 : Int) (n4 : Int) : Option ((Int × Int × Int × Bool × Int × Int) × Bool × Bool) := (lev Try.prog pvAnn d).call 32 (x1, n2, n3, n4)
/-- loop.example/g00838/impl.areArrivals -/
noncomputable def g329 (d : Nat) (l1 : List Int) : Option Bool := (lev Try.prog pvAnn d).call 329 (l1)
/-- loop.example/g00838/impl.arrivedBy -/
noncomputable def g330 (d : Nat) (l1 : List Int) (n2 : Int) : Option Int := (lev Try.prog pvAnn d).call 330 (l1, n2)
/-- loop.example/g00838/impl.RunDelay -/
noncomputable def g158 (d : Nat) (x1 : (Int × Int × Int × Bool × Int × Int)) (l2 : List Int) (n3 : Int) : Option ((List Int) × Bool) := (lev Try.prog pvAnn d).call 158 (x1, l2, n3)
/-- loop.example/g00838/spec.l1In -/
noncomputable def g211 (d : Nat) (n1 : Int) (n2 : Int) (n3 : Int) : Option Bool := (lev Try.prog pvAnn d).call 211 (n1, n2, n3)
/-- loop.example/g00838/spec.cdInterval -/
noncomputable def g215 (d : Nat) (n1 : Int) : Option Bool := (lev Try.prog pvAnn d).call 215 (n1)
/-- loop.example/g00838/spec.cdGood -/
noncomputable def g207 (d : Nat) (x1 : (Int × Int × Int × Bool × Int × Int)) : Option Bool := (lev Try.prog pvAnn d).call 207 (x1)
/-- loop.example/g00838/spec.cdTick -/
noncomputable def g208 (d : Nat) (n1 : Int) : Option Bool := (lev Try.prog pvAnn d).call 208 (n1)
/-- loop.example/g00838/spec.cdArrivals -/
noncomputable def g331 (d : Nat) (l1 : List Int) : Option Bool := (lev Try.prog pvAnn d).call 331 (l1)
/-- loop.example/g00838/spec.l1Most -/
noncomputable def g204 (d : Nat) (n1 : Int) (n2 : Int) : Option Int := (lev Try.prog pvAnn d).call 204 (n1, n2)
/-- loop.example/g00838/spec.cdRoot -/
noncomputable def g212 (d : Nat) (n1 : Int) : Option Int := (lev Try.prog pvAnn d).call 212 (n1)
/-- loop.example/g00838/spec.cdGap -/
noncomputable def g216 (d : Nat) (n1 : Int) (n2 : Int) : Option Int := (lev Try.prog pvAnn d).call 216 (n1, n2)
/-- loop.example/g00838/spec.l1Least -/
noncomputable def g274 (d : Nat) (n1 : Int) (n2 : Int) : Option Int := (lev Try.prog pvAnn d).call 274 (n1, n2)
/-- loop.example/g00838/spec.cdStep -/
noncomputable def g209 (d : Nat) (x1 : (Int × Int × Int × Bool × Int × Int)) (n2 : Int) (n3 : Int) (n4 : Int) : Option ((Int × Int × Int × Bool × Int × Int) × Bool) := (lev Try.prog pvAnn d).call 209 (x1, n2, n3, n4)
/-- loop.example/g00838/spec.cdRun -/
noncomputable def g332 (d : Nat) (x1 : (Int × Int × Int × Bool × Int × Int)) (l2 : List Int) (n3 : Int) : Option ((List Int) × Bool) := (lev Try.prog pvAnn d).call 332 (x1, l2, n3)
/-- loop.example/g00838/spec.RunDelay -/
noncomputable def g159 (d : Nat) (x1 : (Int × Int × Int × Bool × Int × Int)) (l2 : List Int) (n3 : Int) : Option ((List Int) × Bool) := (lev Try.prog pvAnn d).call 159 (x1, l2, n3)
/-- loop.example/g00838/spec.l1Own -/
noncomputable def g333 (d : Nat) (l1 : List Int) : Option (List Int) := (lev Try.prog pvAnn d).call 333 (l1)
/-- loop.example/g00838/spec.DrawWaitsOfRun -/
noncomputable def g160 (d : Nat) (l1 : List Int) : Option ((List Int) × (List Int)) := (lev Try.prog pvAnn d).call 160 (l1)
/-- loop.example/g00838/impl.WaitsOfRun -/
noncomputable def g161 (d : Nat) (l1 : List Int) (l2 : List Int) : Option ((List Int) × Bool) := (lev Try.prog pvAnn d).call 161 (l1, l2)
/-- loop.example/g00838/spec.cdLeft -/
noncomputable def g334 (d : Nat) (n1 : Int) : Option Int := (lev Try.prog pvAnn d).call 334 (n1)
/-- loop.example/g00838/spec.WaitsOfRun -/
noncomputable def g162 (d : Nat) (l1 : List Int) (l2 : List Int) : Option ((List Int) × Bool) := (lev Try.prog pvAnn d).call 162 (l1, l2)
/-- loop.example/g00838/spec.DrawDropsIn -/
noncomputable def g163 (d : Nat) (l1 : List Int) : Option (List Int) := (lev Try.prog pvAnn d).call 163 (l1)
/-- loop.example/g00838/impl.DropsIn -/
noncomputable def g164 (d : Nat) (l1 : List Int) : Option (Int × Bool) := (lev Try.prog pvAnn d).call 164 (l1)
/-- loop.example/g00838/spec.DropsIn -/
noncomputable def g165 (d : Nat) (l1 : List Int) : Option (Int × Bool) := (lev Try.prog pvAnn d).call 165 (l1)
/-- loop.example/g00838/laws.FnDelayRuns -/
noncomputable def g12 (d : Nat) (l1 : List Int) (l2 : List Int) : Option Bool := (lev Try.prog pvAnn d).call 12 (l1, l2)

noncomputable def j46_0 (d : Nat)  (b4 : Bool) : Option Bool :=
 some true
noncomputable def l46_0_b (d : Nat) (l1 : List Int) (l2 : List Int) (kx46_0_0 : Bool → Option Bool) (ag3 : (Bool × Int) → Option Bool) (b4 : Bool) (n5 : Int) : Option Bool :=
 oif (decide ((n5 : Int) < ((l1.length : Nat) : Int))) (
 oif (decide (0 ≤ (n5 : Int))) (
 obind (l1[(n5 : Int).toNat]?) fun n6 =>
 oif (decide (0 ≤ (n5 : Int))) (
 obind (l2[(n5 : Int).toNat]?) fun n7 =>
 oif ((n6 : Int) != n7) (
 some false) (
 ag3 (b4, (IntKind.i64.wrap (n5 + 1))))) none) none) (
 kx46_0_0 b4)
noncomputable def l46_0 (d : Nat) (l1 : List Int) (l2 : List Int) (kx46_0_0 : Bool → Option Bool) (ag3 : (Bool × Int) → Option Bool) (s : (Bool × Int)) : Option Bool := l46_0_b d l1 l2 kx46_0_0 ag3 s.1 s.2
theorem e46 (d : Nat) (l1 : List Int) (l2 : List Int) : g46 (d + 1) l1 l2 =
 oif ((((l1.length : Nat) : Int) : Int) != ((l2.length : Nat) : Int)) (
 some false) (
 iterP (l46_0 d l1 l2 (j46_0 d)) fuelN (false, 0)) := by kernel_rfl

noncomputable def j352_0 (d : Nat) (x1 : ((List Int) × Int × Int)) (n2 : Int) : Option (Int × ((List Int) × Int × Int)) :=
 oif (decide (((IntKind.i64.wrap (x1.2.1 + 1)) : Int) ≤ ((x1.1.length : Nat) : Int))) (
 some (n2, (x1.1, (IntKind.i64.wrap (x1.2.1 + 1)), (IntKind.u64.wrap ((IntKind.u64.wrap ((IntKind.u64.wrap (x1.2.2 * 6364136223846793005)) + (IntKind.u64.wrap n2))) + 1442695040888963407))))) (
 some ((IntKind.i64.wrap (IntKind.u64.wrap ((BitVec.ofInt IntKind.u64.bits ((IntKind.u64.wrap ((IntKind.u64.wrap ((IntKind.u64.wrap (x1.2.2 * 6364136223846793005)) + (IntKind.u64.wrap n2))) + 1442695040888963407)).fdiv (2 ^ (min (40 : Int).toNat IntKind.u64.bits))) &&& BitVec.ofInt IntKind.u64.bits 255).toNat : Int))), (x1.1, (IntKind.i64.wrap (x1.2.1 + 1)), (IntKind.u64.wrap ((IntKind.u64.wrap ((IntKind.u64.wrap (x1.2.2 * 6364136223846793005)) + (IntKind.u64.wrap n2))) + 1442695040888963407)))))
theorem e352 (d : Nat) (x1 : ((List Int) × Int × Int)) : g352 (d + 1) x1 =
 oif (decide ((x1.2.1 : Int) < ((x1.1.length : Nat) : Int))) (
 oif (decide (0 ≤ (x1.2.1 : Int))) (
 obind (x1.1[(x1.2.1 : Int).toNat]?) fun n2 =>
 j352_0 d x1 (IntKind.i64.wrap n2)) none) (
 j352_0 d x1 0) := by kernel_rfl

theorem e203 (d : Nat) (x1 : ((List Int) × Int × Int)) (n2 : Int) : g203 (d + 1) x1 n2 =
 oif (decide ((n2 : Int) ≤ 1)) (
 some (0, x1)) (
 obind (g352 d x1) fun r3 =>
 oif (decide ((n2 : Int) > 200)) (
 obind (g352 d r3.2) fun r4 =>
 oif ((n2 : Int) == 0) none (
 some (((IntKind.i64.wrap ((IntKind.i64.wrap (r3.1 * 256)) + r4.1)).tmod n2), r4.2))) (
 oif ((n2 : Int) == 0) none (
 some ((r3.1.tmod n2), r3.2)))) := by kernel_rfl

theorem e190 (d : Nat) (x1 : ((List Int) × Int × Int)) (l2 : List Int) : g190 (d + 1) x1 l2 =
 obind (g203 d x1 ((l2.length : Nat) : Int)) fun r3 =>
 oif (decide (0 ≤ (r3.1 : Int))) (
 obind (l2[(r3.1 : Int).toNat]?) fun n4 =>
 some (n4, r3.2)) none := by kernel_rfl

theorem e230 (d : Nat) (x1 : ((List Int) × Int × Int)) (n2 : Int) : g230 (d + 1) x1 n2 =
 obind (g203 d x1 n2) fun r3 =>
 some (((r3.1 : Int) == 0), r3.2) := by kernel_rfl

noncomputable def j202_0 (d : Nat) (r2 : (Int × ((List Int) × Int × Int))) (r3 : (Int × ((List Int) × Int × Int))) (l5 : List Int) (n6 : Int) (n7 : Int) (n8 : Int) (b9 : Bool) (n10 : Int) (n11 : Int) : Option ((Int × Int × Int × Bool × Int × Int) × ((List Int) × Int × Int)) :=
 obind (g203 d (l5, n6, n7) 30) fun r12 =>
 oif ((r12.1 : Int) == 0) (
 obind (g190 d r12.2 [0, 10000, 10001]) fun r13 =>
 some ((r13.1, r3.1, n8, b9, n10, n11), r13.2)) (
 oif ((r12.1 : Int) == 1) (
 obind (g190 d r12.2 [0, 10000, 10001]) fun r14 =>
 some ((r2.1, r14.1, n8, b9, n10, n11), r14.2)) (
 oif ((r12.1 : Int) == 2) (
 obind (g190 d r12.2 [(-2), 110000, 110001]) fun r15 =>
 some ((r2.1, r3.1, r15.1, b9, n10, n11), r15.2)) (
 oif ((r12.1 : Int) == 3) (
 obind (g190 d r12.2 [(-1), 1001]) fun r16 =>
 some ((r2.1, r3.1, n8, b9, r16.1, n11), r16.2)) (
 oif ((r12.1 : Int) == 4) (
 obind (g190 d r12.2 [(-1), 199999, 200000, 200001]) fun r17 =>
 some ((r2.1, r3.1, n8, b9, n10, r17.1), r17.2)) (
 some ((r2.1, r3.1, n8, b9, n10, n11), r12.2))))))
theorem e202 (d : Nat) (x1 : ((List Int) × Int × Int)) : g202 (d + 1) x1 =
 obind (g190 d x1 [1, 2, 5, 20]) fun r2 =>
 obind (g190 d r2.2 [1, 4, 10, 100]) fun r3 =>
 obind (g230 d r3.2 2) fun r4 =>
 oif r4.1 (
 obind (g203 d r4.2 60) fun r5 =>
 obind (g230 d r5.2 2) fun r6 =>
 obind (g190 d r6.2 [0, 1, 2, 3, 4, 9, 999, 1000]) fun r7 =>
 obind (g203 d r7.2 90) fun r8 =>
 j202_0 d r2 r3 r8.2.1 r8.2.2.1 r8.2.2.2 r5.1 r6.1 r7.1 r8.1) (
 j202_0 d r2 r3 r4.2.1 r4.2.2.1 r4.2.2.2 (-1) false 0 0) := by kernel_rfl

noncomputable def j328_0 (d : Nat)  (l10 : List Int) (n11 : Int) (n12 : Int) (l13 : List Int) : Option ((List Int) × ((List Int) × Int × Int)) :=
 oif (decide ((((l13.length : Nat) : Int) : Int) > 0)) (
 obind (g203 d (l10, n11, n12) 24) fun r14 =>
 oif ((r14.1 : Int) == 0) (
 obind (g190 d r14.2 [(-1), 0, 99999, 100000, 100001]) fun r15 =>
 oif (decide (0 ≤ ((IntKind.i64.wrap (((l13.length : Nat) : Int) - 1)) : Int))) (
 oif (Nat.blt (((IntKind.i64.wrap (((l13.length : Nat) : Int) - 1)) : Int).toNat) l13.length) (
 obind (l13[((IntKind.i64.wrap (((l13.length : Nat) : Int) - 1)) : Int).toNat]?) fun n16 =>
 some ((l13.set (((IntKind.i64.wrap (((l13.length : Nat) : Int) - 1)) : Int).toNat) r15.1), r15.2)) none) none) (
 some (l13, r14.2))) (
 some (l13, (l10, n11, n12)))
noncomputable def l328_0_b (d : Nat) (n5 : Int) (kx328_0_0 : (List Int) → Int → Int → (List Int) → Option ((List Int) × ((List Int) × Int × Int))) (ag9 : ((List Int) × Int × ((List Int) × Int × Int)) → Option ((List Int) × ((List Int) × Int × Int))) (l10 : List Int) (n11 : Int) (x12 : ((List Int) × Int × Int)) : Option ((List Int) × ((List Int) × Int × Int)) :=
 oif (decide ((((l10.length : Nat) : Int) : Int) < n5)) (
 oif (Nat.ble ((l10.length + [n11].length) * 8) roomMax) (
 obind (g190 d x12 [0, 0, 0, 1, 1, 3]) fun r13 =>
 ag9 ((l10 ++ [n11]), (IntKind.i64.wrap (n11 + r13.1)), r13.2)) none) (
 kx328_0_0 x12.1 x12.2.1 x12.2.2 l10)
noncomputable def l328_0 (d : Nat) (n5 : Int) (kx328_0_0 : (List Int) → Int → Int → (List Int) → Option ((List Int) × ((List Int) × Int × Int))) (ag9 : ((List Int) × Int × ((List Int) × Int × Int)) → Option ((List Int) × ((List Int) × Int × Int))) (s : ((List Int) × Int × ((List Int) × Int × Int))) : Option ((List Int) × ((List Int) × Int × Int)) := l328_0_b d n5 kx328_0_0 ag9 s.1 s.2.1 s.2.2
noncomputable def j328_1 (d : Nat) (r2 : (Int × ((List Int) × Int × Int))) (n5 : Int) (l6 : List Int) (n7 : Int) (n8 : Int) : Option ((List Int) × ((List Int) × Int × Int)) :=
 iterP (l328_0 d n5 (j328_0 d)) fuelN ([], r2.1, (l6, n7, n8))
theorem e328 (d : Nat) (x1 : ((List Int) × Int × Int)) : g328 (d + 1) x1 =
 obind (g203 d x1 4) fun r2 =>
 obind (g203 d r2.2 20) fun r3 =>
 obind (g230 d r3.2 16) fun r4 =>
 oif r4.1 (
 obind (g203 d r4.2 2) fun r5 =>
 j328_1 d r2 (IntKind.i64.wrap ((40 : Int) + r5.1)) r5.2.1 r5.2.2.1 r5.2.2.2) (
 j328_1 d r2 r3.1 r4.2.1 r4.2.2.1 r4.2.2.2) := by kernel_rfl

theorem e157 (d : Nat) (l1 : List Int) : g157 (d + 1) l1 =
 obind (g202 d (l1, 0, 0)) fun r2 =>
 obind (g230 d r2.2 2) fun r3 =>
 oif r3.1 (
 obind (g203 d r3.2 3) fun r4 =>
 obind (g203 d r4.2 6) fun r5 =>
 obind (g328 d r5.2) fun r6 =>
 obind (g190 d r6.2 [1, 1, 2, 3, 7, 1000, 1001, 0]) fun r7 =>
 some (((IntKind.i64.wrap ((1 : Int) + r4.1)), (IntKind.i64.wrap ((1 : Int) + r5.1)), (-1), false, 0, 0), r6.1, r7.1)) (
 obind (g328 d r3.2) fun r8 =>
 obind (g190 d r8.2 [1, 1, 2, 3, 7, 1000, 1001, 0]) fun r9 =>
 some (r2.1, r8.1, r9.1)) := by kernel_rfl

theorem e213 (d : Nat) (n1 : Int) : g213 (d + 1) n1 =
 oif (decide ((n1 : Int) ≥ 1)) (
 some (decide ((n1 : Int) ≤ 10000))) (
 some false) := by kernel_rfl

theorem e47 (d : Nat) (x1 : (Int × Int × Int × Bool × Int × Int)) : g47 (d + 1) x1 =
 obind (g213 d x1.1) fun r2 =>
 oif r2 (
 obind (g213 d x1.2.1) fun r3 =>
 oif r3 (
 oif (decide ((x1.2.2.1 : Int) ≥ (-1))) (
 oif (decide ((x1.2.2.1 : Int) ≤ 110000)) (
 oif (decide ((x1.2.2.2.2.1 : Int) ≥ 0)) (
 oif (decide ((x1.2.2.2.2.1 : Int) ≤ 1000)) (
 oif (decide ((x1.2.2.2.2.2 : Int) ≥ 0)) (
 some (decide ((x1.2.2.2.2.2 : Int) ≤ 200000))) (
 some false)) (
 some false)) (
 some false)) (
 some false)) (
 some false)) (
 some false)) (
 some false) := by kernel_rfl

theorem e205 (d : Nat) (n1 : Int) : g205 (d + 1) n1 =
 oif (decide ((n1 : Int) ≥ 0)) (
 some (decide ((n1 : Int) ≤ 100000))) (
 some false) := by kernel_rfl

noncomputable def j210i220_0 (d : Nat)  (n3 : Int) : Option Int :=
 some (IntKind.i64.wrap (n3 - 1))
noncomputable def l210i220_0_b (d : Nat) (n1 : Int) (kx210i220_0_0 : Int → Option Int) (ag2 : (Int × Int) → Option Int) (n3 : Int) (n4 : Int) : Option Int :=
 oif (decide ((n3 : Int) ≤ n4)) (
 oif (decide (((IntKind.i64.wrap ((IntKind.i64.wrap ((IntKind.i64.wrap (n3 + n4)).tdiv 2)) * (IntKind.i64.wrap ((IntKind.i64.wrap (n3 + n4)).tdiv 2)))) : Int) > n1)) (
 ag2 (n3, (IntKind.i64.wrap ((IntKind.i64.wrap ((IntKind.i64.wrap (n3 + n4)).tdiv 2)) - 1)))) (
 ag2 ((IntKind.i64.wrap ((IntKind.i64.wrap ((IntKind.i64.wrap (n3 + n4)).tdiv 2)) + 1)), n4))) (
 kx210i220_0_0 n3)
noncomputable def l210i220_0 (d : Nat) (n1 : Int) (kx210i220_0_0 : Int → Option Int) (ag2 : (Int × Int) → Option Int) (s : (Int × Int)) : Option Int := l210i220_0_b d n1 kx210i220_0_0 ag2 s.1 s.2
theorem e210 (d : Nat) (n1 : Int) : g210 (d + 3) n1 =
 iterP (l210i220_0 d n1 (j210i220_0 d)) fuelN (0, 31623) := by kernel_rfl

theorem e214 (d : Nat) (n1 : Int) (n2 : Int) : g214 (d + 1) n1 n2 =
 obind (g210 d n2) fun r3 =>
 oif ((r3 : Int) == 0) none (
 some (if (IntKind.i64.wrap (n1.tdiv r3)) > 1 then (IntKind.i64.wrap (n1.tdiv r3)) else 1)) := by kernel_rfl

noncomputable def j206_0 (d : Nat) (x1 : (Int × Int × Int × Bool × Int × Int)) (n2 : Int) (n7 : Int) (b9 : Bool) : Option (Bool × (Int × Int × Int × Bool × Int × Int)) :=
 oif b9 (
 obind (g214 d x1.2.1 (IntKind.i64.wrap (x1.2.2.2.2.1 - 2))) fun r10 =>
 some (true, (x1.1, x1.2.1, n7, true, (IntKind.i64.wrap (x1.2.2.2.2.1 - 2)), (IntKind.i64.wrap (n2 + r10))))) (
 obind (g214 d x1.2.1 1) fun r11 =>
 some (true, (x1.1, x1.2.1, n7, true, 1, (IntKind.i64.wrap (n2 + r11)))))
noncomputable def j206_1 (d : Nat) (x1 : (Int × Int × Int × Bool × Int × Int)) (n2 : Int) (b6 : Bool) (n7 : Int) : Option (Bool × (Int × Int × Int × Bool × Int × Int)) :=
 oif (!b6) (
 some (false, (x1.1, x1.2.1, n7, false, x1.2.2.2.2))) (
 oif x1.2.2.2.1 (
 oif (decide ((n2 : Int) < x1.2.2.2.2.2)) (
 some (false, (x1.1, x1.2.1, n7, x1.2.2.2))) (
 obind (g214 d x1.2.1 (if (IntKind.i64.wrap (x1.2.2.2.2.1 + 1)) < 1000 then (IntKind.i64.wrap (x1.2.2.2.2.1 + 1)) else 1000)) fun r8 =>
 some (true, (x1.1, x1.2.1, n7, x1.2.2.2.1, (if (IntKind.i64.wrap (x1.2.2.2.2.1 + 1)) < 1000 then (IntKind.i64.wrap (x1.2.2.2.2.1 + 1)) else 1000), (IntKind.i64.wrap (x1.2.2.2.2.2 + r8)))))) (
 oif (decide (((IntKind.i64.wrap (x1.2.2.2.2.1 - 2)) : Int) ≥ 1)) (
 j206_0 d x1 n2 n7 (decide ((n2 : Int) < (IntKind.i64.wrap (x1.2.2.2.2.2 + (IntKind.i64.wrap ((8 : Int) * x1.2.1))))))) (
 j206_0 d x1 n2 n7 false)))
noncomputable def j206_2 (d : Nat) (x1 : (Int × Int × Int × Bool × Int × Int)) (n2 : Int) (b5 : Bool) (b6 : Bool) : Option (Bool × (Int × Int × Int × Bool × Int × Int)) :=
 oif (!b5) (
 j206_1 d x1 n2 b6 (-1)) (
 oif ((x1.2.2.1 : Int) == (-1)) (
 j206_1 d x1 n2 b6 (IntKind.i64.wrap (n2 + x1.2.1))) (
 j206_1 d x1 n2 b6 x1.2.2.1))
noncomputable def j206_3 (d : Nat) (x1 : (Int × Int × Int × Bool × Int × Int)) (n2 : Int) (b5 : Bool) : Option (Bool × (Int × Int × Int × Bool × Int × Int)) :=
 oif b5 (
 oif ((x1.2.2.1 : Int) != (-1)) (
 j206_2 d x1 n2 b5 (decide ((x1.2.2.1 : Int) ≤ n2))) (
 j206_2 d x1 n2 b5 false)) (
 j206_2 d x1 n2 b5 false)
theorem e206 (d : Nat) (x1 : (Int × Int × Int × Bool × Int × Int)) (n2 : Int) (n3 : Int) (n4 : Int) : g206 (d + 1) x1 n2 n3 n4 =
 oif (decide ((n3 : Int) ≥ x1.1)) (
 j206_3 d x1 n2 (decide ((n4 : Int) ≥ 1))) (
 j206_3 d x1 n2 false) := by kernel_rfl

noncomputable def j32_0 (d : Nat) (x1 : (Int × Int × Int × Bool × Int × Int)) (n2 : Int) (n3 : Int) (n4 : Int) (b5 : Bool) : Option ((Int × Int × Int × Bool × Int × Int) × Bool × Bool) :=
 oif b5 (
 some ((0, 0, 0, false, 0, 0), false, false)) (
 obind (g206 d x1 n2 n3 n4) fun r6 =>
 obind (g47 d r6.2) fun r7 =>
 oif (!r7) (
 some ((0, 0, 0, false, 0, 0), false, false)) (
 some (r6.2, r6.1, true)))
theorem e32 (d : Nat) (x1 : (Int × Int × Int × Bool × Int × Int)) (n2 : Int) (n3 : Int) (n4 : Int) : g32 (d + 1) x1 n2 n3 n4 =
 obind (g47 d x1) fun r5 =>
 oif (!r5) (
 j32_0 d x1 n2 n3 n4 true) (
 obind (g205 d n2) fun r6 =>
 oif (!r6) (
 j32_0 d x1 n2 n3 n4 true) (
 obind (g205 d n3) fun r7 =>
 oif (!r7) (
 j32_0 d x1 n2 n3 n4 true) (
 obind (g205 d n4) fun r8 =>
 j32_0 d x1 n2 n3 n4 (!r8)))) := by kernel_rfl

noncomputable def j329_0 (d : Nat) (l1 : List Int) (b3 : Bool) : Option Bool :=
 some (decide ((((l1.length : Nat) : Int) : Int) ≤ 40))
noncomputable def l329_0_b (d : Nat) (l1 : List Int) (kx329_0_0 : Bool → Option Bool) (ag2 : (Bool × Int) → Option Bool) (b3 : Bool) (n4 : Int) : Option Bool :=
 oif (decide ((n4 : Int) < ((l1.length : Nat) : Int))) (
 oif (decide (0 ≤ (n4 : Int))) (
 obind (l1[(n4 : Int).toNat]?) fun n5 =>
 obind (g205 d n5) fun r6 =>
 oif (!r6) (
 some false) (
 oif (decide ((n4 : Int) > 0)) (
 oif (decide (0 ≤ ((IntKind.i64.wrap (n4 - 1)) : Int))) (
 obind (l1[((IntKind.i64.wrap (n4 - 1)) : Int).toNat]?) fun n7 =>
 oif (decide ((n5 : Int) < n7)) (
 some false) (
 ag2 (b3, (IntKind.i64.wrap (n4 + 1))))) none) (
 ag2 (b3, (IntKind.i64.wrap (n4 + 1)))))) none) (
 kx329_0_0 b3)
noncomputable def l329_0 (d : Nat) (l1 : List Int) (kx329_0_0 : Bool → Option Bool) (ag2 : (Bool × Int) → Option Bool) (s : (Bool × Int)) : Option Bool := l329_0_b d l1 kx329_0_0 ag2 s.1 s.2
theorem e329 (d : Nat) (l1 : List Int) : g329 (d + 1) l1 =
 iterP (l329_0 d l1 (j329_0 d l1)) fuelN (false, 0) := by kernel_rfl

noncomputable def j330_0 (d : Nat)  (n4 : Int) : Option Int :=
 some n4
noncomputable def l330_0_b (d : Nat) (l1 : List Int) (n2 : Int) (kx330_0_0 : Int → Option Int) (ag3 : Int → Option Int) (n4 : Int) : Option Int :=
 oif (decide ((n4 : Int) < ((l1.length : Nat) : Int))) (
 oif (decide (0 ≤ (n4 : Int))) (
 obind (l1[(n4 : Int).toNat]?) fun n5 =>
 oif (decide ((n5 : Int) ≤ n2)) (
 ag3 (IntKind.i64.wrap (n4 + 1))) (
 kx330_0_0 n4)) none) (
 kx330_0_0 n4)
noncomputable def l330_0 (d : Nat) (l1 : List Int) (n2 : Int) (kx330_0_0 : Int → Option Int) (ag3 : Int → Option Int) (s : Int) : Option Int := l330_0_b d l1 n2 kx330_0_0 ag3 s
theorem e330 (d : Nat) (l1 : List Int) (n2 : Int) : g330 (d + 1) l1 n2 =
 iterP (l330_0 d l1 n2 (j330_0 d)) fuelN 0 := by kernel_rfl

noncomputable def j158_0 (d : Nat)  (b6 : Bool) (l7 : List Int) (l8 : List Int) (n9 : Int) (n10 : Int) (n11 : Int) (b12 : Bool) (n13 : Int) (n14 : Int) : Option ((List Int) × Bool) :=
 some (l8, true)
noncomputable def l158_1_b (d : Nat) (l2 : List Int) (n3 : Int) (ag5 : ((List Int) × Bool × (List Int) × Int × (Int × Int × Int × Bool × Int × Int)) → Option ((List Int) × Bool)) (n9 : Int) (n11 : Int) (r12 : Int)  (ag13 : ((List Int) × Bool × (List Int) × (Int × Int × Int × Bool × Int × Int)) → Option ((List Int) × Bool)) (l14 : List Int) (b15 : Bool) (l16 : List Int) (x17 : (Int × Int × Int × Bool × Int × Int)) : Option ((List Int) × Bool) :=
 oif (decide ((((l16.length : Nat) : Int) : Int) < r12)) (
 oif (decide (0 ≤ (((l16.length : Nat) : Int) : Int))) (
 obind (l2[(((l16.length : Nat) : Int) : Int).toNat]?) fun n18 =>
 obind (g32 d x17 (if (IntKind.i64.wrap ((IntKind.i64.wrap ((IntKind.i64.wrap ((IntKind.i64.wrap (n11 + n3)) - 1)).tdiv n3)) * n3)) > n9 then (IntKind.i64.wrap ((IntKind.i64.wrap ((IntKind.i64.wrap ((IntKind.i64.wrap (n11 + n3)) - 1)).tdiv n3)) * n3)) else n9) (IntKind.i64.wrap ((if (IntKind.i64.wrap ((IntKind.i64.wrap ((IntKind.i64.wrap ((IntKind.i64.wrap (n11 + n3)) - 1)).tdiv n3)) * n3)) > n9 then (IntKind.i64.wrap ((IntKind.i64.wrap ((IntKind.i64.wrap ((IntKind.i64.wrap (n11 + n3)) - 1)).tdiv n3)) * n3)) else n9) - n18)) (IntKind.i64.wrap ((IntKind.i64.wrap (r12 - ((l16.length : Nat) : Int))) - 1))) fun r19 =>
 oif (!r19.2.2) (
 some ([], false)) (
 oif (!r19.2.1) (
 oif (Nat.ble ((l16.length + [(if (IntKind.i64.wrap ((IntKind.i64.wrap ((IntKind.i64.wrap ((IntKind.i64.wrap (n11 + n3)) - 1)).tdiv n3)) * n3)) > n9 then (IntKind.i64.wrap ((IntKind.i64.wrap ((IntKind.i64.wrap ((IntKind.i64.wrap (n11 + n3)) - 1)).tdiv n3)) * n3)) else n9)].length) * 8) roomMax) (
 ag5 (l14, b15, (l16 ++ [(if (IntKind.i64.wrap ((IntKind.i64.wrap ((IntKind.i64.wrap ((IntKind.i64.wrap (n11 + n3)) - 1)).tdiv n3)) * n3)) > n9 then (IntKind.i64.wrap ((IntKind.i64.wrap ((IntKind.i64.wrap ((IntKind.i64.wrap (n11 + n3)) - 1)).tdiv n3)) * n3)) else n9)]), (IntKind.i64.wrap ((if (IntKind.i64.wrap ((IntKind.i64.wrap ((IntKind.i64.wrap ((IntKind.i64.wrap (n11 + n3)) - 1)).tdiv n3)) * n3)) > n9 then (IntKind.i64.wrap ((IntKind.i64.wrap ((IntKind.i64.wrap ((IntKind.i64.wrap (n11 + n3)) - 1)).tdiv n3)) * n3)) else n9) + n3)), r19.1)) none) (
 oif (Nat.ble ((l16.length + [(IntKind.i64.wrap ((-1) - (if (IntKind.i64.wrap ((IntKind.i64.wrap ((IntKind.i64.wrap ((IntKind.i64.wrap (n11 + n3)) - 1)).tdiv n3)) * n3)) > n9 then (IntKind.i64.wrap ((IntKind.i64.wrap ((IntKind.i64.wrap ((IntKind.i64.wrap (n11 + n3)) - 1)).tdiv n3)) * n3)) else n9)))].length) * 8) roomMax) (
 ag13 (l14, b15, (l16 ++ [(IntKind.i64.wrap ((-1) - (if (IntKind.i64.wrap ((IntKind.i64.wrap ((IntKind.i64.wrap ((IntKind.i64.wrap (n11 + n3)) - 1)).tdiv n3)) * n3)) > n9 then (IntKind.i64.wrap ((IntKind.i64.wrap ((IntKind.i64.wrap ((IntKind.i64.wrap (n11 + n3)) - 1)).tdiv n3)) * n3)) else n9)))]), r19.1)) none))) none) (
 ag5 (l14, b15, l16, (IntKind.i64.wrap ((if (IntKind.i64.wrap ((IntKind.i64.wrap ((IntKind.i64.wrap ((IntKind.i64.wrap (n11 + n3)) - 1)).tdiv n3)) * n3)) > n9 then (IntKind.i64.wrap ((IntKind.i64.wrap ((IntKind.i64.wrap ((IntKind.i64.wrap (n11 + n3)) - 1)).tdiv n3)) * n3)) else n9) + n3)), x17))
noncomputable def l158_1 (d : Nat) (l2 : List Int) (n3 : Int) (ag5 : ((List Int) × Bool × (List Int) × Int × (Int × Int × Int × Bool × Int × Int)) → Option ((List Int) × Bool)) (n9 : Int) (n11 : Int) (r12 : Int)  (ag13 : ((List Int) × Bool × (List Int) × (Int × Int × Int × Bool × Int × Int)) → Option ((List Int) × Bool)) (s : ((List Int) × Bool × (List Int) × (Int × Int × Int × Bool × Int × Int))) : Option ((List Int) × Bool) := l158_1_b d l2 n3 ag5 n9 n11 r12 ag13 s.1 s.2.1 s.2.2.1 s.2.2.2
noncomputable def l158_0_b (d : Nat) (l2 : List Int) (n3 : Int) (kx158_0_0 : Bool → (List Int) → (List Int) → Int → Int → Int → Bool → Int → Int → Option ((List Int) × Bool)) (ag5 : ((List Int) × Bool × (List Int) × Int × (Int × Int × Int × Bool × Int × Int)) → Option ((List Int) × Bool)) (l6 : List Int) (b7 : Bool) (l8 : List Int) (n9 : Int) (x10 : (Int × Int × Int × Bool × Int × Int)) : Option ((List Int) × Bool) :=
 oif (decide ((((l8.length : Nat) : Int) : Int) < ((l2.length : Nat) : Int))) (
 oif (decide (0 ≤ (((l8.length : Nat) : Int) : Int))) (
 obind (l2[(((l8.length : Nat) : Int) : Int).toNat]?) fun n11 =>
 oif ((n3 : Int) == 0) none (
 obind (g330 d l2 (if (IntKind.i64.wrap ((IntKind.i64.wrap ((IntKind.i64.wrap ((IntKind.i64.wrap (n11 + n3)) - 1)).tdiv n3)) * n3)) > n9 then (IntKind.i64.wrap ((IntKind.i64.wrap ((IntKind.i64.wrap ((IntKind.i64.wrap (n11 + n3)) - 1)).tdiv n3)) * n3)) else n9)) fun r12 =>
 iterP (l158_1 d l2 n3 ag5 n9 n11 r12) fuelN (l6, b7, l8, x10))) none) (
 kx158_0_0 b7 l6 l8 x10.1 x10.2.1 x10.2.2.1 x10.2.2.2.1 x10.2.2.2.2.1 x10.2.2.2.2.2)
noncomputable def l158_0 (d : Nat) (l2 : List Int) (n3 : Int) (kx158_0_0 : Bool → (List Int) → (List Int) → Int → Int → Int → Bool → Int → Int → Option ((List Int) × Bool)) (ag5 : ((List Int) × Bool × (List Int) × Int × (Int × Int × Int × Bool × Int × Int)) → Option ((List Int) × Bool)) (s : ((List Int) × Bool × (List Int) × Int × (Int × Int × Int × Bool × Int × Int))) : Option ((List Int) × Bool) := l158_0_b d l2 n3 kx158_0_0 ag5 s.1 s.2.1 s.2.2.1 s.2.2.2.1 s.2.2.2.2
noncomputable def j158_1 (d : Nat) (x1 : (Int × Int × Int × Bool × Int × Int)) (l2 : List Int) (n3 : Int) (b4 : Bool) : Option ((List Int) × Bool) :=
 oif b4 (
 some ([], false)) (
 iterP (l158_0 d l2 n3 (j158_0 d)) fuelN ([], false, ([] : List Int), 0, x1))
theorem e158 (d : Nat) (x1 : (Int × Int × Int × Bool × Int × Int)) (l2 : List Int) (n3 : Int) : g158 (d + 1) x1 l2 n3 =
 obind (g47 d x1) fun r4 =>
 oif (!r4) (
 j158_1 d x1 l2 n3 true) (
 obind (g329 d l2) fun r5 =>
 oif (!r5) (
 j158_1 d x1 l2 n3 true) (
 oif (decide ((n3 : Int) < 1)) (
 j158_1 d x1 l2 n3 true) (
 j158_1 d x1 l2 n3 (decide ((n3 : Int) > 1000))))) := by kernel_rfl

theorem e211 (d : Nat) (n1 : Int) (n2 : Int) (n3 : Int) : g211 (d + 1) n1 n2 n3 =
 oif (decide ((n1 : Int) ≥ n2)) (
 some (decide ((n1 : Int) ≤ n3))) (
 some false) := by kernel_rfl

theorem e215 (d : Nat) (n1 : Int) : g215 (d + 1) n1 =
 obind (g211 d n1 1 10000) fun r2 =>
 some r2 := by kernel_rfl

theorem e207 (d : Nat) (x1 : (Int × Int × Int × Bool × Int × Int)) : g207 (d + 1) x1 =
 obind (g215 d x1.1) fun r2 =>
 oif r2 (
 obind (g215 d x1.2.1) fun r3 =>
 oif r3 (
 obind (g211 d x1.2.2.1 (-1) 110000) fun r4 =>
 oif r4 (
 obind (g211 d x1.2.2.2.2.1 0 1000) fun r5 =>
 oif r5 (
 obind (g211 d x1.2.2.2.2.2 0 200000) fun r6 =>
 some r6) (
 some false)) (
 some false)) (
 some false)) (
 some false) := by kernel_rfl

theorem e208 (d : Nat) (n1 : Int) : g208 (d + 1) n1 =
 obind (g211 d n1 0 100000) fun r2 =>
 some r2 := by kernel_rfl

noncomputable def j331_0 (d : Nat) (l1 : List Int) (b3 : Bool) : Option Bool :=
 some (decide ((((l1.length : Nat) : Int) : Int) ≤ 40))
noncomputable def l331_0_b (d : Nat) (l1 : List Int) (kx331_0_0 : Bool → Option Bool) (ag2 : (Bool × Int) → Option Bool) (b3 : Bool) (n4 : Int) : Option Bool :=
 oif (decide ((n4 : Int) < ((l1.length : Nat) : Int))) (
 oif (decide (0 ≤ (n4 : Int))) (
 obind (l1[(n4 : Int).toNat]?) fun n5 =>
 obind (g208 d n5) fun r6 =>
 oif (!r6) (
 some false) (
 oif (decide ((n4 : Int) > 0)) (
 oif (decide (0 ≤ ((IntKind.i64.wrap (n4 - 1)) : Int))) (
 obind (l1[((IntKind.i64.wrap (n4 - 1)) : Int).toNat]?) fun n7 =>
 oif (decide ((n7 : Int) > n5)) (
 some false) (
 ag2 (b3, (IntKind.i64.wrap (n4 + 1))))) none) (
 ag2 (b3, (IntKind.i64.wrap (n4 + 1)))))) none) (
 kx331_0_0 b3)
noncomputable def l331_0 (d : Nat) (l1 : List Int) (kx331_0_0 : Bool → Option Bool) (ag2 : (Bool × Int) → Option Bool) (s : (Bool × Int)) : Option Bool := l331_0_b d l1 kx331_0_0 ag2 s.1 s.2
theorem e331 (d : Nat) (l1 : List Int) : g331 (d + 1) l1 =
 iterP (l331_0 d l1 (j331_0 d l1)) fuelN (false, 0) := by kernel_rfl

theorem e204 (d : Nat) (n1 : Int) (n2 : Int) : g204 (d + 1) n1 n2 =
 oif (decide ((n1 : Int) > n2)) (
 some n1) (
 some n2) := by kernel_rfl

noncomputable def j212_0 (d : Nat)  (n3 : Int) : Option Int :=
 some n3
noncomputable def l212_0_b (d : Nat) (n1 : Int) (kx212_0_0 : Int → Option Int) (ag2 : (Int × Int) → Option Int) (n3 : Int) (n4 : Int) : Option Int :=
 oif (decide ((n4 : Int) > 0)) (
 oif (decide (((IntKind.i64.wrap ((IntKind.i64.wrap (n3 + n4)) * (IntKind.i64.wrap (n3 + n4)))) : Int) ≤ n1)) (
 ag2 ((IntKind.i64.wrap (n3 + n4)), (IntKind.i64.wrap (n4.tdiv 2)))) (
 ag2 (n3, (IntKind.i64.wrap (n4.tdiv 2))))) (
 kx212_0_0 n3)
noncomputable def l212_0 (d : Nat) (n1 : Int) (kx212_0_0 : Int → Option Int) (ag2 : (Int × Int) → Option Int) (s : (Int × Int)) : Option Int := l212_0_b d n1 kx212_0_0 ag2 s.1 s.2
theorem e212 (d : Nat) (n1 : Int) : g212 (d + 1) n1 =
 iterP (l212_0 d n1 (j212_0 d)) fuelN (0, 32768) := by kernel_rfl

theorem e216 (d : Nat) (n1 : Int) (n2 : Int) : g216 (d + 1) n1 n2 =
 obind (g212 d n2) fun r3 =>
 oif ((r3 : Int) == 0) none (
 obind (g204 d 1 (IntKind.i64.wrap (n1.tdiv r3))) fun r4 =>
 some r4) := by kernel_rfl

theorem e274 (d : Nat) (n1 : Int) (n2 : Int) : g274 (d + 1) n1 n2 =
 oif (decide ((n1 : Int) < n2)) (
 some n1) (
 some n2) := by kernel_rfl

noncomputable def j209_0 (d : Nat) (x1 : (Int × Int × Int × Bool × Int × Int)) (n2 : Int) (b6 : Bool) (n7 : Int) (b11 : Bool) : Option ((Int × Int × Int × Bool × Int × Int) × Bool) :=
 oif b11 (
 obind (g216 d x1.2.1 1) fun r12 =>
 some ((x1.1, x1.2.1, n7, true, 1, (IntKind.i64.wrap (n2 + r12))), b6)) (
 obind (g216 d x1.2.1 (IntKind.i64.wrap (x1.2.2.2.2.1 - 2))) fun r13 =>
 some ((x1.1, x1.2.1, n7, true, (IntKind.i64.wrap (x1.2.2.2.2.1 - 2)), (IntKind.i64.wrap (n2 + r13))), b6))
noncomputable def j209_1 (d : Nat) (x1 : (Int × Int × Int × Bool × Int × Int)) (n2 : Int) (b6 : Bool) (n7 : Int) (b8 : Bool) : Option ((Int × Int × Int × Bool × Int × Int) × Bool) :=
 oif b8 (
 some ((x1.1, x1.2.1, n7, x1.2.2.2), false)) (
 oif x1.2.2.2.1 (
 obind (g274 d 1000 (IntKind.i64.wrap (x1.2.2.2.2.1 + 1))) fun r9 =>
 obind (g216 d x1.2.1 r9) fun r10 =>
 some ((x1.1, x1.2.1, n7, x1.2.2.2.1, r9, (IntKind.i64.wrap (x1.2.2.2.2.2 + r10))), b6)) (
 oif (decide (((IntKind.i64.wrap (x1.2.2.2.2.1 - 2)) : Int) < 1)) (
 j209_0 d x1 n2 b6 n7 true) (
 j209_0 d x1 n2 b6 n7 (decide ((n2 : Int) ≥ (IntKind.i64.wrap (x1.2.2.2.2.2 + (IntKind.i64.wrap ((8 : Int) * x1.2.1)))))))))
noncomputable def j209_2 (d : Nat) (x1 : (Int × Int × Int × Bool × Int × Int)) (n2 : Int) (b6 : Bool) (n7 : Int) : Option ((Int × Int × Int × Bool × Int × Int) × Bool) :=
 oif (!b6) (
 some ((x1.1, x1.2.1, n7, false, x1.2.2.2.2), b6)) (
 oif x1.2.2.2.1 (
 j209_1 d x1 n2 b6 n7 (decide ((n2 : Int) < x1.2.2.2.2.2))) (
 j209_1 d x1 n2 b6 n7 false))
noncomputable def j209_3 (d : Nat) (x1 : (Int × Int × Int × Bool × Int × Int)) (n2 : Int) (b5 : Bool) (b6 : Bool) : Option ((Int × Int × Int × Bool × Int × Int) × Bool) :=
 oif (!b5) (
 j209_2 d x1 n2 b6 (-1)) (
 oif (decide ((x1.2.2.1 : Int) < 0)) (
 j209_2 d x1 n2 b6 (IntKind.i64.wrap (n2 + x1.2.1))) (
 j209_2 d x1 n2 b6 x1.2.2.1))
noncomputable def j209_4 (d : Nat) (x1 : (Int × Int × Int × Bool × Int × Int)) (n2 : Int) (b5 : Bool) : Option ((Int × Int × Int × Bool × Int × Int) × Bool) :=
 oif b5 (
 oif (decide ((x1.2.2.1 : Int) ≥ 0)) (
 j209_3 d x1 n2 b5 (decide ((x1.2.2.1 : Int) ≤ n2))) (
 j209_3 d x1 n2 b5 false)) (
 j209_3 d x1 n2 b5 false)
theorem e209 (d : Nat) (x1 : (Int × Int × Int × Bool × Int × Int)) (n2 : Int) (n3 : Int) (n4 : Int) : g209 (d + 1) x1 n2 n3 n4 =
 oif (decide ((n3 : Int) ≥ x1.1)) (
 j209_4 d x1 n2 (decide ((n4 : Int) ≥ 1))) (
 j209_4 d x1 n2 false) := by kernel_rfl

noncomputable def j332_0 (d : Nat)  (b5 : Bool) (l6 : List Int) (l7 : List Int) (n8 : Int) (n9 : Int) (n10 : Int) (b11 : Bool) (n12 : Int) (n13 : Int) : Option ((List Int) × Bool) :=
 some (l7, true)
noncomputable def j332_1 (d : Nat) (l2 : List Int) (n3 : Int) (ag4 : ((List Int) × Bool × (List Int) × Int × (Int × Int × Int × Bool × Int × Int)) → Option ((List Int) × Bool)) (l5 : List Int) (b6 : Bool) (l7 : List Int) (x9 : (Int × Int × Int × Bool × Int × Int)) (n11 : Int) (n14 : Int) (n15 : Int) (n16 : Int) (b17 : Bool) (b18 : Bool) : Option ((List Int) × Bool) :=
 obind (g208 d n11) fun r19 =>
 oif (!r19) (
 some ([], false)) (
 oif (decide (0 ≤ (((l7.length : Nat) : Int) : Int))) (
 obind (l2[(((l7.length : Nat) : Int) : Int).toNat]?) fun n20 =>
 obind (g209 d x9 n11 (IntKind.i64.wrap (n11 - n20)) n14) fun r21 =>
 obind (g207 d r21.1) fun r22 =>
 oif (!r22) (
 some ([], false)) (
 oif r21.2 (
 oif (Nat.ble ((l7.length + [(IntKind.i64.wrap ((-1) - n11))].length) * 8) roomMax) (
 ag4 (l5, b6, (l7 ++ [(IntKind.i64.wrap ((-1) - n11))]), n11, r21.1)) none) (
 oif (Nat.ble ((l7.length + [n11].length) * 8) roomMax) (
 ag4 (l5, b6, (l7 ++ [n11]), (IntKind.i64.wrap (n11 + n3)), r21.1)) none))) none)
noncomputable def l332_1_b (d : Nat) (l2 : List Int) (n11 : Int) (kx332_1_0 : Int → Int → Int → Bool → Bool → Option ((List Int) × Bool)) (ag13 : (Int × Int) → Option ((List Int) × Bool)) (n14 : Int) (n15 : Int) : Option ((List Int) × Bool) :=
 oif (decide ((n15 : Int) < ((l2.length : Nat) : Int))) (
 oif (decide (0 ≤ (n15 : Int))) (
 obind (l2[(n15 : Int).toNat]?) fun n16 =>
 oif (decide ((n16 : Int) ≤ n11)) (
 ag13 ((IntKind.i64.wrap (n14 + 1)), (IntKind.i64.wrap (n15 + 1)))) (
 kx332_1_0 n14 n15 n15 (decide ((n15 : Int) < ((l2.length : Nat) : Int))) true)) none) (
 kx332_1_0 n14 n15 n15 (decide ((n15 : Int) < ((l2.length : Nat) : Int))) false)
noncomputable def l332_1 (d : Nat) (l2 : List Int) (n11 : Int) (kx332_1_0 : Int → Int → Int → Bool → Bool → Option ((List Int) × Bool)) (ag13 : (Int × Int) → Option ((List Int) × Bool)) (s : (Int × Int)) : Option ((List Int) × Bool) := l332_1_b d l2 n11 kx332_1_0 ag13 s.1 s.2
noncomputable def j332_2 (d : Nat) (l2 : List Int) (n3 : Int) (ag4 : ((List Int) × Bool × (List Int) × Int × (Int × Int × Int × Bool × Int × Int)) → Option ((List Int) × Bool)) (l5 : List Int) (b6 : Bool) (l7 : List Int) (x9 : (Int × Int × Int × Bool × Int × Int)) (n11 : Int) (b12 : Bool) : Option ((List Int) × Bool) :=
 iterP (l332_1 d l2 n11 (j332_1 d l2 n3 ag4 l5 b6 l7 x9 n11)) fuelN (0, (IntKind.i64.wrap (((l7.length : Nat) : Int) + 1)))
noncomputable def l332_0_b (d : Nat) (l2 : List Int) (n3 : Int) (kx332_0_0 : Bool → (List Int) → (List Int) → Int → Int → Int → Bool → Int → Int → Option ((List Int) × Bool)) (ag4 : ((List Int) × Bool × (List Int) × Int × (Int × Int × Int × Bool × Int × Int)) → Option ((List Int) × Bool)) (l5 : List Int) (b6 : Bool) (l7 : List Int) (n8 : Int) (x9 : (Int × Int × Int × Bool × Int × Int)) : Option ((List Int) × Bool) :=
 oif (decide ((((l7.length : Nat) : Int) : Int) < ((l2.length : Nat) : Int))) (
 oif (decide (0 ≤ (((l7.length : Nat) : Int) : Int))) (
 obind (l2[(((l7.length : Nat) : Int) : Int).toNat]?) fun n10 =>
 oif (decide ((n10 : Int) > n8)) (
 oif (decide (0 ≤ (((l7.length : Nat) : Int) : Int))) (
 obind (l2[(((l7.length : Nat) : Int) : Int).toNat]?) fun n11 =>
 oif ((n3 : Int) == 0) none (
 j332_2 d l2 n3 ag4 l5 b6 l7 x9 (IntKind.i64.wrap ((IntKind.i64.wrap ((IntKind.i64.wrap ((IntKind.i64.wrap (n11 + n3)) - 1)).tdiv n3)) * n3)) true)) none) (
 j332_2 d l2 n3 ag4 l5 b6 l7 x9 n8 false)) none) (
 kx332_0_0 b6 l5 l7 x9.1 x9.2.1 x9.2.2.1 x9.2.2.2.1 x9.2.2.2.2.1 x9.2.2.2.2.2)
noncomputable def l332_0 (d : Nat) (l2 : List Int) (n3 : Int) (kx332_0_0 : Bool → (List Int) → (List Int) → Int → Int → Int → Bool → Int → Int → Option ((List Int) × Bool)) (ag4 : ((List Int) × Bool × (List Int) × Int × (Int × Int × Int × Bool × Int × Int)) → Option ((List Int) × Bool)) (s : ((List Int) × Bool × (List Int) × Int × (Int × Int × Int × Bool × Int × Int))) : Option ((List Int) × Bool) := l332_0_b d l2 n3 kx332_0_0 ag4 s.1 s.2.1 s.2.2.1 s.2.2.2.1 s.2.2.2.2
theorem e332 (d : Nat) (x1 : (Int × Int × Int × Bool × Int × Int)) (l2 : List Int) (n3 : Int) : g332 (d + 1) x1 l2 n3 =
 iterP (l332_0 d l2 n3 (j332_0 d)) fuelN ([], false, [], 0, x1) := by kernel_rfl

theorem e159 (d : Nat) (x1 : (Int × Int × Int × Bool × Int × Int)) (l2 : List Int) (n3 : Int) : g159 (d + 1) x1 l2 n3 =
 obind (g207 d x1) fun r4 =>
 oif (!r4) (
 some ([], false)) (
 obind (g331 d l2) fun r5 =>
 oif (!r5) (
 some ([], false)) (
 obind (g211 d n3 1 1000) fun r6 =>
 oif (!r6) (
 some ([], false)) (
 obind (g332 d x1 l2 n3) fun r7 =>
 some (r7.1, r7.2)))) := by kernel_rfl

theorem e333 (d : Nat) (l1 : List Int) : g333 (d + 1) l1 =
 oif (Nat.ble ((([] : List Int).length + l1.length) * 8) roomMax) (
 some (([] : List Int) ++ l1)) none := by kernel_rfl

noncomputable def j160_0 (d : Nat) (r2 : ((List Int) × ((List Int) × Int × Int))) (l8 : List Int) (b9 : Bool) (l10 : List Int) (n11 : Int) (n12 : Int) : Option ((List Int) × (List Int)) :=
 oif b9 (
 obind (g203 d (l10, n11, n12) ((l8.length : Nat) : Int)) fun r13 =>
 obind (g190 d r13.2 [(-1), 0, (-100001), (-100002), 100000, 100001]) fun r14 =>
 oif (decide (0 ≤ (r13.1 : Int))) (
 oif (Nat.blt ((r13.1 : Int).toNat) l8.length) (
 obind (l8[(r13.1 : Int).toNat]?) fun n15 =>
 some (r2.1, (l8.set ((r13.1 : Int).toNat) r14.1))) none) none) (
 some (r2.1, l8))
noncomputable def j160_1 (d : Nat) (r2 : ((List Int) × ((List Int) × Int × Int))) (l5 : List Int) (n6 : Int) (n7 : Int) (l8 : List Int) : Option ((List Int) × (List Int)) :=
 oif (decide ((((l8.length : Nat) : Int) : Int) > 0)) (
 obind (g230 d (l5, n6, n7) 4) fun r9 =>
 j160_0 d r2 l8 r9.1 r9.2.1 r9.2.2.1 r9.2.2.2) (
 j160_0 d r2 l8 false l5 n6 n7)
theorem e160 (d : Nat) (l1 : List Int) : g160 (d + 1) l1 =
 obind (g328 d (l1, 0, 0)) fun r2 =>
 obind (g333 d r2.1) fun r3 =>
 obind (g331 d r2.1) fun r4 =>
 oif r4 (
 obind (g203 d r2.2 3) fun r5 =>
 obind (g332 d (2, 3, (-1), false, 0, 0) r2.1 (IntKind.i64.wrap ((1 : Int) + r5.1))) fun r6 =>
 oif r6.2 (
 j160_1 d r2 r5.2.1 r5.2.2.1 r5.2.2.2 r6.1) (
 j160_1 d r2 r5.2.1 r5.2.2.1 r5.2.2.2 r3)) (
 j160_1 d r2 r2.2.1 r2.2.2.1 r2.2.2.2 r3) := by kernel_rfl

noncomputable def j161_0 (d : Nat)  (b5 : Bool) (l6 : List Int) (l7 : List Int) : Option ((List Int) × Bool) :=
 some (l7, true)
noncomputable def j161_1 (d : Nat) (l1 : List Int) (ag4 : ((List Int) × Bool × (List Int) × Int) → Option ((List Int) × Bool)) (l5 : List Int) (b6 : Bool) (l7 : List Int) (n8 : Int) (n10 : Int) (b12 : Bool) (b13 : Bool) (b14 : Bool) (b15 : Bool) : Option ((List Int) × Bool) :=
 oif b15 (
 some ([], false)) (
 oif (decide (0 ≤ (n8 : Int))) (
 obind (l1[(n8 : Int).toNat]?) fun n16 =>
 oif (Nat.ble ((l7.length + [(IntKind.i64.wrap (n10 - n16))].length) * 8) roomMax) (
 ag4 (l5, b6, (l7 ++ [(IntKind.i64.wrap (n10 - n16))]), (IntKind.i64.wrap (n8 + 1)))) none) none)
noncomputable def j161_2 (d : Nat) (l1 : List Int) (ag4 : ((List Int) × Bool × (List Int) × Int) → Option ((List Int) × Bool)) (l5 : List Int) (b6 : Bool) (l7 : List Int) (n8 : Int) (n10 : Int) (b11 : Bool) : Option ((List Int) × Bool) :=
 obind (g205 d n10) fun r12 =>
 oif (!r12) (
 j161_1 d l1 ag4 l5 b6 l7 n8 n10 r12 (!r12) true true) (
 oif (decide (0 ≤ (n8 : Int))) (
 obind (l1[(n8 : Int).toNat]?) fun n13 =>
 j161_1 d l1 ag4 l5 b6 l7 n8 n10 r12 (!r12) false (decide ((n10 : Int) < n13))) none)
noncomputable def l161_0_b (d : Nat) (l1 : List Int) (l2 : List Int) (kx161_0_0 : Bool → (List Int) → (List Int) → Option ((List Int) × Bool)) (ag4 : ((List Int) × Bool × (List Int) × Int) → Option ((List Int) × Bool)) (l5 : List Int) (b6 : Bool) (l7 : List Int) (n8 : Int) : Option ((List Int) × Bool) :=
 oif (decide ((n8 : Int) < ((l2.length : Nat) : Int))) (
 oif (decide (0 ≤ (n8 : Int))) (
 obind (l2[(n8 : Int).toNat]?) fun n9 =>
 oif (decide ((n9 : Int) < 0)) (
 j161_2 d l1 ag4 l5 b6 l7 n8 (IntKind.i64.wrap ((-1) - n9)) true) (
 j161_2 d l1 ag4 l5 b6 l7 n8 n9 false)) none) (
 kx161_0_0 b6 l5 l7)
noncomputable def l161_0 (d : Nat) (l1 : List Int) (l2 : List Int) (kx161_0_0 : Bool → (List Int) → (List Int) → Option ((List Int) × Bool)) (ag4 : ((List Int) × Bool × (List Int) × Int) → Option ((List Int) × Bool)) (s : ((List Int) × Bool × (List Int) × Int)) : Option ((List Int) × Bool) := l161_0_b d l1 l2 kx161_0_0 ag4 s.1 s.2.1 s.2.2.1 s.2.2.2
noncomputable def j161_3 (d : Nat) (l1 : List Int) (l2 : List Int) (b3 : Bool) : Option ((List Int) × Bool) :=
 oif b3 (
 some ([], false)) (
 iterP (l161_0 d l1 l2 (j161_0 d)) fuelN ([], false, ([] : List Int), 0))
theorem e161 (d : Nat) (l1 : List Int) (l2 : List Int) : g161 (d + 1) l1 l2 =
 obind (g329 d l1) fun r3 =>
 oif (!r3) (
 j161_3 d l1 l2 true) (
 j161_3 d l1 l2 ((((l2.length : Nat) : Int) : Int) != ((l1.length : Nat) : Int))) := by kernel_rfl

theorem e334 (d : Nat) (n1 : Int) : g334 (d + 1) n1 =
 oif (decide ((n1 : Int) < 0)) (
 some (IntKind.i64.wrap ((-1) - n1))) (
 some n1) := by kernel_rfl

noncomputable def j162_0 (d : Nat)  (b5 : Bool) (l6 : List Int) (l7 : List Int) : Option ((List Int) × Bool) :=
 some (l7, true)
noncomputable def j162_1 (d : Nat) (l1 : List Int) (ag4 : ((List Int) × Bool × (List Int) × Int) → Option ((List Int) × Bool)) (l5 : List Int) (b6 : Bool) (l7 : List Int) (n8 : Int) (n9 : Int) (b10 : Bool) (b11 : Bool) (b12 : Bool) (b13 : Bool) : Option ((List Int) × Bool) :=
 oif b13 (
 some ([], false)) (
 obind (g334 d n9) fun r14 =>
 oif (decide (0 ≤ (n8 : Int))) (
 obind (l1[(n8 : Int).toNat]?) fun n15 =>
 oif (Nat.ble ((l7.length + [(IntKind.i64.wrap (r14 - n15))].length) * 8) roomMax) (
 ag4 (l5, b6, (l7 ++ [(IntKind.i64.wrap (r14 - n15))]), (IntKind.i64.wrap (n8 + 1)))) none) none)
noncomputable def l162_0_b (d : Nat) (l1 : List Int) (l2 : List Int) (kx162_0_0 : Bool → (List Int) → (List Int) → Option ((List Int) × Bool)) (ag4 : ((List Int) × Bool × (List Int) × Int) → Option ((List Int) × Bool)) (l5 : List Int) (b6 : Bool) (l7 : List Int) (n8 : Int) : Option ((List Int) × Bool) :=
 oif (decide ((n8 : Int) < ((l2.length : Nat) : Int))) (
 oif (decide (0 ≤ (n8 : Int))) (
 obind (l2[(n8 : Int).toNat]?) fun n9 =>
 obind (g211 d n9 (-100001) 100000) fun r10 =>
 oif (!r10) (
 j162_1 d l1 ag4 l5 b6 l7 n8 n9 r10 (!r10) true true) (
 obind (g334 d n9) fun r11 =>
 oif (decide (0 ≤ (n8 : Int))) (
 obind (l1[(n8 : Int).toNat]?) fun n12 =>
 j162_1 d l1 ag4 l5 b6 l7 n8 n9 r10 (!r10) false (decide ((r11 : Int) < n12))) none)) none) (
 kx162_0_0 b6 l5 l7)
noncomputable def l162_0 (d : Nat) (l1 : List Int) (l2 : List Int) (kx162_0_0 : Bool → (List Int) → (List Int) → Option ((List Int) × Bool)) (ag4 : ((List Int) × Bool × (List Int) × Int) → Option ((List Int) × Bool)) (s : ((List Int) × Bool × (List Int) × Int)) : Option ((List Int) × Bool) := l162_0_b d l1 l2 kx162_0_0 ag4 s.1 s.2.1 s.2.2.1 s.2.2.2
noncomputable def j162_2 (d : Nat) (l1 : List Int) (l2 : List Int) (b3 : Bool) : Option ((List Int) × Bool) :=
 oif b3 (
 some ([], false)) (
 iterP (l162_0 d l1 l2 (j162_0 d)) fuelN ([], false, [], 0))
theorem e162 (d : Nat) (l1 : List Int) (l2 : List Int) : g162 (d + 1) l1 l2 =
 obind (g331 d l1) fun r3 =>
 oif (!r3) (
 j162_2 d l1 l2 true) (
 j162_2 d l1 l2 ((((l2.length : Nat) : Int) : Int) != ((l1.length : Nat) : Int))) := by kernel_rfl

noncomputable def j163_0 (d : Nat)  (l9 : List Int) (l10 : List Int) (n11 : Int) (n12 : Int) : Option (List Int) :=
 some l9
noncomputable def l163_0_b (d : Nat) (n4 : Int) (kx163_0_0 : (List Int) → (List Int) → Int → Int → Option (List Int)) (ag8 : ((List Int) × ((List Int) × Int × Int)) → Option (List Int)) (l9 : List Int) (x10 : ((List Int) × Int × Int)) : Option (List Int) :=
 oif (decide ((((l9.length : Nat) : Int) : Int) < n4)) (
 obind (g203 d x10 9) fun r11 =>
 oif (Nat.ble ((l9.length + [(IntKind.i64.wrap (r11.1 - 4))].length) * 8) roomMax) (
 ag8 ((l9 ++ [(IntKind.i64.wrap (r11.1 - 4))]), r11.2)) none) (
 kx163_0_0 l9 x10.1 x10.2.1 x10.2.2)
noncomputable def l163_0 (d : Nat) (n4 : Int) (kx163_0_0 : (List Int) → (List Int) → Int → Int → Option (List Int)) (ag8 : ((List Int) × ((List Int) × Int × Int)) → Option (List Int)) (s : ((List Int) × ((List Int) × Int × Int))) : Option (List Int) := l163_0_b d n4 kx163_0_0 ag8 s.1 s.2
noncomputable def j163_1 (d : Nat)  (n4 : Int) (l5 : List Int) (n6 : Int) (n7 : Int) : Option (List Int) :=
 iterP (l163_0 d n4 (j163_0 d)) fuelN ([], (l5, n6, n7))
theorem e163 (d : Nat) (l1 : List Int) : g163 (d + 1) l1 =
 obind (g203 d (l1, 0, 0) 9) fun r2 =>
 obind (g230 d r2.2 20) fun r3 =>
 oif r3.1 (
 obind (g203 d r3.2 2) fun r4 =>
 j163_1 d (IntKind.i64.wrap ((40 : Int) + r4.1)) r4.2.1 r4.2.2.1 r4.2.2.2) (
 j163_1 d r2.1 r3.2.1 r3.2.2.1 r3.2.2.2) := by kernel_rfl

noncomputable def j164_0 (d : Nat)  (n3 : Int) : Option (Int × Bool) :=
 some (n3, true)
noncomputable def l164_0_b (d : Nat) (l1 : List Int) (kx164_0_0 : Int → Option (Int × Bool)) (ag2 : (Int × Int) → Option (Int × Bool)) (n3 : Int) (n4 : Int) : Option (Int × Bool) :=
 oif (decide ((n4 : Int) < ((l1.length : Nat) : Int))) (
 oif (decide (0 ≤ (n4 : Int))) (
 obind (l1[(n4 : Int).toNat]?) fun n5 =>
 oif (decide ((n5 : Int) < 0)) (
 ag2 ((IntKind.i64.wrap (n3 + 1)), (IntKind.i64.wrap (n4 + 1)))) (
 ag2 (n3, (IntKind.i64.wrap (n4 + 1))))) none) (
 kx164_0_0 n3)
noncomputable def l164_0 (d : Nat) (l1 : List Int) (kx164_0_0 : Int → Option (Int × Bool)) (ag2 : (Int × Int) → Option (Int × Bool)) (s : (Int × Int)) : Option (Int × Bool) := l164_0_b d l1 kx164_0_0 ag2 s.1 s.2
theorem e164 (d : Nat) (l1 : List Int) : g164 (d + 1) l1 =
 oif (decide ((((l1.length : Nat) : Int) : Int) > 40)) (
 some (0, false)) (
 iterP (l164_0 d l1 (j164_0 d)) fuelN (0, 0)) := by kernel_rfl

noncomputable def j165_0 (d : Nat)  (n3 : Int) : Option (Int × Bool) :=
 some (n3, true)
noncomputable def l165_0_b (d : Nat) (l1 : List Int) (kx165_0_0 : Int → Option (Int × Bool)) (ag2 : (Int × Int) → Option (Int × Bool)) (n3 : Int) (n4 : Int) : Option (Int × Bool) :=
 oif (decide ((n4 : Int) < ((l1.length : Nat) : Int))) (
 oif (decide (0 ≤ (n4 : Int))) (
 obind (l1[(n4 : Int).toNat]?) fun n5 =>
 oif (decide ((n5 : Int) < 0)) (
 ag2 ((IntKind.i64.wrap (n3 + 1)), (IntKind.i64.wrap (n4 + 1)))) (
 ag2 (n3, (IntKind.i64.wrap (n4 + 1))))) none) (
 kx165_0_0 n3)
noncomputable def l165_0 (d : Nat) (l1 : List Int) (kx165_0_0 : Int → Option (Int × Bool)) (ag2 : (Int × Int) → Option (Int × Bool)) (s : (Int × Int)) : Option (Int × Bool) := l165_0_b d l1 kx165_0_0 ag2 s.1 s.2
theorem e165 (d : Nat) (l1 : List Int) : g165 (d + 1) l1 =
 oif (decide ((((l1.length : Nat) : Int) : Int) > 40)) (
 some (0, false)) (
 iterP (l165_0 d l1 (j165_0 d)) fuelN (0, 0)) := by kernel_rfl

noncomputable def j12_0 (d : Nat) (r3 : ((Int × Int × Int × Bool × Int × Int) × (List Int) × Int)) (r4 : ((List Int) × Bool)) (r5 : ((List Int) × Bool)) (b16 : Bool) : Option Bool :=
 obind (g161 d r3.2.1 r4.1) fun r17 =>
 obind (g164 d r4.1) fun r18 =>
 obind (g165 d r5.1) fun r19 =>
 oif r17.2 (
 oif r18.2 (
 oif r19.2 (
 oif ((r18.1 : Int) == r19.1) (
 oif ((((r17.1.length : Nat) : Int) : Int) == ((r3.2.1.length : Nat) : Int)) (
 some ((((r5.1.length : Nat) : Int) : Int) == ((r3.2.1.length : Nat) : Int))) (
 some false)) (
 some false)) (
 some false)) (
 some false)) (
 some false)
noncomputable def j12_1 (d : Nat) (ag15 : (Bool × Int × Int × Int) → Option Bool) (b16 : Bool) (n18 : Int) (n19 : Int) (n20 : Int) (n21 : Int) (n23 : Int) (b24 : Bool) (b25 : Bool) (b26 : Bool) (b27 : Bool) (b28 : Bool) (b29 : Bool) (b30 : Bool) : Option Bool :=
 oif b30 (
 some false) (
 oif (decide ((n20 : Int) ≥ 0)) (
 ag15 (b16, n21, n20, (IntKind.i64.wrap (n19 + 1)))) (
 ag15 (b16, n21, n18, (IntKind.i64.wrap (n19 + 1)))))
noncomputable def j12_2 (d : Nat) (r3 : ((Int × Int × Int × Bool × Int × Int) × (List Int) × Int)) (ag15 : (Bool × Int × Int × Int) → Option Bool) (b16 : Bool) (n17 : Int) (n18 : Int) (n19 : Int) (n20 : Int) (n21 : Int) (b22 : Bool) : Option Bool :=
 oif (decide (0 ≤ (n19 : Int))) (
 oif (Nat.blt ((n19 : Int).toNat) r3.2.1.length) (
 obind (r3.2.1[(n19 : Int).toNat]?) fun n23 =>
 oif (decide ((n21 : Int) < n23)) (
 j12_1 d ag15 b16 n18 n19 n20 n21 n23 (decide ((n21 : Int) < n23)) true true true true true true) (
 oif (decide ((n21 : Int) < n17)) (
 j12_1 d ag15 b16 n18 n19 n20 n21 n23 (decide ((n21 : Int) < n23)) false (decide ((n21 : Int) < n17)) true true true true) (
 oif ((r3.2.2 : Int) == 0) none (
 oif (((n21.tmod r3.2.2) : Int) != 0) (
 j12_1 d ag15 b16 n18 n19 n20 n21 n23 (decide ((n21 : Int) < n23)) false (decide ((n21 : Int) < n17)) false (((n21.tmod r3.2.2) : Int) != 0) true true) (
 oif (decide ((n20 : Int) ≥ 0)) (
 j12_1 d ag15 b16 n18 n19 n20 n21 n23 (decide ((n21 : Int) < n23)) false (decide ((n21 : Int) < n17)) false (((n21.tmod r3.2.2) : Int) != 0) false ((n20 : Int) == n18)) (
 j12_1 d ag15 b16 n18 n19 n20 n21 n23 (decide ((n21 : Int) < n23)) false (decide ((n21 : Int) < n17)) false (((n21.tmod r3.2.2) : Int) != 0) false false)))))) none) none
noncomputable def l12_1_b (d : Nat) (r3 : ((Int × Int × Int × Bool × Int × Int) × (List Int) × Int)) (r5 : ((List Int) × Bool)) (kx12_1_0 : Bool → Option Bool) (ag15 : (Bool × Int × Int × Int) → Option Bool) (b16 : Bool) (n17 : Int) (n18 : Int) (n19 : Int) : Option Bool :=
 oif (decide ((n19 : Int) < ((r5.1.length : Nat) : Int))) (
 oif (decide (0 ≤ (n19 : Int))) (
 oif (Nat.blt ((n19 : Int).toNat) r5.1.length) (
 obind (r5.1[(n19 : Int).toNat]?) fun n20 =>
 oif (decide ((n20 : Int) < 0)) (
 j12_2 d r3 ag15 b16 n17 n18 n19 n20 (IntKind.i64.wrap ((-1) - n20)) true) (
 j12_2 d r3 ag15 b16 n17 n18 n19 n20 n20 false)) none) none) (
 kx12_1_0 b16)
noncomputable def l12_1 (d : Nat) (r3 : ((Int × Int × Int × Bool × Int × Int) × (List Int) × Int)) (r5 : ((List Int) × Bool)) (kx12_1_0 : Bool → Option Bool) (ag15 : (Bool × Int × Int × Int) → Option Bool) (s : (Bool × Int × Int × Int)) : Option Bool := l12_1_b d r3 r5 kx12_1_0 ag15 s.1 s.2.1 s.2.2.1 s.2.2.2
noncomputable def j12_3 (d : Nat) (r3 : ((Int × Int × Int × Bool × Int × Int) × (List Int) × Int)) (r4 : ((List Int) × Bool)) (r5 : ((List Int) × Bool)) (b14 : Bool) : Option Bool :=
 oif (!r4.2) (
 some true) (
 iterP (l12_1 d r3 r5 (j12_0 d r3 r4 r5)) fuelN (b14, 0, (-1), 0))
noncomputable def l12_0_b (d : Nat) (r8 : ((List Int) × Bool)) (kx12_0_0 : Bool → Option Bool) (ag13 : (Bool × Int) → Option Bool) (b14 : Bool) (n15 : Int) : Option Bool :=
 oif (decide ((n15 : Int) < ((r8.1.length : Nat) : Int))) (
 oif (decide (0 ≤ (n15 : Int))) (
 oif (Nat.blt ((n15 : Int).toNat) r8.1.length) (
 obind (r8.1[(n15 : Int).toNat]?) fun n16 =>
 oif (decide ((n16 : Int) < 0)) (
 some false) (
 ag13 (b14, (IntKind.i64.wrap (n15 + 1))))) none) none) (
 kx12_0_0 b14)
noncomputable def l12_0 (d : Nat) (r8 : ((List Int) × Bool)) (kx12_0_0 : Bool → Option Bool) (ag13 : (Bool × Int) → Option Bool) (s : (Bool × Int)) : Option Bool := l12_0_b d r8 kx12_0_0 ag13 s.1 s.2
noncomputable def j12_4 (d : Nat) (r3 : ((Int × Int × Int × Bool × Int × Int) × (List Int) × Int)) (r4 : ((List Int) × Bool)) (r5 : ((List Int) × Bool)) (r8 : ((List Int) × Bool)) (b12 : Bool) : Option Bool :=
 oif b12 (
 some false) (
 iterP (l12_0 d r8 (j12_3 d r3 r4 r5)) fuelN (false, 0))
theorem e12 (d : Nat) (l1 : List Int) (l2 : List Int) : g12 (d + 1) l1 l2 =
 oif (decide (((IntKind.i64.wrap (((l1.length : Nat) : Int) + ((l2.length : Nat) : Int))) : Int) > 1048576)) (
 some true) (
 obind (g157 d l1) fun r3 =>
 obind (g158 d r3.1 r3.2.1 r3.2.2) fun r4 =>
 obind (g159 d r3.1 r3.2.1 r3.2.2) fun r5 =>
 obind (g160 d l2) fun r6 =>
 obind (g161 d r6.1 r6.2) fun r7 =>
 obind (g162 d r6.1 r6.2) fun r8 =>
 obind (g163 d l2) fun r9 =>
 obind (g164 d r9) fun r10 =>
 obind (g165 d r9) fun r11 =>
 oif (!(r4.2 == r5.2)) (
 j12_4 d r3 r4 r5 r8 true) (
 obind (g46 d r4.1 r5.1) fun r12 =>
 oif (!r12) (
 j12_4 d r3 r4 r5 r8 true) (
 oif (!(r7.2 == r8.2)) (
 j12_4 d r3 r4 r5 r8 true) (
 obind (g46 d r7.1 r8.1) fun r13 =>
 oif (!r13) (
 j12_4 d r3 r4 r5 r8 true) (
 oif (!(r10.2 == r11.2)) (
 j12_4 d r3 r4 r5 r8 true) (
 j12_4 d r3 r4 r5 r8 ((r10.1 : Int) != r11.1))))))) := by kernel_rfl

end Go.Proofs.Ytcoojpojnmnboaa
