/-
  The residual forms of the program's functions under the interpreter by value, printed by program (wip/pv/gen2.py); each equation is checked by the kernel.
  Conditions: none.
-/
import Derived.Test.YtkanolaeiaieaaaDoorVDef
import Derived.Test.YtkanolaeiaieaaaDoorProg
import Derived.Test.YtkanolaeiaieaaaDoorItoaW
import Derived.Test.YtkanolaeiaieaaaDoorJoinW
import Derived.KernelRfl
set_option linter.all false
set_option maxRecDepth 1000000
namespace Go.Proofs.YtkanolaeiaieaaaDoor
open Go.Ev Go.Pv

theorem fuel_is : ∃ n : Nat, n = 4194304 := ⟨_, rfl⟩
noncomputable def fuelN : Nat := Classical.choose fuel_is
theorem fuelN_eq : fuelN = 4194304 := Classical.choose_spec fuel_is
def pvSig : FuncId → Sig
  | 3 => ⟨[(.ro, (.sl (.int .u8))), (.ro, (.sl (.int .u8)))], [(false, .bool)]⟩
  | 7 => ⟨[(.ro, (.sl (.int .u8))), (.ro, (.sl (.int .u8)))], [(false, .bool)]⟩
  | 8 => ⟨[(.ro, (.sl (.int .u8)))], [(false, (.pair (.pair (.int .i64) (.pair (.int .i64) (.int .i64))) (.pair (.int .i64) (.pair (.int .i64) (.pair (.int .i64) (.os (.int .i64)))))))]⟩
  | 9 => ⟨[(.ro, (.pair (.pair (.int .i64) (.pair (.int .i64) (.int .i64))) (.pair (.int .i64) (.pair (.int .i64) (.pair (.int .i64) (.sl (.int .i64)))))))], [(false, (.int .i64)), (false, .bool)]⟩
  | 10 => ⟨[(.ro, (.pair (.pair (.int .i64) (.pair (.int .i64) (.int .i64))) (.pair (.int .i64) (.pair (.int .i64) (.pair (.int .i64) (.sl (.int .i64)))))))], [(false, (.int .i64)), (false, .bool)]⟩
  | 11 => ⟨[(.ro, (.pair (.pair (.int .i64) (.pair (.int .i64) (.int .i64))) (.pair (.int .i64) (.pair (.int .i64) (.pair (.int .i64) (.sl (.int .i64)))))))], [(false, .bool)]⟩
  | 12 => ⟨[(.ro, (.pair (.pair (.int .i64) (.pair (.int .i64) (.int .i64))) (.pair (.int .i64) (.pair (.int .i64) (.pair (.int .i64) (.sl (.int .i64)))))))], [(false, .bool)]⟩
  | 13 => ⟨[(.ro, (.pair (.pair (.int .i64) (.pair (.int .i64) (.int .i64))) (.pair (.int .i64) (.pair (.int .i64) (.pair (.int .i64) (.sl (.int .i64))))))), (.ro, (.int .i64))], [(false, (.int .i64)), (false, .bool)]⟩
  | 14 => ⟨[(.ro, (.pair (.pair (.int .i64) (.pair (.int .i64) (.int .i64))) (.pair (.int .i64) (.pair (.int .i64) (.pair (.int .i64) (.sl (.int .i64)))))))], [(false, (.pair (.pair (.int .i64) (.pair (.int .i64) (.int .i64))) (.pair (.int .i64) (.pair (.int .i64) (.pair (.int .i64) (.os (.int .i64))))))), (false, (.int .i64)), (false, .bool)]⟩
  | 15 => ⟨[(.ro, (.pair (.pair (.int .i64) (.pair (.int .i64) (.int .i64))) (.pair (.int .i64) (.pair (.int .i64) (.pair (.int .i64) (.sl (.int .i64)))))))], [(false, (.pair (.pair (.int .i64) (.pair (.int .i64) (.int .i64))) (.pair (.int .i64) (.pair (.int .i64) (.pair (.int .i64) (.os (.int .i64))))))), (false, (.int .i64)), (false, .bool)]⟩
  | 16 => ⟨[(.ro, (.pair (.pair (.int .i64) (.pair (.int .i64) (.int .i64))) (.pair (.int .i64) (.pair (.int .i64) (.pair (.int .i64) (.sl (.int .i64))))))), (.ro, (.pair (.pair (.int .i64) (.pair (.int .i64) (.int .i64))) (.pair (.int .i64) (.pair (.int .i64) (.pair (.int .i64) (.sl (.int .i64)))))))], [(false, .bool)]⟩
  | 17 => ⟨[(.ro, (.sl (.int .u8)))], [(false, (.pair (.pair (.int .i64) (.pair (.int .i64) (.int .i64))) (.pair (.int .i64) (.pair (.int .i64) (.pair (.int .i64) (.os (.int .i64))))))), (false, (.int .i64))]⟩
  | 18 => ⟨[(.ro, (.pair (.pair (.int .i64) (.pair (.int .i64) (.int .i64))) (.pair (.int .i64) (.pair (.int .i64) (.pair (.int .i64) (.sl (.int .i64))))))), (.ro, (.int .i64))], [(false, (.pair (.pair (.int .i64) (.pair (.int .i64) (.int .i64))) (.pair (.int .i64) (.pair (.int .i64) (.pair (.int .i64) (.os (.int .i64))))))), (false, .bool)]⟩
  | 19 => ⟨[(.ro, (.pair (.pair (.int .i64) (.pair (.int .i64) (.int .i64))) (.pair (.int .i64) (.pair (.int .i64) (.pair (.int .i64) (.sl (.int .i64))))))), (.ro, (.int .i64))], [(false, (.pair (.pair (.int .i64) (.pair (.int .i64) (.int .i64))) (.pair (.int .i64) (.pair (.int .i64) (.pair (.int .i64) (.os (.int .i64))))))), (false, .bool)]⟩
  | 20 => ⟨[(.ro, (.sl (.int .u8)))], [(false, (.pair (.pair (.int .i64) (.pair (.int .i64) (.int .i64))) (.pair (.int .i64) (.pair (.int .i64) (.pair (.int .i64) (.os (.int .i64))))))), (false, (.int .i64))]⟩
  | 21 => ⟨[(.ro, (.pair (.pair (.int .i64) (.pair (.int .i64) (.int .i64))) (.pair (.int .i64) (.pair (.int .i64) (.pair (.int .i64) (.sl (.int .i64))))))), (.ro, (.int .i64))], [(false, .bool), (false, .bool)]⟩
  | 22 => ⟨[(.ro, (.pair (.pair (.int .i64) (.pair (.int .i64) (.int .i64))) (.pair (.int .i64) (.pair (.int .i64) (.pair (.int .i64) (.sl (.int .i64))))))), (.ro, (.int .i64))], [(false, .bool), (false, .bool)]⟩
  | 23 => ⟨[(.ro, (.sl (.int .u8)))], [(false, (.pair (.pair (.int .i64) (.pair (.int .i64) (.int .i64))) (.pair (.int .i64) (.pair (.int .i64) (.pair (.int .i64) (.os (.int .i64)))))))]⟩
  | 24 => ⟨[(.ro, (.pair (.pair (.int .i64) (.pair (.int .i64) (.int .i64))) (.pair (.int .i64) (.pair (.int .i64) (.pair (.int .i64) (.sl (.int .i64)))))))], [(false, .str), (false, .bool)]⟩
  | 25 => ⟨[(.ro, (.pair (.pair (.int .i64) (.pair (.int .i64) (.int .i64))) (.pair (.int .i64) (.pair (.int .i64) (.pair (.int .i64) (.sl (.int .i64)))))))], [(false, .str), (false, .bool)]⟩
  | 42 => ⟨[(.ro, (.sl (.int .u8)))], [(false, (.pair (.pair (.int .i64) (.pair (.int .i64) (.int .i64))) (.pair (.int .i64) (.pair (.int .i64) (.pair (.int .i64) (.os (.int .i64)))))))]⟩
  | 43 => ⟨[(.ro, (.pair (.pair (.int .i64) (.pair (.int .i64) (.int .i64))) (.pair (.int .i64) (.pair (.int .i64) (.pair (.int .i64) (.sl (.int .i64)))))))], [(false, (.int .i64)), (false, .bool)]⟩
  | 44 => ⟨[(.ro, (.pair (.pair (.int .i64) (.pair (.int .i64) (.int .i64))) (.pair (.int .i64) (.pair (.int .i64) (.pair (.int .i64) (.sl (.int .i64)))))))], [(false, .bool)]⟩
  | 45 => ⟨[(.ro, (.pair (.pair (.int .i64) (.pair (.int .i64) (.int .i64))) (.pair (.int .i64) (.pair (.int .i64) (.pair (.int .i64) (.sl (.int .i64)))))))], [(false, (.int .i64))]⟩
  | 46 => ⟨[(.ro, (.int .i64))], [(false, .bool)]⟩
  | 47 => ⟨[(.ro, (.pair (.int .i64) (.pair (.int .i64) (.int .i64))))], [(false, .bool)]⟩
  | 48 => ⟨[(.ro, (.int .i64))], [(false, .bool)]⟩
  | 49 => ⟨[(.ro, (.pair (.pair (.int .i64) (.pair (.int .i64) (.int .i64))) (.pair (.int .i64) (.pair (.int .i64) (.pair (.int .i64) (.sl (.int .i64))))))), (.ro, (.int .i64))], [(false, (.int .i64))]⟩
  | 50 => ⟨[(.ro, (.sl (.int .i64)))], [(true, (.sl (.int .i64)))]⟩
  | 51 => ⟨[(.ro, (.pair (.pair (.int .i64) (.pair (.int .i64) (.int .i64))) (.pair (.int .i64) (.pair (.int .i64) (.pair (.int .i64) (.sl (.int .i64)))))))], [(false, (.pair (.pair (.int .i64) (.pair (.int .i64) (.int .i64))) (.pair (.int .i64) (.pair (.int .i64) (.pair (.int .i64) (.os (.int .i64)))))))]⟩
  | 52 => ⟨[(.ro, (.sl (.int .i64))), (.ro, (.sl (.int .i64)))], [(false, .bool)]⟩
  | 53 => ⟨[(.ro, (.sl (.int .u8)))], [(false, (.pair (.pair (.int .i64) (.pair (.int .i64) (.int .i64))) (.pair (.int .i64) (.pair (.int .i64) (.pair (.int .i64) (.os (.int .i64))))))), (false, (.int .i64))]⟩
  | 54 => ⟨[(.ro, (.pair (.pair (.int .i64) (.pair (.int .i64) (.int .i64))) (.pair (.int .i64) (.pair (.int .i64) (.pair (.int .i64) (.sl (.int .i64)))))))], [(false, (.pair (.pair (.int .i64) (.pair (.int .i64) (.int .i64))) (.pair (.int .i64) (.pair (.int .i64) (.pair (.int .i64) (.os (.int .i64)))))))]⟩
  | 55 => ⟨[(.ro, (.pair (.pair (.int .i64) (.pair (.int .i64) (.int .i64))) (.pair (.int .i64) (.pair (.int .i64) (.pair (.int .i64) (.sl (.int .i64))))))), (.ro, (.int .i64))], [(false, .bool)]⟩
  | 56 => ⟨[(.ro, (.pair (.pair (.int .i64) (.pair (.int .i64) (.int .i64))) (.pair (.int .i64) (.pair (.int .i64) (.pair (.int .i64) (.sl (.int .i64)))))))], [(false, (.pair (.pair (.int .i64) (.pair (.int .i64) (.int .i64))) (.pair (.int .i64) (.pair (.int .i64) (.pair (.int .i64) (.os (.int .i64)))))))]⟩
  | 57 => ⟨[(.ro, (.pair (.pair (.int .i64) (.pair (.int .i64) (.int .i64))) (.pair (.int .i64) (.pair (.int .i64) (.pair (.int .i64) (.sl (.int .i64))))))), (.ro, (.pair (.pair (.int .i64) (.pair (.int .i64) (.int .i64))) (.pair (.int .i64) (.pair (.int .i64) (.pair (.int .i64) (.sl (.int .i64)))))))], [(false, .bool)]⟩
  | 58 => ⟨[(.ro, (.pair (.pair (.int .i64) (.pair (.int .i64) (.int .i64))) (.pair (.int .i64) (.pair (.int .i64) (.pair (.int .i64) (.sl (.int .i64))))))), (.ro, (.int .i64))], [(false, .bool)]⟩
  | 59 => ⟨[(.ro, (.int .i64))], [(false, .bool)]⟩
  | 60 => ⟨[(.ro, (.pair (.pair (.int .i64) (.pair (.int .i64) (.int .i64))) (.pair (.int .i64) (.pair (.int .i64) (.pair (.int .i64) (.sl (.int .i64))))))), (.ro, (.int .i64))], [(false, .bool)]⟩
  | 61 => ⟨[(.ro, (.pair (.int .i64) (.pair (.int .i64) (.int .i64))))], [(false, .str)]⟩
  | 62 => ⟨[(.ro, (.sl (.int .i64)))], [(false, .str)]⟩
  | 63 => ⟨[(.ro, (.pair (.int .i64) (.pair (.int .i64) (.int .i64))))], [(false, .str)]⟩
  | 64 => ⟨[(.ro, (.int .i64))], [(false, .str)]⟩
  | 74 => ⟨[(.ro, (.int .i64)), (.ro, (.int .i64)), (.ro, (.int .i64))], [(false, .bool)]⟩
  | 93 => ⟨[(.ps, (.pair (.sl (.int .u8)) (.pair (.int .i64) (.int .u64))))], [(false, (.pair (.pair (.int .i64) (.pair (.int .i64) (.int .i64))) (.pair (.int .i64) (.pair (.int .i64) (.pair (.int .i64) (.os (.int .i64)))))))]⟩
  | 96 => ⟨[(.ro, (.pair (.int .i64) (.pair (.int .i64) (.int .i64))))], [(false, .bool)]⟩
  | 97 => ⟨[(.ro, (.sl (.int .i64))), (.ro, (.int .i64)), (.ro, (.int .i64))], [(false, .bool)]⟩
  | 98 => ⟨[(.ro, (.pair (.int .i64) (.pair (.int .i64) (.int .i64)))), (.ro, (.int .i64))], [(false, (.int .i64))]⟩
  | 99 => ⟨[(.ro, (.pair (.int .i64) (.pair (.int .i64) (.int .i64)))), (.ro, (.int .i64))], [(false, (.int .i64))]⟩
  | 100 => ⟨[(.ro, (.sl (.int .i64)))], [(true, (.sl (.int .i64)))]⟩
  | 101 => ⟨[(.ps, (.pair (.sl (.int .u8)) (.pair (.int .i64) (.int .u64)))), (.ro, (.sl (.int .i64)))], [(false, (.int .i64))]⟩
  | 102 => ⟨[(.ps, (.pair (.sl (.int .u8)) (.pair (.int .i64) (.int .u64)))), (.ro, (.int .i64))], [(false, (.int .i64))]⟩
  | 103 => ⟨[(.ro, (.pair (.pair (.int .i64) (.pair (.int .i64) (.int .i64))) (.pair (.int .i64) (.pair (.int .i64) (.pair (.int .i64) (.sl (.int .i64))))))), (.ro, (.int .i64))], [(false, (.int .i64))]⟩
  | 104 => ⟨[(.ro, (.int .i64))], [(false, .str)]⟩
  | 105 => ⟨[(.ro, (.int .i64))], [(false, .str)]⟩
  | 106 => ⟨[(.ro, (.sl .str)), (.ro, .str)], [(false, .str)]⟩
  | 107 => ⟨[(.ro, (.int .i64))], [(false, .str)]⟩
  | 132 => ⟨[(.ps, (.pair (.sl (.int .u8)) (.pair (.int .i64) (.int .u64))))], [(false, (.pair (.int .i64) (.pair (.int .i64) (.int .i64))))]⟩
  | 133 => ⟨[(.ps, (.pair (.sl (.int .u8)) (.pair (.int .i64) (.int .u64))))], [(false, (.pair (.int .i64) (.pair (.int .i64) (.int .i64))))]⟩
  | 134 => ⟨[(.ro, (.pair (.int .i64) (.pair (.int .i64) (.int .i64)))), (.ro, (.int .i64))], [(false, (.int .i64))]⟩
  | 135 => ⟨[(.ps, (.pair (.sl (.int .u8)) (.pair (.int .i64) (.int .u64))))], [(false, (.int .i64))]⟩
  | 140 => ⟨[(.ro, (.int .i64))], [(true, (.sl .str))]⟩
  | 152 => ⟨[(.ps, (.pair (.sl (.int .u8)) (.pair (.int .i64) (.int .u64)))), (.ro, (.int .i64))], [(false, .bool)]⟩
  | 156 => ⟨[], [(true, (.sl .str))]⟩
  | 157 => ⟨[(.ro, (.int .i64))], [(false, (.int .i64))]⟩
  | _ => ⟨[], []⟩
def pvLoops : FuncId → Nat → LoopA
  | 3, 0 => ⟨[(4, false, .bool), (201, false, (.int .i64))], [], [], []⟩
  | 11, 0 => ⟨[(2, false, .bool), (8, false, (.int .i64))], [], [], []⟩
  | 18, 0 => ⟨[(5, false, .bool), (50, false, (.int .i64))], [], [], []⟩
  | 25, 0 => ⟨[(4, false, .str), (31, false, (.int .i64))], [], [], []⟩
  | 52, 0 => ⟨[(4, false, .bool), (13, false, (.int .i64))], [], [], []⟩
  | 57, 0 => ⟨[(5, true, (.sl (.int .i64))), (27, false, (.int .i64))], [], [], []⟩
  | 57, 1 => ⟨[(4, false, .bool), (42, false, (.int .i64))], [], [], []⟩
  | 62, 0 => ⟨[(3, true, (.sl .str)), (11, false, (.int .i64))], [], [], []⟩
  | 93, 0 => ⟨[(4, false, (.int .i64))], [(0, (.pair (.sl (.int .u8)) (.pair (.int .i64) (.int .u64)))), (3, (.pair (.pair (.int .i64) (.pair (.int .i64) (.int .i64))) (.pair (.int .i64) (.pair (.int .i64) (.pair (.int .i64) (.os (.int .i64)))))))], [], []⟩
  | 93, 1 => ⟨[], [(3, (.pair (.pair (.int .i64) (.pair (.int .i64) (.int .i64))) (.pair (.int .i64) (.pair (.int .i64) (.pair (.int .i64) (.os (.int .i64)))))))], [], []⟩
  | 94, 0 => ⟨[(0, false, (.int .i64)), (1, false, (.int .i64))], [], [], []⟩
  | 97, 0 => ⟨[(6, false, .bool), (11, false, (.int .i64))], [], [], []⟩
  | 98, 0 => ⟨[(5, false, (.int .i64)), (6, false, (.int .i64))], [], [], []⟩
  | 140, 0 => ⟨[(3, true, (.sl .str)), (8, false, (.int .i64))], [], [], []⟩
  | _, _ => ⟨[], [], [], []⟩
def pvEloops : FuncId → Nat → List (Nat × Value)
  | 3, 0 => [(1, (.slice none 0 0)), (4, (.bool false)), (20, (.pointer (some ⟨0, 0, none⟩))), (24, (.pointer (some ⟨0, 0, none⟩))), (199, (.slice none 0 0)), (200, (.int .i64 0)), (201, (.int .i64 0))]
  | 11, 0 => [(1, (.pointer (some ⟨0, 0, none⟩))), (2, (.bool false)), (6, (.slice none 0 0)), (7, (.int .i64 0)), (8, (.int .i64 0))]
  | 18, 0 => [(1, (.int .i64 0)), (2, (.pointer (some ⟨0, 0, none⟩))), (4, (.pointer (some ⟨0, 0, none⟩))), (5, (.bool false)), (6, (.pointer (some ⟨0, 0, none⟩))), (48, (.slice none 0 0)), (49, (.int .i64 0)), (50, (.int .i64 0))]
  | 25, 0 => [(2, (.string ⟨#[]⟩)), (3, (.bool false)), (4, (.string ⟨#[]⟩)), (29, (.slice none 0 0)), (30, (.int .i64 0)), (31, (.int .i64 0))]
  | 52, 0 => [(0, (.slice none 0 0)), (1, (.slice none 0 0)), (4, (.bool false)), (12, (.int .i64 0)), (13, (.int .i64 0))]
  | 57, 0 => [(2, (.pointer (some ⟨0, 0, none⟩))), (3, (.pointer (some ⟨0, 0, none⟩))), (4, (.bool false)), (5, (.slice none 0 0)), (25, (.slice none 0 0)), (26, (.int .i64 0)), (27, (.int .i64 0))]
  | 57, 1 => [(2, (.pointer (some ⟨0, 0, none⟩))), (3, (.pointer (some ⟨0, 0, none⟩))), (4, (.bool false)), (40, (.slice none 0 0)), (41, (.int .i64 0)), (42, (.int .i64 0))]
  | 62, 0 => [(2, (.string ⟨#[]⟩)), (3, (.slice none 0 0)), (9, (.slice none 0 0)), (10, (.int .i64 0)), (11, (.int .i64 0))]
  | 93, 0 => [(0, (.pointer (some ⟨0, 0, none⟩))), (2, (.pointer (some ⟨0, 0, none⟩))), (3, (.pointer (some ⟨0, 0, none⟩))), (4, (.int .i64 0))]
  | 93, 1 => [(2, (.pointer (some ⟨0, 0, none⟩))), (3, (.pointer (some ⟨0, 0, none⟩))), (5, (.int .i64 0))]
  | 94, 0 => [(0, (.int .i64 0)), (1, (.int .i64 0)), (2, .nilFunc), (6, (.int .i64 0))]
  | 97, 0 => [(1, (.int .i64 0)), (2, (.int .i64 0)), (6, (.bool false)), (9, (.slice none 0 0)), (10, (.int .i64 0)), (11, (.int .i64 0))]
  | 98, 0 => [(1, (.int .i64 0)), (2, (.pointer (some ⟨0, 0, none⟩))), (4, (.int .i64 0)), (5, (.int .i64 0)), (6, (.int .i64 0))]
  | 140, 0 => [(0, (.int .i64 0)), (2, (.slice none 0 0)), (3, (.slice none 0 0)), (6, (.slice none 0 0)), (7, (.int .i64 0)), (8, (.int .i64 0))]
  | _, _ => []
def pvInline : FuncId → Bool
  | 94 => true
  | 95 => true
  | _ => false
def pvOwn : FuncId → Bool

  | _ => false
def pvExt : FuncId → Option (List Value → Nat → Go.Ev.Heap → Option (Value × Go.Ev.Heap))
  | 105 => some itoaX
  | 106 => some joinX
  | _ => none
def pvVext : (f : FuncId) → Option (TupT (pvSig f).ptys → Option (TupT (pvSig f).rtys))
  | 105 => some (fun a => itoaV a)
  | 106 => some (fun a => joinV a.1 a.2)
  | _ => none
noncomputable def pvAnn : AnnV := ⟨fuelN, pvSig, pvLoops, pvEloops, pvInline, pvOwn, pvExt, pvVext⟩

/-- loop.example/g00838/laws.big -/
noncomputable def g7 (d : Nat) (l1 : List Int) (l2 : List Int) : Option Bool := (lev Tryd.prog pvAnn d).call 7 (l1, l2)
/-- (*loop.example/g00838/spec.l1Cur).next -/
noncomputable def g135 (d : Nat) (x1 : ((List Int) × Int × Int)) : Option (Int × ((List Int) × Int × Int)) := (lev Tryd.prog pvAnn d).call 135 (x1)
/-- (*loop.example/g00838/spec.l1Cur).pick -/
noncomputable def g102 (d : Nat) (x1 : ((List Int) × Int × Int)) (n2 : Int) : Option (Int × ((List Int) × Int × Int)) := (lev Tryd.prog pvAnn d).call 102 (x1, n2)
/-- (*loop.example/g00838/spec.l1Cur).among -/
noncomputable def g101 (d : Nat) (x1 : ((List Int) × Int × Int)) (l2 : List Int) : Option (Int × ((List Int) × Int × Int)) := (lev Tryd.prog pvAnn d).call 101 (x1, l2)
/-- (*loop.example/g00838/spec.l1Cur).one -/
noncomputable def g152 (d : Nat) (x1 : ((List Int) × Int × Int)) (n2 : Int) : Option (Bool × ((List Int) × Int × Int)) := (lev Tryd.prog pvAnn d).call 152 (x1, n2)
/-- (*loop.example/g00838/spec.l1Cur).curve -/
noncomputable def g132 (d : Nat) (x1 : ((List Int) × Int × Int)) : Option ((Int × Int × Int) × ((List Int) × Int × Int)) := (lev Tryd.prog pvAnn d).call 132 (x1)
/-- (*loop.example/g00838/spec.l1Cur).anyCurve -/
noncomputable def g133 (d : Nat) (x1 : ((List Int) × Int × Int)) : Option ((Int × Int × Int) × ((List Int) × Int × Int)) := (lev Tryd.prog pvAnn d).call 133 (x1)
/-- (*loop.example/g00838/spec.l1Cur).session -/
noncomputable def g93 (d : Nat) (x1 : ((List Int) × Int × Int)) : Option (((Int × Int × Int) × Int × Int × Int × (List Int)) × ((List Int) × Int × Int)) := (lev Tryd.prog pvAnn d).call 93 (x1)
/-- loop.example/g00838/spec.DrawIsSession -/
noncomputable def g42 (d : Nat) (l1 : List Int) : Option ((Int × Int × Int) × Int × Int × Int × (List Int)) := (lev Tryd.prog pvAnn d).call 42 (l1)
/-- loop.example/g00838/spec.DrawDeadlineOf -/
noncomputable def g8 (d : Nat) (l1 : List Int) : Option ((Int × Int × Int) × Int × Int × Int × (List Int)) := (lev Tryd.prog pvAnn d).call 8 (l1)
/-- loop.example/g00838/impl.isSize -/
noncomputable def g46 (d : Nat) (n1 : Int) : Option Bool := (lev Tryd.prog pvAnn d).call 46 (n1)
/-- loop.example/g00838/impl.IsCurve -/
noncomputable def g47 (d : Nat) (x1 : (Int × Int × Int)) : Option Bool := (lev Tryd.prog pvAnn d).call 47 (x1)
/-- loop.example/g00838/impl.isTime -/
noncomputable def g48 (d : Nat) (n1 : Int) : Option Bool := (lev Tryd.prog pvAnn d).call 48 (n1)
/-- loop.example/g00838/impl.IsSession -/
noncomputable def g11 (d : Nat) (x1 : ((Int × Int × Int) × Int × Int × Int × (List Int))) : Option Bool := (lev Tryd.prog pvAnn d).call 11 (x1)
/-- loop.example/g00838/impl.curveAt -/
noncomputable def g99 (d : Nat) (x1 : (Int × Int × Int)) (n2 : Int) : Option Int := (lev Tryd.prog pvAnn d).call 99 (x1, n2)
/-- loop.example/g00838/impl.serviceAt -/
noncomputable def g49 (d : Nat) (x1 : ((Int × Int × Int) × Int × Int × Int × (List Int))) (n2 : Int) : Option Int := (lev Tryd.prog pvAnn d).call 49 (x1, n2)
/-- loop.example/g00838/impl.deadlineOf -/
noncomputable def g43 (d : Nat) (x1 : ((Int × Int × Int) × Int × Int × Int × (List Int))) : Option (Int × Bool) := (lev Tryd.prog pvAnn d).call 43 (x1)
/-- loop.example/g00838/impl.DeadlineOf -/
noncomputable def g9 (d : Nat) (x1 : ((Int × Int × Int) × Int × Int × Int × (List Int))) : Option (Int × Bool) := (lev Tryd.prog pvAnn d).call 9 (x1)
/-- loop.example/g00838/spec.l1In -/
noncomputable def g74 (d : Nat) (n1 : Int) (n2 : Int) (n3 : Int) : Option Bool := (lev Tryd.prog pvAnn d).call 74 (n1, n2, n3)
/-- loop.example/g00838/spec.cuTime -/
noncomputable def g59 (d : Nat) (n1 : Int) : Option Bool := (lev Tryd.prog pvAnn d).call 59 (n1)
/-- loop.example/g00838/spec.cuGood -/
noncomputable def g96 (d : Nat) (x1 : (Int × Int × Int)) : Option Bool := (lev Tryd.prog pvAnn d).call 96 (x1)
/-- loop.example/g00838/spec.l1All -/
noncomputable def g97 (d : Nat) (l1 : List Int) (n2 : Int) (n3 : Int) : Option Bool := (lev Tryd.prog pvAnn d).call 97 (l1, n2, n3)
/-- loop.example/g00838/spec.hfGood -/
noncomputable def g44 (d : Nat) (x1 : ((Int × Int × Int) × Int × Int × Int × (List Int))) : Option Bool := (lev Tryd.prog pvAnn d).call 44 (x1)
/-- loop.example/g00838/spec.cuAt -/
noncomputable def g134 (d : Nat) (x1 : (Int × Int × Int)) (n2 : Int) : Option Int := (lev Tryd.prog pvAnn d).call 134 (x1, n2)
/-- loop.example/g00838/spec.cuLeast -/
noncomputable def g98 (d : Nat) (x1 : (Int × Int × Int)) (n2 : Int) : Option Int := (lev Tryd.prog pvAnn d).call 98 (x1, n2)
/-- loop.example/g00838/spec.hfDeadline -/
noncomputable def g45 (d : Nat) (x1 : ((Int × Int × Int) × Int × Int × Int × (List Int))) : Option Int := (lev Tryd.prog pvAnn d).call 45 (x1)
/-- loop.example/g00838/spec.DeadlineOf -/
noncomputable def g10 (d : Nat) (x1 : ((Int × Int × Int) × Int × Int × Int × (List Int))) : Option (Int × Bool) := (lev Tryd.prog pvAnn d).call 10 (x1)
/-- loop.example/g00838/spec.IsSession -/
noncomputable def g12 (d : Nat) (x1 : ((Int × Int × Int) × Int × Int × Int × (List Int))) : Option Bool := (lev Tryd.prog pvAnn d).call 12 (x1)
/-- loop.example/g00838/impl.ServiceAt -/
noncomputable def g13 (d : Nat) (x1 : ((Int × Int × Int) × Int × Int × Int × (List Int))) (n2 : Int) : Option (Int × Bool) := (lev Tryd.prog pvAnn d).call 13 (x1, n2)
/-- slices.Clone[[]int,int] -/
noncomputable def g50 (d : Nat) (l1 : List Int) : Option (List Int) := (lev Tryd.prog pvAnn d).call 50 (l1)
/-- loop.example/g00838/impl.ServeOne -/
noncomputable def g14 (d : Nat) (x1 : ((Int × Int × Int) × Int × Int × Int × (List Int))) : Option (((Int × Int × Int) × Int × Int × Int × (List Int)) × Int × Bool) := (lev Tryd.prog pvAnn d).call 14 (x1)
/-- loop.example/g00838/spec.l1Own -/
noncomputable def g100 (d : Nat) (l1 : List Int) : Option (List Int) := (lev Tryd.prog pvAnn d).call 100 (l1)
/-- loop.example/g00838/spec.hfOwn -/
noncomputable def g56 (d : Nat) (x1 : ((Int × Int × Int) × Int × Int × Int × (List Int))) : Option ((Int × Int × Int) × Int × Int × Int × (List Int)) := (lev Tryd.prog pvAnn d).call 56 (x1)
/-- loop.example/g00838/spec.hfServe -/
noncomputable def g51 (d : Nat) (x1 : ((Int × Int × Int) × Int × Int × Int × (List Int))) : Option ((Int × Int × Int) × Int × Int × Int × (List Int)) := (lev Tryd.prog pvAnn d).call 51 (x1)
/-- loop.example/g00838/spec.ServeOne -/
noncomputable def g15 (d : Nat) (x1 : ((Int × Int × Int) × Int × Int × Int × (List Int))) : Option (((Int × Int × Int) × Int × Int × Int × (List Int)) × Int × Bool) := (lev Tryd.prog pvAnn d).call 15 (x1)
/-- loop.example/g00838/laws.sameInts -/
noncomputable def g52 (d : Nat) (l1 : List Int) (l2 : List Int) : Option Bool := (lev Tryd.prog pvAnn d).call 52 (l1, l2)
/-- loop.example/g00838/laws.pSameSession -/
noncomputable def g16 (d : Nat) (x1 : ((Int × Int × Int) × Int × Int × Int × (List Int))) (x2 : ((Int × Int × Int) × Int × Int × Int × (List Int))) : Option Bool := (lev Tryd.prog pvAnn d).call 16 (x1, x2)
/-- loop.example/g00838/spec.DrawServiceAt -/
noncomputable def g53 (d : Nat) (l1 : List Int) : Option (((Int × Int × Int) × Int × Int × Int × (List Int)) × Int) := (lev Tryd.prog pvAnn d).call 53 (l1)
/-- loop.example/g00838/spec.DrawRestartSession -/
noncomputable def g17 (d : Nat) (l1 : List Int) : Option (((Int × Int × Int) × Int × Int × Int × (List Int)) × Int) := (lev Tryd.prog pvAnn d).call 17 (l1)
/-- loop.example/g00838/impl.copySession -/
noncomputable def g54 (d : Nat) (x1 : ((Int × Int × Int) × Int × Int × Int × (List Int))) : Option ((Int × Int × Int) × Int × Int × Int × (List Int)) := (lev Tryd.prog pvAnn d).call 54 (x1)
/-- loop.example/g00838/impl.RestartSession -/
noncomputable def g18 (d : Nat) (x1 : ((Int × Int × Int) × Int × Int × Int × (List Int))) (n2 : Int) : Option (((Int × Int × Int) × Int × Int × Int × (List Int)) × Bool) := (lev Tryd.prog pvAnn d).call 18 (x1, n2)
/-- loop.example/g00838/spec.hfLater -/
noncomputable def g55 (d : Nat) (x1 : ((Int × Int × Int) × Int × Int × Int × (List Int))) (n2 : Int) : Option Bool := (lev Tryd.prog pvAnn d).call 55 (x1, n2)
/-- loop.example/g00838/spec.hfAt -/
noncomputable def g103 (d : Nat) (x1 : ((Int × Int × Int) × Int × Int × Int × (List Int))) (n2 : Int) : Option Int := (lev Tryd.prog pvAnn d).call 103 (x1, n2)
/-- loop.example/g00838/spec.hfBelow -/
noncomputable def g57 (d : Nat) (x1 : ((Int × Int × Int) × Int × Int × Int × (List Int))) (x2 : ((Int × Int × Int) × Int × Int × Int × (List Int))) : Option Bool := (lev Tryd.prog pvAnn d).call 57 (x1, x2)
/-- loop.example/g00838/spec.RestartSession -/
noncomputable def g19 (d : Nat) (x1 : ((Int × Int × Int) × Int × Int × Int × (List Int))) (n2 : Int) : Option (((Int × Int × Int) × Int × Int × Int × (List Int)) × Bool) := (lev Tryd.prog pvAnn d).call 19 (x1, n2)
/-- loop.example/g00838/spec.DrawEligibleAt -/
noncomputable def g20 (d : Nat) (l1 : List Int) : Option (((Int × Int × Int) × Int × Int × Int × (List Int)) × Int) := (lev Tryd.prog pvAnn d).call 20 (l1)
/-- loop.example/g00838/impl.eligibleAt -/
noncomputable def g58 (d : Nat) (x1 : ((Int × Int × Int) × Int × Int × Int × (List Int))) (n2 : Int) : Option Bool := (lev Tryd.prog pvAnn d).call 58 (x1, n2)
/-- loop.example/g00838/impl.EligibleAt -/
noncomputable def g21 (d : Nat) (x1 : ((Int × Int × Int) × Int × Int × Int × (List Int))) (n2 : Int) : Option (Bool × Bool) := (lev Tryd.prog pvAnn d).call 21 (x1, n2)
/-- loop.example/g00838/spec.hfEligible -/
noncomputable def g60 (d : Nat) (x1 : ((Int × Int × Int) × Int × Int × Int × (List Int))) (n2 : Int) : Option Bool := (lev Tryd.prog pvAnn d).call 60 (x1, n2)
/-- loop.example/g00838/spec.EligibleAt -/
noncomputable def g22 (d : Nat) (x1 : ((Int × Int × Int) × Int × Int × Int × (List Int))) (n2 : Int) : Option (Bool × Bool) := (lev Tryd.prog pvAnn d).call 22 (x1, n2)
/-- loop.example/g00838/spec.DrawSessionText -/
noncomputable def g23 (d : Nat) (l1 : List Int) : Option ((Int × Int × Int) × Int × Int × Int × (List Int)) := (lev Tryd.prog pvAnn d).call 23 (l1)
/-- strconv.Itoa -/
noncomputable def g105 (d : Nat) (n1 : Int) : Option ByteArray := (lev Tryd.prog pvAnn d).call 105 n1
/-- loop.example/g00838/impl.numberText -/
noncomputable def g104 (d : Nat) (n1 : Int) : Option ByteArray := (lev Tryd.prog pvAnn d).call 104 (n1)
/-- loop.example/g00838/impl.curveText -/
noncomputable def g61 (d : Nat) (x1 : (Int × Int × Int)) : Option ByteArray := (lev Tryd.prog pvAnn d).call 61 (x1)
/-- strings.Join -/
noncomputable def g106 (d : Nat) (l1 : List ByteArray) (s2 : ByteArray) : Option ByteArray := (lev Tryd.prog pvAnn d).call 106 (l1, s2)
/-- loop.example/g00838/impl.joinNumbers -/
noncomputable def g62 (d : Nat) (l1 : List Int) : Option ByteArray := (lev Tryd.prog pvAnn d).call 62 (l1)
/-- loop.example/g00838/impl.SessionText -/
noncomputable def g24 (d : Nat) (x1 : ((Int × Int × Int) × Int × Int × Int × (List Int))) : Option (ByteArray × Bool) := (lev Tryd.prog pvAnn d).call 24 (x1)
/-- loop.example/g00838/spec.l1Num -/
noncomputable def g64 (d : Nat) (n1 : Int) : Option ByteArray := (lev Tryd.prog pvAnn d).call 64 (n1)
/-- loop.example/g00838/spec.nuUnits -/
noncomputable def g156 (d : Nat)  : Option (List ByteArray) := (lev Tryd.prog pvAnn d).call 156 ()
/-- loop.example/g00838/spec.nuSize -/
noncomputable def g157 (d : Nat) (n1 : Int) : Option Int := (lev Tryd.prog pvAnn d).call 157 (n1)
/-- loop.example/g00838/spec.nuForms -/
noncomputable def g140 (d : Nat) (n1 : Int) : Option (List ByteArray) := (lev Tryd.prog pvAnn d).call 140 (n1)
/-- loop.example/g00838/spec.nuText -/
noncomputable def g107 (d : Nat) (n1 : Int) : Option ByteArray := (lev Tryd.prog pvAnn d).call 107 (n1)
/-- loop.example/g00838/spec.cuText -/
noncomputable def g63 (d : Nat) (x1 : (Int × Int × Int)) : Option ByteArray := (lev Tryd.prog pvAnn d).call 63 (x1)
/-- loop.example/g00838/spec.SessionText -/
noncomputable def g25 (d : Nat) (x1 : ((Int × Int × Int) × Int × Int × Int × (List Int))) : Option (ByteArray × Bool) := (lev Tryd.prog pvAnn d).call 25 (x1)
/-- loop.example/g00838/laws.FnDeadlines -/
noncomputable def g3 (d : Nat) (l1 : List Int) (l2 : List Int) : Option Bool := (lev Tryd.prog pvAnn d).call 3 (l1, l2)

theorem e7 (d : Nat) (l1 : List Int) (l2 : List Int) : g7 (d + 1) l1 l2 =
 oif (decide ((((l1.length : Nat) : Int) : Int) > 1048576)) (
 some true) (
 some (decide ((((l2.length : Nat) : Int) : Int) > (IntKind.i64.wrap ((1048576 : Int) - ((l1.length : Nat) : Int)))))) := by kernel_rfl

noncomputable def j135_0 (d : Nat) (x1 : ((List Int) × Int × Int)) (n2 : Int) : Option (Int × ((List Int) × Int × Int)) :=
 oif (decide (((IntKind.i64.wrap (x1.2.1 + 1)) : Int) ≤ ((x1.1.length : Nat) : Int))) (
 some (n2, (x1.1, (IntKind.i64.wrap (x1.2.1 + 1)), (IntKind.u64.wrap ((IntKind.u64.wrap ((IntKind.u64.wrap (x1.2.2 * 6364136223846793005)) + (IntKind.u64.wrap n2))) + 1442695040888963407))))) (
 some ((IntKind.i64.wrap (IntKind.u64.wrap ((BitVec.ofInt IntKind.u64.bits ((IntKind.u64.wrap ((IntKind.u64.wrap ((IntKind.u64.wrap (x1.2.2 * 6364136223846793005)) + (IntKind.u64.wrap n2))) + 1442695040888963407)).fdiv (2 ^ (min (40 : Int).toNat IntKind.u64.bits))) &&& BitVec.ofInt IntKind.u64.bits 255).toNat : Int))), (x1.1, (IntKind.i64.wrap (x1.2.1 + 1)), (IntKind.u64.wrap ((IntKind.u64.wrap ((IntKind.u64.wrap (x1.2.2 * 6364136223846793005)) + (IntKind.u64.wrap n2))) + 1442695040888963407)))))
theorem e135 (d : Nat) (x1 : ((List Int) × Int × Int)) : g135 (d + 1) x1 =
 oif (decide ((x1.2.1 : Int) < ((x1.1.length : Nat) : Int))) (
 oif (decide (0 ≤ (x1.2.1 : Int))) (
 obind (x1.1[(x1.2.1 : Int).toNat]?) fun n2 =>
 j135_0 d x1 (IntKind.i64.wrap n2)) none) (
 j135_0 d x1 0) := by kernel_rfl

theorem e102 (d : Nat) (x1 : ((List Int) × Int × Int)) (n2 : Int) : g102 (d + 1) x1 n2 =
 oif (decide ((n2 : Int) ≤ 1)) (
 some (0, x1)) (
 obind (g135 d x1) fun r3 =>
 oif (decide ((n2 : Int) > 200)) (
 obind (g135 d r3.2) fun r4 =>
 oif ((n2 : Int) == 0) none (
 some (((IntKind.i64.wrap ((IntKind.i64.wrap (r3.1 * 256)) + r4.1)).tmod n2), r4.2))) (
 oif ((n2 : Int) == 0) none (
 some ((r3.1.tmod n2), r3.2)))) := by kernel_rfl

theorem e101 (d : Nat) (x1 : ((List Int) × Int × Int)) (l2 : List Int) : g101 (d + 1) x1 l2 =
 obind (g102 d x1 ((l2.length : Nat) : Int)) fun r3 =>
 oif (decide (0 ≤ (r3.1 : Int))) (
 obind (l2[(r3.1 : Int).toNat]?) fun n4 =>
 some (n4, r3.2)) none := by kernel_rfl

theorem e152 (d : Nat) (x1 : ((List Int) × Int × Int)) (n2 : Int) : g152 (d + 1) x1 n2 =
 obind (g102 d x1 n2) fun r3 =>
 some (((r3.1 : Int) == 0), r3.2) := by kernel_rfl

theorem e132 (d : Nat) (x1 : ((List Int) × Int × Int)) : g132 (d + 1) x1 =
 obind (g102 d x1 60000) fun r2 =>
 obind (g101 d r2.2 [0, 1, 5, 10, 100, r2.1]) fun r3 =>
 obind (g101 d r3.2 [0, 1, 4, 10, 100, 10000]) fun r4 =>
 obind (g102 d r4.2 60000) fun r5 =>
 obind (g101 d r5.2 [0, 1, 3, 10, 100, r5.1]) fun r6 =>
 obind (g152 d r6.2 12) fun r7 =>
 oif r7.1 (
 some ((100000, r4.1, 100000), r7.2)) (
 some ((r3.1, r4.1, r6.1), r7.2)) := by kernel_rfl

theorem e133 (d : Nat) (x1 : ((List Int) × Int × Int)) : g133 (d + 1) x1 =
 obind (g132 d x1) fun r2 =>
 obind (g102 d r2.2 24) fun r3 =>
 oif ((r3.1 : Int) == 0) (
 obind (g101 d r3.2 [(-1), 100000, 100001]) fun r4 =>
 some ((r4.1, r2.1.2), r4.2)) (
 oif ((r3.1 : Int) == 1) (
 obind (g101 d r3.2 [(-1), 10000, 10001]) fun r5 =>
 some ((r2.1.1, r5.1, r2.1.2.2), r5.2)) (
 oif ((r3.1 : Int) == 2) (
 obind (g101 d r3.2 [(-1), 100000, 100001]) fun r6 =>
 some ((r2.1.1, r2.1.2.1, r6.1), r6.2)) (
 some (r2.1, r3.2)))) := by kernel_rfl

noncomputable def j93_0 (d : Nat)  (n23 : Int) (n24 : Int) (n25 : Int) (n26 : Int) (n27 : Int) (n28 : Int) (l29 : List Int) (n30 : Int) (n31 : Int) (l32 : List Int) : Option (((Int × Int × Int) × Int × Int × Int × (List Int)) × ((List Int) × Int × Int)) :=
 some (((n23, n24, n25), n26, n27, n28, l32), (l29, n30, n31))
noncomputable def j93_1 (d : Nat) (r23 : (Int × ((List Int) × Int × Int))) (n25 : Int) (n26 : Int) (n27 : Int) (n28 : Int) (n29 : Int) (n30 : Int) (l31 : List Int) : Option (((Int × Int × Int) × Int × Int × Int × (List Int)) × ((List Int) × Int × Int)) :=
 j93_0 d n25 n26 n27 n28 n29 n30 r23.2.1 r23.2.2.1 r23.2.2.2 l31
noncomputable def l93_1_b (d : Nat) (r23 : (Int × ((List Int) × Int × Int))) (kx93_1_0 : Int → Int → Int → Int → Int → Int → (List Int) → Option (((Int × Int × Int) × Int × Int × Int × (List Int)) × ((List Int) × Int × Int))) (ag24 : ((Int × Int × Int) × Int × Int × Int × (List Int)) → Option (((Int × Int × Int) × Int × Int × Int × (List Int)) × ((List Int) × Int × Int))) (x25 : ((Int × Int × Int) × Int × Int × Int × (List Int))) : Option (((Int × Int × Int) × Int × Int × Int × (List Int)) × ((List Int) × Int × Int)) :=
 oif (decide ((((x25.2.2.2.2.length : Nat) : Int) : Int) < (IntKind.i64.wrap ((20 : Int) + r23.1)))) (
 oif (Nat.ble ((x25.2.2.2.2.length + [1500].length) * 8) roomMax) (
 ag24 (x25.1, x25.2.1, x25.2.2.1, x25.2.2.2.1, (x25.2.2.2.2 ++ [1500]))) none) (
 kx93_1_0 x25.1.1 x25.1.2.1 x25.1.2.2 x25.2.1 x25.2.2.1 x25.2.2.2.1 x25.2.2.2.2)
noncomputable def l93_1 (d : Nat) (r23 : (Int × ((List Int) × Int × Int))) (kx93_1_0 : Int → Int → Int → Int → Int → Int → (List Int) → Option (((Int × Int × Int) × Int × Int × Int × (List Int)) × ((List Int) × Int × Int))) (ag24 : ((Int × Int × Int) × Int × Int × Int × (List Int)) → Option (((Int × Int × Int) × Int × Int × Int × (List Int)) × ((List Int) × Int × Int))) (s : ((Int × Int × Int) × Int × Int × Int × (List Int))) : Option (((Int × Int × Int) × Int × Int × Int × (List Int)) × ((List Int) × Int × Int)) := l93_1_b d r23 kx93_1_0 ag24 s
noncomputable def j93_2 (d : Nat)  (l8 : List Int) (n9 : Int) (n10 : Int) (n11 : Int) (n12 : Int) (n13 : Int) (n14 : Int) (n15 : Int) (n16 : Int) (l17 : List Int) : Option (((Int × Int × Int) × Int × Int × Int × (List Int)) × ((List Int) × Int × Int)) :=
 obind (g102 d (l8, n9, n10) 30) fun r18 =>
 oif ((r18.1 : Int) == 0) (
 obind (g101 d r18.2 [(-1), 100000, 100001]) fun r19 =>
 some (((n11, n12, n13), r19.1, n15, n16, l17), r19.2)) (
 oif ((r18.1 : Int) == 1) (
 obind (g101 d r18.2 [(-1), 1000000, 1000001]) fun r20 =>
 obind (g101 d r20.2 [r20.1, 1000000, 1000001, 1000000000, 1000000001]) fun r21 =>
 some (((n11, n12, n13), n14, r20.1, r21.1, l17), r21.2)) (
 oif ((r18.1 : Int) == 2) (
 obind (g101 d r18.2 [(IntKind.i64.wrap (n15 - 1)), 1000000000, 999999999]) fun r22 =>
 some (((n11, n12, n13), n14, n15, r22.1, l17), r22.2)) (
 oif ((r18.1 : Int) == 3) (
 obind (g102 d r18.2 2) fun r23 =>
 iterP (l93_1 d r23 (j93_1 d r23)) fuelN ((n11, n12, n13), n14, n15, n16, l17)) (
 oif ((r18.1 : Int) == 4) (
 obind (g101 d r18.2 [0, 1501]) fun r32 =>
 oif (Nat.ble ((l17.length + [r32.1].length) * 8) roomMax) (
 j93_0 d n11 n12 n13 n14 n15 n16 r32.2.1 r32.2.2.1 r32.2.2.2 (l17 ++ [r32.1])) none) (
 oif ((r18.1 : Int) == 5) (
 obind (g133 d r18.2) fun r33 =>
 j93_0 d r33.1.1 r33.1.2.1 r33.1.2.2 n14 n15 n16 r33.2.1 r33.2.2.1 r33.2.2.2 l17) (
 j93_0 d n11 n12 n13 n14 n15 n16 r18.2.1 r18.2.2.1 r18.2.2.2 l17))))))
noncomputable def l93_0_b (d : Nat)  (kx93_0_0 : (List Int) → Int → Int → Int → Int → Int → Int → Int → Int → (List Int) → Option (((Int × Int × Int) × Int × Int × Int × (List Int)) × ((List Int) × Int × Int))) (ag7 : (Int × ((List Int) × Int × Int) × ((Int × Int × Int) × Int × Int × Int × (List Int))) → Option (((Int × Int × Int) × Int × Int × Int × (List Int)) × ((List Int) × Int × Int))) (n8 : Int) (x9 : ((List Int) × Int × Int)) (x10 : ((Int × Int × Int) × Int × Int × Int × (List Int))) : Option (((Int × Int × Int) × Int × Int × Int × (List Int)) × ((List Int) × Int × Int)) :=
 oif (decide ((n8 : Int) > 0)) (
 obind (g101 d x9 [1, 4, 40, 100, 1500]) fun r11 =>
 oif (Nat.ble ((x10.2.2.2.2.length + [r11.1].length) * 8) roomMax) (
 ag7 ((IntKind.i64.wrap (n8 - 1)), r11.2, (x10.1, x10.2.1, x10.2.2.1, x10.2.2.2.1, (x10.2.2.2.2 ++ [r11.1])))) none) (
 kx93_0_0 x9.1 x9.2.1 x9.2.2 x10.1.1 x10.1.2.1 x10.1.2.2 x10.2.1 x10.2.2.1 x10.2.2.2.1 x10.2.2.2.2)
noncomputable def l93_0 (d : Nat)  (kx93_0_0 : (List Int) → Int → Int → Int → Int → Int → Int → Int → Int → (List Int) → Option (((Int × Int × Int) × Int × Int × Int × (List Int)) × ((List Int) × Int × Int))) (ag7 : (Int × ((List Int) × Int × Int) × ((Int × Int × Int) × Int × Int × Int × (List Int))) → Option (((Int × Int × Int) × Int × Int × Int × (List Int)) × ((List Int) × Int × Int))) (s : (Int × ((List Int) × Int × Int) × ((Int × Int × Int) × Int × Int × Int × (List Int)))) : Option (((Int × Int × Int) × Int × Int × Int × (List Int)) × ((List Int) × Int × Int)) := l93_0_b d kx93_0_0 ag7 s.1 s.2.1 s.2.2
theorem e93 (d : Nat) (x1 : ((List Int) × Int × Int)) : g93 (d + 1) x1 =
 obind (g132 d x1) fun r2 =>
 obind (g101 d r2.2 [0, 0, 1, 5, 20]) fun r3 =>
 obind (g101 d r3.2 [0, 0, 10, 100]) fun r4 =>
 obind (g101 d r4.2 [0, 0, 5, 40, 1000]) fun r5 =>
 obind (g102 d r5.2 5) fun r6 =>
 iterP (l93_0 d (j93_2 d)) fuelN (r6.1, r6.2, (r2.1, r3.1, r4.1, (IntKind.i64.wrap (r4.1 + r5.1)), [])) := by kernel_rfl

theorem e42 (d : Nat) (l1 : List Int) : g42 (d + 1) l1 =
 obind (g93 d (l1, 0, 0)) fun r2 =>
 some r2.1 := by kernel_rfl

theorem e8 (d : Nat) (l1 : List Int) : g8 (d + 1) l1 =
 obind (g42 d l1) fun r2 =>
 some r2 := by kernel_rfl

theorem e46 (d : Nat) (n1 : Int) : g46 (d + 1) n1 =
 oif (decide ((n1 : Int) ≥ 1)) (
 some (decide ((n1 : Int) ≤ 1500))) (
 some false) := by kernel_rfl

theorem e47 (d : Nat) (x1 : (Int × Int × Int)) : g47 (d + 1) x1 =
 oif (decide ((x1.1 : Int) ≥ 0)) (
 oif (decide ((x1.1 : Int) ≤ 100000)) (
 oif (decide ((x1.2.1 : Int) ≥ 0)) (
 oif (decide ((x1.2.1 : Int) ≤ 10000)) (
 oif (decide ((x1.2.2 : Int) ≥ 0)) (
 some (decide ((x1.2.2 : Int) ≤ 100000))) (
 some false)) (
 some false)) (
 some false)) (
 some false)) (
 some false) := by kernel_rfl

theorem e48 (d : Nat) (n1 : Int) : g48 (d + 1) n1 =
 oif (decide ((n1 : Int) ≥ 0)) (
 some (decide ((n1 : Int) ≤ 100000))) (
 some false) := by kernel_rfl

noncomputable def j11_0 (d : Nat) (x1 : ((Int × Int × Int) × Int × Int × Int × (List Int))) (b3 : Bool) : Option Bool :=
 obind (g47 d x1.1) fun r4 =>
 oif r4 (
 obind (g48 d x1.2.1) fun r5 =>
 oif r5 (
 oif (decide ((x1.2.2.1 : Int) ≥ 0)) (
 oif (decide ((x1.2.2.1 : Int) ≤ 1000000)) (
 oif (decide ((x1.2.2.2.1 : Int) ≥ x1.2.2.1)) (
 oif (decide ((x1.2.2.2.1 : Int) ≤ 1000000000)) (
 some (decide ((((x1.2.2.2.2.length : Nat) : Int) : Int) ≤ 20))) (
 some false)) (
 some false)) (
 some false)) (
 some false)) (
 some false)) (
 some false)
noncomputable def l11_0_b (d : Nat) (x1 : ((Int × Int × Int) × Int × Int × Int × (List Int))) (kx11_0_0 : Bool → Option Bool) (ag2 : (Bool × Int) → Option Bool) (b3 : Bool) (n4 : Int) : Option Bool :=
 oif (decide ((n4 : Int) < ((x1.2.2.2.2.length : Nat) : Int))) (
 oif (decide (0 ≤ (n4 : Int))) (
 obind (x1.2.2.2.2[(n4 : Int).toNat]?) fun n5 =>
 obind (g46 d n5) fun r6 =>
 oif (!r6) (
 some false) (
 ag2 (b3, (IntKind.i64.wrap (n4 + 1))))) none) (
 kx11_0_0 b3)
noncomputable def l11_0 (d : Nat) (x1 : ((Int × Int × Int) × Int × Int × Int × (List Int))) (kx11_0_0 : Bool → Option Bool) (ag2 : (Bool × Int) → Option Bool) (s : (Bool × Int)) : Option Bool := l11_0_b d x1 kx11_0_0 ag2 s.1 s.2
theorem e11 (d : Nat) (x1 : ((Int × Int × Int) × Int × Int × Int × (List Int))) : g11 (d + 1) x1 =
 iterP (l11_0 d x1 (j11_0 d x1)) fuelN (false, 0) := by kernel_rfl

theorem e99 (d : Nat) (x1 : (Int × Int × Int)) (n2 : Int) : g99 (d + 1) x1 n2 =
 oif (decide ((n2 : Int) ≤ x1.2.1)) (
 some (IntKind.i64.wrap (x1.1 * n2))) (
 some (IntKind.i64.wrap ((IntKind.i64.wrap (x1.1 * x1.2.1)) + (IntKind.i64.wrap (x1.2.2 * (IntKind.i64.wrap (n2 - x1.2.1))))))) := by kernel_rfl

theorem e49 (d : Nat) (x1 : ((Int × Int × Int) × Int × Int × Int × (List Int))) (n2 : Int) : g49 (d + 1) x1 n2 =
 obind (g99 d x1.1 (IntKind.i64.wrap (n2 - x1.2.1))) fun r3 =>
 some (IntKind.i64.wrap (x1.2.2.1 + r3)) := by kernel_rfl

noncomputable def j43i94_0 (d : Nat)  (n5 : Int) : Option (Int × Bool) :=
 some (n5, true)
noncomputable def l43i94_0_b (d : Nat) (x1 : ((Int × Int × Int) × Int × Int × Int × (List Int))) (n2 : Int) (kx43i94_0_0 : Int → Option (Int × Bool)) (ag4 : (Int × Int) → Option (Int × Bool)) (n5 : Int) (n6 : Int) : Option (Int × Bool) :=
 oif (decide ((n5 : Int) ≤ n6)) (
 obind (g49 d x1 (IntKind.i64.wrap ((IntKind.i64.wrap (n5 + n6)).tdiv 2))) fun r7 =>
 oif (decide ((r7 : Int) ≥ (IntKind.i64.wrap (x1.2.2.2.1 + n2)))) (
 ag4 (n5, (IntKind.i64.wrap ((IntKind.i64.wrap ((IntKind.i64.wrap (n5 + n6)).tdiv 2)) - 1)))) (
 ag4 ((IntKind.i64.wrap ((IntKind.i64.wrap ((IntKind.i64.wrap (n5 + n6)).tdiv 2)) + 1)), n6))) (
 kx43i94_0_0 n5)
noncomputable def l43i94_0 (d : Nat) (x1 : ((Int × Int × Int) × Int × Int × Int × (List Int))) (n2 : Int) (kx43i94_0_0 : Int → Option (Int × Bool)) (ag4 : (Int × Int) → Option (Int × Bool)) (s : (Int × Int)) : Option (Int × Bool) := l43i94_0_b d x1 n2 kx43i94_0_0 ag4 s.1 s.2
theorem e43 (d : Nat) (x1 : ((Int × Int × Int) × Int × Int × Int × (List Int))) : g43 (d + 3) x1 =
 oif ((((x1.2.2.2.2.length : Nat) : Int) : Int) == 0) (
 some (0, false)) (
 obind (x1.2.2.2.2[0]?) fun n2 =>
 obind (g49 (d + 2) x1 100000) fun r3 =>
 oif (decide ((r3 : Int) < (IntKind.i64.wrap (x1.2.2.2.1 + n2)))) (
 some (0, false)) (
 iterP (l43i94_0 d x1 n2 (j43i94_0 d)) fuelN (x1.2.1, 100000))) := by kernel_rfl

theorem e9 (d : Nat) (x1 : ((Int × Int × Int) × Int × Int × Int × (List Int))) : g9 (d + 1) x1 =
 obind (g11 d x1) fun r2 =>
 oif (!r2) (
 some (0, false)) (
 obind (g43 d x1) fun r3 =>
 some (r3.1, r3.2)) := by kernel_rfl

theorem e74 (d : Nat) (n1 : Int) (n2 : Int) (n3 : Int) : g74 (d + 1) n1 n2 n3 =
 oif (decide ((n1 : Int) ≥ n2)) (
 some (decide ((n1 : Int) ≤ n3))) (
 some false) := by kernel_rfl

theorem e59 (d : Nat) (n1 : Int) : g59 (d + 1) n1 =
 obind (g74 d n1 0 100000) fun r2 =>
 some r2 := by kernel_rfl

theorem e96 (d : Nat) (x1 : (Int × Int × Int)) : g96 (d + 1) x1 =
 obind (g74 d x1.1 0 100000) fun r2 =>
 oif r2 (
 obind (g74 d x1.2.1 0 10000) fun r3 =>
 oif r3 (
 obind (g74 d x1.2.2 0 100000) fun r4 =>
 some r4) (
 some false)) (
 some false) := by kernel_rfl

noncomputable def j97_0 (d : Nat)  (b5 : Bool) : Option Bool :=
 some true
noncomputable def l97_0_b (d : Nat) (l1 : List Int) (n2 : Int) (n3 : Int) (kx97_0_0 : Bool → Option Bool) (ag4 : (Bool × Int) → Option Bool) (b5 : Bool) (n6 : Int) : Option Bool :=
 oif (decide ((n6 : Int) < ((l1.length : Nat) : Int))) (
 oif (decide (0 ≤ (n6 : Int))) (
 obind (l1[(n6 : Int).toNat]?) fun n7 =>
 obind (g74 d n7 n2 n3) fun r8 =>
 oif (!r8) (
 some false) (
 ag4 (b5, (IntKind.i64.wrap (n6 + 1))))) none) (
 kx97_0_0 b5)
noncomputable def l97_0 (d : Nat) (l1 : List Int) (n2 : Int) (n3 : Int) (kx97_0_0 : Bool → Option Bool) (ag4 : (Bool × Int) → Option Bool) (s : (Bool × Int)) : Option Bool := l97_0_b d l1 n2 n3 kx97_0_0 ag4 s.1 s.2
theorem e97 (d : Nat) (l1 : List Int) (n2 : Int) (n3 : Int) : g97 (d + 1) l1 n2 n3 =
 iterP (l97_0 d l1 n2 n3 (j97_0 d)) fuelN (false, 0) := by kernel_rfl

theorem e44 (d : Nat) (x1 : ((Int × Int × Int) × Int × Int × Int × (List Int))) : g44 (d + 1) x1 =
 obind (g96 d x1.1) fun r2 =>
 oif r2 (
 obind (g59 d x1.2.1) fun r3 =>
 oif r3 (
 obind (g74 d x1.2.2.1 0 1000000) fun r4 =>
 oif r4 (
 obind (g74 d x1.2.2.2.1 x1.2.2.1 1000000000) fun r5 =>
 oif r5 (
 oif (decide ((((x1.2.2.2.2.length : Nat) : Int) : Int) ≤ 20)) (
 obind (g97 d x1.2.2.2.2 1 1500) fun r6 =>
 some r6) (
 some false)) (
 some false)) (
 some false)) (
 some false)) (
 some false) := by kernel_rfl

theorem e134 (d : Nat) (x1 : (Int × Int × Int)) (n2 : Int) : g134 (d + 1) x1 n2 =
 oif (decide ((n2 : Int) ≤ x1.2.1)) (
 some (IntKind.i64.wrap (x1.1 * n2))) (
 some (IntKind.i64.wrap ((IntKind.i64.wrap (x1.1 * x1.2.1)) + (IntKind.i64.wrap (x1.2.2 * (IntKind.i64.wrap (n2 - x1.2.1))))))) := by kernel_rfl

noncomputable def j98_0 (d : Nat)  (n5 : Int) : Option Int :=
 some n5
noncomputable def l98_0_b (d : Nat) (x1 : (Int × Int × Int)) (n2 : Int) (kx98_0_0 : Int → Option Int) (ag4 : (Int × Int) → Option Int) (n5 : Int) (n6 : Int) : Option Int :=
 oif (decide ((n5 : Int) < n6)) (
 obind (g134 d x1 (IntKind.i64.wrap ((IntKind.i64.wrap (n5 + n6)).tdiv 2))) fun r7 =>
 oif (decide ((r7 : Int) < n2)) (
 ag4 ((IntKind.i64.wrap ((IntKind.i64.wrap ((IntKind.i64.wrap (n5 + n6)).tdiv 2)) + 1)), n6)) (
 ag4 (n5, (IntKind.i64.wrap ((IntKind.i64.wrap (n5 + n6)).tdiv 2))))) (
 kx98_0_0 n5)
noncomputable def l98_0 (d : Nat) (x1 : (Int × Int × Int)) (n2 : Int) (kx98_0_0 : Int → Option Int) (ag4 : (Int × Int) → Option Int) (s : (Int × Int)) : Option Int := l98_0_b d x1 n2 kx98_0_0 ag4 s.1 s.2
theorem e98 (d : Nat) (x1 : (Int × Int × Int)) (n2 : Int) : g98 (d + 1) x1 n2 =
 obind (g134 d x1 100000) fun r3 =>
 oif (decide ((r3 : Int) < n2)) (
 some (-1)) (
 iterP (l98_0 d x1 n2 (j98_0 d)) fuelN (0, 100000)) := by kernel_rfl

theorem e45 (d : Nat) (x1 : ((Int × Int × Int) × Int × Int × Int × (List Int))) : g45 (d + 1) x1 =
 oif ((((x1.2.2.2.2.length : Nat) : Int) : Int) == 0) (
 some (-1)) (
 obind (x1.2.2.2.2[0]?) fun n2 =>
 obind (g98 d x1.1 (IntKind.i64.wrap ((IntKind.i64.wrap (x1.2.2.2.1 + n2)) - x1.2.2.1))) fun r3 =>
 oif (decide ((r3 : Int) < 0)) (
 some (-1)) (
 oif (decide (((IntKind.i64.wrap (x1.2.1 + r3)) : Int) > 100000)) (
 some (-1)) (
 some (IntKind.i64.wrap (x1.2.1 + r3))))) := by kernel_rfl

theorem e10 (d : Nat) (x1 : ((Int × Int × Int) × Int × Int × Int × (List Int))) : g10 (d + 1) x1 =
 obind (g44 d x1) fun r2 =>
 oif (!r2) (
 some (0, false)) (
 obind (g45 d x1) fun r3 =>
 oif (decide ((r3 : Int) < 0)) (
 some (0, false)) (
 obind (g45 d x1) fun r4 =>
 some (r4, true))) := by kernel_rfl

theorem e12 (d : Nat) (x1 : ((Int × Int × Int) × Int × Int × Int × (List Int))) : g12 (d + 1) x1 =
 obind (g44 d x1) fun r2 =>
 some r2 := by kernel_rfl

theorem e13 (d : Nat) (x1 : ((Int × Int × Int) × Int × Int × Int × (List Int))) (n2 : Int) : g13 (d + 1) x1 n2 =
 obind (g11 d x1) fun r3 =>
 oif (!r3) (
 some (0, false)) (
 obind (g48 d n2) fun r4 =>
 oif (!r4) (
 some (0, false)) (
 oif (decide ((n2 : Int) < x1.2.1)) (
 some (0, false)) (
 obind (g49 d x1 n2) fun r5 =>
 some (r5, true)))) := by kernel_rfl

theorem e50 (d : Nat) (l1 : List Int) : g50 (d + 1) l1 =
 nilB l1.length (
 some []) (
 oif (Nat.ble ((([] : List Int).length + l1.length) * 8) roomMax) (
 some (([] : List Int) ++ l1)) none) := by kernel_rfl

noncomputable def j14_0 (d : Nat) (x1 : ((Int × Int × Int) × Int × Int × Int × (List Int))) (b2 : Bool) : Option (((Int × Int × Int) × Int × Int × Int × (List Int)) × Int × Bool) :=
 oif b2 (
 some (((0, 0, 0), 0, 0, 0, []), 0, false)) (
 obind (x1.2.2.2.2[0]?) fun n3 =>
 oif (Nat.ble 1 x1.2.2.2.2.length) (
 obind (g50 d (x1.2.2.2.2.drop 1)) fun r4 =>
 some ((x1.1, x1.2.1, x1.2.2.1, (IntKind.i64.wrap (x1.2.2.2.1 + n3)), r4), n3, true)) none)
theorem e14 (d : Nat) (x1 : ((Int × Int × Int) × Int × Int × Int × (List Int))) : g14 (d + 1) x1 =
 obind (g11 d x1) fun r2 =>
 oif (!r2) (
 j14_0 d x1 true) (
 oif ((((x1.2.2.2.2.length : Nat) : Int) : Int) == 0) (
 j14_0 d x1 true) (
 obind (x1.2.2.2.2[0]?) fun n3 =>
 j14_0 d x1 (decide (((IntKind.i64.wrap (x1.2.2.2.1 + n3)) : Int) > 1000000000)))) := by kernel_rfl

theorem e100 (d : Nat) (l1 : List Int) : g100 (d + 1) l1 =
 oif (Nat.ble ((([] : List Int).length + l1.length) * 8) roomMax) (
 some (([] : List Int) ++ l1)) none := by kernel_rfl

theorem e56 (d : Nat) (x1 : ((Int × Int × Int) × Int × Int × Int × (List Int))) : g56 (d + 1) x1 =
 obind (g100 d x1.2.2.2.2) fun r2 =>
 some (x1.1, x1.2.1, x1.2.2.1, x1.2.2.2.1, r2) := by kernel_rfl

theorem e51 (d : Nat) (x1 : ((Int × Int × Int) × Int × Int × Int × (List Int))) : g51 (d + 1) x1 =
 obind (g56 d x1) fun r2 =>
 obind (x1.2.2.2.2[0]?) fun n3 =>
 oif (Nat.ble 1 x1.2.2.2.2.length) (
 obind (g100 d (x1.2.2.2.2.drop 1)) fun r4 =>
 some (r2.1, r2.2.1, r2.2.2.1, (IntKind.i64.wrap (r2.2.2.2.1 + n3)), r4)) none := by kernel_rfl

theorem e15 (d : Nat) (x1 : ((Int × Int × Int) × Int × Int × Int × (List Int))) : g15 (d + 1) x1 =
 obind (g44 d x1) fun r2 =>
 oif (!r2) (
 some (((0, 0, 0), 0, 0, 0, []), 0, false)) (
 oif ((((x1.2.2.2.2.length : Nat) : Int) : Int) == 0) (
 some (((0, 0, 0), 0, 0, 0, []), 0, false)) (
 obind (g51 d x1) fun r3 =>
 obind (g44 d r3) fun r4 =>
 oif (!r4) (
 some (((0, 0, 0), 0, 0, 0, []), 0, false)) (
 obind (g51 d x1) fun r5 =>
 obind (x1.2.2.2.2[0]?) fun n6 =>
 some (r5, n6, true)))) := by kernel_rfl

noncomputable def j52_0 (d : Nat)  (b4 : Bool) : Option Bool :=
 some true
noncomputable def l52_0_b (d : Nat) (l1 : List Int) (l2 : List Int) (kx52_0_0 : Bool → Option Bool) (ag3 : (Bool × Int) → Option Bool) (b4 : Bool) (n5 : Int) : Option Bool :=
 oif (decide ((n5 : Int) < ((l1.length : Nat) : Int))) (
 oif (decide (0 ≤ (n5 : Int))) (
 obind (l1[(n5 : Int).toNat]?) fun n6 =>
 oif (decide (0 ≤ (n5 : Int))) (
 obind (l2[(n5 : Int).toNat]?) fun n7 =>
 oif ((n6 : Int) != n7) (
 some false) (
 ag3 (b4, (IntKind.i64.wrap (n5 + 1))))) none) none) (
 kx52_0_0 b4)
noncomputable def l52_0 (d : Nat) (l1 : List Int) (l2 : List Int) (kx52_0_0 : Bool → Option Bool) (ag3 : (Bool × Int) → Option Bool) (s : (Bool × Int)) : Option Bool := l52_0_b d l1 l2 kx52_0_0 ag3 s.1 s.2
theorem e52 (d : Nat) (l1 : List Int) (l2 : List Int) : g52 (d + 1) l1 l2 =
 oif ((((l1.length : Nat) : Int) : Int) != ((l2.length : Nat) : Int)) (
 some false) (
 iterP (l52_0 d l1 l2 (j52_0 d)) fuelN (false, 0)) := by kernel_rfl

theorem e16 (d : Nat) (x1 : ((Int × Int × Int) × Int × Int × Int × (List Int))) (x2 : ((Int × Int × Int) × Int × Int × Int × (List Int))) : g16 (d + 1) x1 x2 =
 oif (((x1.1.1 : Int) == x2.1.1) && (((x1.1.2.1 : Int) == x2.1.2.1) && (((x1.1.2.2 : Int) == x2.1.2.2) && true))) (
 oif ((x1.2.1 : Int) == x2.2.1) (
 oif ((x1.2.2.1 : Int) == x2.2.2.1) (
 oif ((x1.2.2.2.1 : Int) == x2.2.2.2.1) (
 obind (g52 d x1.2.2.2.2 x2.2.2.2.2) fun r3 =>
 some r3) (
 some false)) (
 some false)) (
 some false)) (
 some false) := by kernel_rfl

theorem e53 (d : Nat) (l1 : List Int) : g53 (d + 1) l1 =
 obind (g93 d (l1, 0, 0)) fun r2 =>
 obind (g101 d r2.2 [(-1), 0, 1, 3, 4, 10, 100]) fun r3 =>
 obind (g102 d r3.2 24) fun r4 =>
 some (r2.1, (IntKind.i64.wrap ((IntKind.i64.wrap (r2.1.2.1 + r3.1)) + (IntKind.i64.wrap ((IntKind.i64.wrap (r4.1.tdiv 23)) * 100000))))) := by kernel_rfl

theorem e17 (d : Nat) (l1 : List Int) : g17 (d + 1) l1 =
 obind (g53 d l1) fun r2 =>
 some (r2.1, r2.2) := by kernel_rfl

theorem e54 (d : Nat) (x1 : ((Int × Int × Int) × Int × Int × Int × (List Int))) : g54 (d + 1) x1 =
 obind (g50 d x1.2.2.2.2) fun r2 =>
 some (x1.1, x1.2.1, x1.2.2.1, x1.2.2.2.1, r2) := by kernel_rfl

noncomputable def j18_0 (d : Nat) (x1 : ((Int × Int × Int) × Int × Int × Int × (List Int))) (n2 : Int) (r4 : ((Int × Int × Int) × Int × Int × Int × (List Int))) (b6 : Bool) : Option (((Int × Int × Int) × Int × Int × Int × (List Int)) × Bool) :=
 some ((r4.1, n2, x1.2.2.2.1, r4.2.2.2), true)
noncomputable def l18_0_b (d : Nat) (x1 : ((Int × Int × Int) × Int × Int × Int × (List Int))) (n2 : Int) (r4 : ((Int × Int × Int) × Int × Int × Int × (List Int))) (kx18_0_0 : Bool → Option (((Int × Int × Int) × Int × Int × Int × (List Int)) × Bool)) (ag5 : (Bool × Int) → Option (((Int × Int × Int) × Int × Int × Int × (List Int)) × Bool)) (b6 : Bool) (n7 : Int) : Option (((Int × Int × Int) × Int × Int × Int × (List Int)) × Bool) :=
 oif (decide ((n7 : Int) < (([n2, (IntKind.i64.wrap (x1.2.1 + x1.1.2.1)), (IntKind.i64.wrap (n2 + x1.1.2.1)), 100000].length : Nat) : Int))) (
 oif (decide (0 ≤ (n7 : Int))) (
 oif (Nat.blt ((n7 : Int).toNat) ([n2, (IntKind.i64.wrap (x1.2.1 + x1.1.2.1)), (IntKind.i64.wrap (n2 + x1.1.2.1)), 100000].length)) (
 obind ([n2, (IntKind.i64.wrap (x1.2.1 + x1.1.2.1)), (IntKind.i64.wrap (n2 + x1.1.2.1)), 100000][(n7 : Int).toNat]?) fun n8 =>
 oif (decide ((n8 : Int) ≥ n2)) (
 oif (decide ((n8 : Int) ≤ 100000)) (
 obind (g49 d (r4.1, n2, x1.2.2.2.1, r4.2.2.2) n8) fun r9 =>
 obind (g49 d x1 n8) fun r10 =>
 oif (decide ((r9 : Int) > r10)) (
 obind (g54 d x1) fun r11 =>
 some (r11, true)) (
 ag5 (b6, (IntKind.i64.wrap (n7 + 1))))) (
 ag5 (b6, (IntKind.i64.wrap (n7 + 1))))) (
 ag5 (b6, (IntKind.i64.wrap (n7 + 1))))) none) none) (
 kx18_0_0 b6)
noncomputable def l18_0 (d : Nat) (x1 : ((Int × Int × Int) × Int × Int × Int × (List Int))) (n2 : Int) (r4 : ((Int × Int × Int) × Int × Int × Int × (List Int))) (kx18_0_0 : Bool → Option (((Int × Int × Int) × Int × Int × Int × (List Int)) × Bool)) (ag5 : (Bool × Int) → Option (((Int × Int × Int) × Int × Int × Int × (List Int)) × Bool)) (s : (Bool × Int)) : Option (((Int × Int × Int) × Int × Int × Int × (List Int)) × Bool) := l18_0_b d x1 n2 r4 kx18_0_0 ag5 s.1 s.2
noncomputable def j18_1 (d : Nat) (x1 : ((Int × Int × Int) × Int × Int × Int × (List Int))) (n2 : Int) (b3 : Bool) : Option (((Int × Int × Int) × Int × Int × Int × (List Int)) × Bool) :=
 oif b3 (
 some (((0, 0, 0), 0, 0, 0, []), false)) (
 obind (g54 d x1) fun r4 =>
 iterP (l18_0 d x1 n2 r4 (j18_0 d x1 n2 r4)) fuelN (false, 0))
theorem e18 (d : Nat) (x1 : ((Int × Int × Int) × Int × Int × Int × (List Int))) (n2 : Int) : g18 (d + 1) x1 n2 =
 obind (g11 d x1) fun r3 =>
 oif (!r3) (
 j18_1 d x1 n2 true) (
 obind (g48 d n2) fun r4 =>
 oif (!r4) (
 j18_1 d x1 n2 true) (
 oif (decide ((n2 : Int) < x1.2.1)) (
 j18_1 d x1 n2 true) (
 j18_1 d x1 n2 (decide ((x1.2.2.2.1 : Int) > 1000000))))) := by kernel_rfl

theorem e55 (d : Nat) (x1 : ((Int × Int × Int) × Int × Int × Int × (List Int))) (n2 : Int) : g55 (d + 1) x1 n2 =
 obind (g44 d x1) fun r3 =>
 oif r3 (
 obind (g74 d n2 x1.2.1 100000) fun r4 =>
 some r4) (
 some false) := by kernel_rfl

theorem e103 (d : Nat) (x1 : ((Int × Int × Int) × Int × Int × Int × (List Int))) (n2 : Int) : g103 (d + 1) x1 n2 =
 obind (g134 d x1.1 (IntKind.i64.wrap (n2 - x1.2.1))) fun r3 =>
 some (IntKind.i64.wrap (x1.2.2.1 + r3)) := by kernel_rfl

noncomputable def j57_0 (d : Nat)  (b6 : Bool) : Option Bool :=
 some true
noncomputable def l57_1_b (d : Nat) (x1 : ((Int × Int × Int) × Int × Int × Int × (List Int))) (x2 : ((Int × Int × Int) × Int × Int × Int × (List Int))) (l4 : List Int) (kx57_1_0 : Bool → Option Bool) (ag5 : (Bool × Int) → Option Bool) (b6 : Bool) (n7 : Int) : Option Bool :=
 oif (decide ((n7 : Int) < ((l4.length : Nat) : Int))) (
 oif (decide (0 ≤ (n7 : Int))) (
 oif (Nat.blt ((n7 : Int).toNat) l4.length) (
 obind (l4[(n7 : Int).toNat]?) fun n8 =>
 obind (g103 d x1 n8) fun r9 =>
 obind (g103 d x2 n8) fun r10 =>
 oif (decide ((r9 : Int) > r10)) (
 some false) (
 ag5 (b6, (IntKind.i64.wrap (n7 + 1))))) none) none) (
 kx57_1_0 b6)
noncomputable def l57_1 (d : Nat) (x1 : ((Int × Int × Int) × Int × Int × Int × (List Int))) (x2 : ((Int × Int × Int) × Int × Int × Int × (List Int))) (l4 : List Int) (kx57_1_0 : Bool → Option Bool) (ag5 : (Bool × Int) → Option Bool) (s : (Bool × Int)) : Option Bool := l57_1_b d x1 x2 l4 kx57_1_0 ag5 s.1 s.2
noncomputable def j57_1 (d : Nat) (x1 : ((Int × Int × Int) × Int × Int × Int × (List Int))) (x2 : ((Int × Int × Int) × Int × Int × Int × (List Int))) (l4 : List Int) : Option Bool :=
 iterP (l57_1 d x1 x2 l4 (j57_0 d)) fuelN (false, 0)
noncomputable def l57_0_b (d : Nat) (x1 : ((Int × Int × Int) × Int × Int × Int × (List Int))) (x2 : ((Int × Int × Int) × Int × Int × Int × (List Int))) (kx57_0_0 : (List Int) → Option Bool) (ag3 : ((List Int) × Int) → Option Bool) (l4 : List Int) (n5 : Int) : Option Bool :=
 oif (decide ((n5 : Int) < (([(IntKind.i64.wrap (x1.2.1 + x1.1.2.1)), (IntKind.i64.wrap (x2.2.1 + x2.1.2.1))].length : Nat) : Int))) (
 oif (decide (0 ≤ (n5 : Int))) (
 oif (Nat.blt ((n5 : Int).toNat) ([(IntKind.i64.wrap (x1.2.1 + x1.1.2.1)), (IntKind.i64.wrap (x2.2.1 + x2.1.2.1))].length)) (
 obind ([(IntKind.i64.wrap (x1.2.1 + x1.1.2.1)), (IntKind.i64.wrap (x2.2.1 + x2.1.2.1))][(n5 : Int).toNat]?) fun n6 =>
 obind (g74 d n6 x1.2.1 100000) fun r7 =>
 oif r7 (
 oif (Nat.ble ((l4.length + [n6].length) * 8) roomMax) (
 ag3 ((l4 ++ [n6]), (IntKind.i64.wrap (n5 + 1)))) none) (
 ag3 (l4, (IntKind.i64.wrap (n5 + 1))))) none) none) (
 kx57_0_0 l4)
noncomputable def l57_0 (d : Nat) (x1 : ((Int × Int × Int) × Int × Int × Int × (List Int))) (x2 : ((Int × Int × Int) × Int × Int × Int × (List Int))) (kx57_0_0 : (List Int) → Option Bool) (ag3 : ((List Int) × Int) → Option Bool) (s : ((List Int) × Int)) : Option Bool := l57_0_b d x1 x2 kx57_0_0 ag3 s.1 s.2
theorem e57 (d : Nat) (x1 : ((Int × Int × Int) × Int × Int × Int × (List Int))) (x2 : ((Int × Int × Int) × Int × Int × Int × (List Int))) : g57 (d + 1) x1 x2 =
 iterP (l57_0 d x1 x2 (j57_1 d x1 x2)) fuelN ([x1.2.1, 100000], 0) := by kernel_rfl

noncomputable def j19_0 (d : Nat) (x1 : ((Int × Int × Int) × Int × Int × Int × (List Int))) (n2 : Int) (b3 : Bool) : Option (((Int × Int × Int) × Int × Int × Int × (List Int)) × Bool) :=
 oif b3 (
 some (((0, 0, 0), 0, 0, 0, []), false)) (
 obind (g56 d x1) fun r4 =>
 obind (g57 d (r4.1, n2, x1.2.2.2.1, r4.2.2.2) x1) fun r5 =>
 oif (!r5) (
 obind (g56 d x1) fun r6 =>
 some (r6, true)) (
 some ((r4.1, n2, x1.2.2.2.1, r4.2.2.2), true)))
theorem e19 (d : Nat) (x1 : ((Int × Int × Int) × Int × Int × Int × (List Int))) (n2 : Int) : g19 (d + 1) x1 n2 =
 obind (g55 d x1 n2) fun r3 =>
 oif (!r3) (
 j19_0 d x1 n2 true) (
 j19_0 d x1 n2 (decide ((x1.2.2.2.1 : Int) > 1000000))) := by kernel_rfl

theorem e20 (d : Nat) (l1 : List Int) : g20 (d + 1) l1 =
 obind (g53 d l1) fun r2 =>
 some (r2.1, r2.2) := by kernel_rfl

theorem e58 (d : Nat) (x1 : ((Int × Int × Int) × Int × Int × Int × (List Int))) (n2 : Int) : g58 (d + 1) x1 n2 =
 oif (decide ((((x1.2.2.2.2.length : Nat) : Int) : Int) > 0)) (
 oif (decide ((n2 : Int) ≥ x1.2.1)) (
 obind (g49 d x1 n2) fun r3 =>
 some (decide ((r3 : Int) ≥ x1.2.2.2.1))) (
 some false)) (
 some false) := by kernel_rfl

theorem e21 (d : Nat) (x1 : ((Int × Int × Int) × Int × Int × Int × (List Int))) (n2 : Int) : g21 (d + 1) x1 n2 =
 obind (g11 d x1) fun r3 =>
 oif (!r3) (
 some (false, false)) (
 obind (g48 d n2) fun r4 =>
 oif (!r4) (
 some (false, false)) (
 obind (g58 d x1 n2) fun r5 =>
 some (r5, true))) := by kernel_rfl

theorem e60 (d : Nat) (x1 : ((Int × Int × Int) × Int × Int × Int × (List Int))) (n2 : Int) : g60 (d + 1) x1 n2 =
 oif (decide ((((x1.2.2.2.2.length : Nat) : Int) : Int) > 0)) (
 oif (decide ((n2 : Int) ≥ x1.2.1)) (
 obind (g103 d x1 n2) fun r3 =>
 some (decide ((r3 : Int) ≥ x1.2.2.2.1))) (
 some false)) (
 some false) := by kernel_rfl

theorem e22 (d : Nat) (x1 : ((Int × Int × Int) × Int × Int × Int × (List Int))) (n2 : Int) : g22 (d + 1) x1 n2 =
 obind (g44 d x1) fun r3 =>
 oif (!r3) (
 some (false, false)) (
 obind (g59 d n2) fun r4 =>
 oif (!r4) (
 some (false, false)) (
 obind (g60 d x1 n2) fun r5 =>
 some (r5, true))) := by kernel_rfl

theorem e23 (d : Nat) (l1 : List Int) : g23 (d + 1) l1 =
 obind (g42 d l1) fun r2 =>
 some r2 := by kernel_rfl

theorem e105 (d : Nat) (n1 : Int) : g105 (d + 1) n1 =
 itoaV n1 := by kernel_rfl

noncomputable def j104_0 (d : Nat) (n1 : Int) (b4 : Bool) : Option ByteArray :=
 oif b4 (
 obind (g105 d (IntKind.i64.wrap (n1.tdiv 1000))) fun r5 =>
 oif (Nat.ble ((r5 : ByteArray).size + ((⟨#[107]⟩ : ByteArray) : ByteArray).size) 9223372036854775807) (
 some ((r5 : ByteArray) ++ ((⟨#[107]⟩ : ByteArray) : ByteArray))) none) (
 obind (g105 d n1) fun r6 =>
 some r6)
noncomputable def j104_1 (d : Nat) (n1 : Int) (b2 : Bool) : Option ByteArray :=
 oif b2 (
 obind (g105 d (IntKind.i64.wrap (n1.tdiv 1000000))) fun r3 =>
 oif (Nat.ble ((r3 : ByteArray).size + ((⟨#[109]⟩ : ByteArray) : ByteArray).size) 9223372036854775807) (
 some ((r3 : ByteArray) ++ ((⟨#[109]⟩ : ByteArray) : ByteArray))) none) (
 oif (decide ((n1 : Int) > 0)) (
 j104_0 d n1 (((n1.tmod 1000) : Int) == 0)) (
 j104_0 d n1 false))
theorem e104 (d : Nat) (n1 : Int) : g104 (d + 1) n1 =
 oif (decide ((n1 : Int) > 0)) (
 j104_1 d n1 (((n1.tmod 1000000) : Int) == 0)) (
 j104_1 d n1 false) := by kernel_rfl

theorem e61 (d : Nat) (x1 : (Int × Int × Int)) : g61 (d + 1) x1 =
 obind (g104 d x1.1) fun r2 =>
 oif (Nat.ble ((r2 : ByteArray).size + ((⟨#[47]⟩ : ByteArray) : ByteArray).size) 9223372036854775807) (
 obind (g104 d x1.2.1) fun r3 =>
 oif (Nat.ble ((((r2 : ByteArray) ++ ((⟨#[47]⟩ : ByteArray) : ByteArray)) : ByteArray).size + (r3 : ByteArray).size) 9223372036854775807) (
 oif (Nat.ble ((((((r2 : ByteArray) ++ ((⟨#[47]⟩ : ByteArray) : ByteArray)) : ByteArray) ++ (r3 : ByteArray)) : ByteArray).size + ((⟨#[47]⟩ : ByteArray) : ByteArray).size) 9223372036854775807) (
 obind (g104 d x1.2.2) fun r4 =>
 oif (Nat.ble ((((((((r2 : ByteArray) ++ ((⟨#[47]⟩ : ByteArray) : ByteArray)) : ByteArray) ++ (r3 : ByteArray)) : ByteArray) ++ ((⟨#[47]⟩ : ByteArray) : ByteArray)) : ByteArray).size + (r4 : ByteArray).size) 9223372036854775807) (
 some ((((((((r2 : ByteArray) ++ ((⟨#[47]⟩ : ByteArray) : ByteArray)) : ByteArray) ++ (r3 : ByteArray)) : ByteArray) ++ ((⟨#[47]⟩ : ByteArray) : ByteArray)) : ByteArray) ++ (r4 : ByteArray))) none) none) none) none := by kernel_rfl

theorem e106 (d : Nat) (l1 : List ByteArray) (s2 : ByteArray) : g106 (d + 1) l1 s2 =
 joinV l1 s2 := by kernel_rfl

noncomputable def j62_0 (d : Nat)  (l3 : List ByteArray) : Option ByteArray :=
 obind (g106 d l3 (⟨#[32]⟩ : ByteArray)) fun r4 =>
 some r4
noncomputable def l62_0_b (d : Nat) (l1 : List Int) (kx62_0_0 : (List ByteArray) → Option ByteArray) (ag2 : ((List ByteArray) × Int) → Option ByteArray) (l3 : List ByteArray) (n4 : Int) : Option ByteArray :=
 oif (decide ((n4 : Int) < ((l1.length : Nat) : Int))) (
 oif (decide (0 ≤ (n4 : Int))) (
 obind (l1[(n4 : Int).toNat]?) fun n5 =>
 obind (g105 d n5) fun r6 =>
 oif (Nat.ble ((l3.length + [r6].length) * 16) roomMax) (
 ag2 ((l3 ++ [r6]), (IntKind.i64.wrap (n4 + 1)))) none) none) (
 kx62_0_0 l3)
noncomputable def l62_0 (d : Nat) (l1 : List Int) (kx62_0_0 : (List ByteArray) → Option ByteArray) (ag2 : ((List ByteArray) × Int) → Option ByteArray) (s : ((List ByteArray) × Int)) : Option ByteArray := l62_0_b d l1 kx62_0_0 ag2 s.1 s.2
theorem e62 (d : Nat) (l1 : List Int) : g62 (d + 1) l1 =
 oif (decide (0 ≤ (((l1.length : Nat) : Int) : Int))) (
 oif (Nat.ble 0 ((((l1.length : Nat) : Int) : Int).toNat) && Nat.ble (((((l1.length : Nat) : Int) : Int).toNat) * 16) roomMax) (
 iterP (l62_0 d l1 (j62_0 d)) fuelN ((List.replicate 0 ((⟨#[]⟩ : ByteArray) : ByteArray)), 0)) none) none := by kernel_rfl

theorem e24 (d : Nat) (x1 : ((Int × Int × Int) × Int × Int × Int × (List Int))) : g24 (d + 1) x1 =
 obind (g11 d x1) fun r2 =>
 oif (!r2) (
 some ((⟨#[]⟩ : ByteArray), false)) (
 obind (g61 d x1.1) fun r3 =>
 oif (Nat.ble ((r3 : ByteArray).size + ((⟨#[32]⟩ : ByteArray) : ByteArray).size) 9223372036854775807) (
 oif (Nat.ble (([x1.2.1, x1.2.2.1, x1.2.2.2.1].length + x1.2.2.2.2.length) * 8) roomMax) (
 obind (g62 d ([x1.2.1, x1.2.2.1, x1.2.2.2.1] ++ x1.2.2.2.2)) fun r4 =>
 oif (Nat.ble ((((r3 : ByteArray) ++ ((⟨#[32]⟩ : ByteArray) : ByteArray)) : ByteArray).size + (r4 : ByteArray).size) 9223372036854775807) (
 some (((((r3 : ByteArray) ++ ((⟨#[32]⟩ : ByteArray) : ByteArray)) : ByteArray) ++ (r4 : ByteArray)), true)) none) none) none) := by kernel_rfl

theorem e64 (d : Nat) (n1 : Int) : g64 (d + 1) n1 =
 oif (decide ((n1 : Int) < 10)) (
 some (strL [(IntKind.u8.wrap (IntKind.i64.wrap ((48 : Int) + n1)))])) (
 obind (g64 d (IntKind.i64.wrap (n1.tdiv 10))) fun r2 =>
 oif (Nat.ble ((r2 : ByteArray).size + ((strL [(IntKind.u8.wrap (IntKind.i64.wrap ((48 : Int) + (n1.tmod 10))))]) : ByteArray).size) 9223372036854775807) (
 some ((r2 : ByteArray) ++ ((strL [(IntKind.u8.wrap (IntKind.i64.wrap ((48 : Int) + (n1.tmod 10))))]) : ByteArray))) none) := by kernel_rfl

theorem e156 (d : Nat)  : g156 (d + 1) =
 some [(⟨#[109]⟩ : ByteArray), (⟨#[107]⟩ : ByteArray), (⟨#[]⟩ : ByteArray)] := by kernel_rfl

theorem e157 (d : Nat) (n1 : Int) : g157 (d + 1) n1 =
 oif (decide (0 ≤ (n1 : Int))) (
 oif (Nat.blt ((n1 : Int).toNat) ([1000000, 1000, 1].length)) (
 obind ([1000000, 1000, 1][(n1 : Int).toNat]?) fun n2 =>
 some n2) none) none := by kernel_rfl

noncomputable def j140_0 (d : Nat)  (l4 : List ByteArray) : Option (List ByteArray) :=
 some l4
noncomputable def j140_1 (d : Nat) (n1 : Int) (ag3 : ((List ByteArray) × Int) → Option (List ByteArray)) (l4 : List ByteArray) (n5 : Int) (s6 : ByteArray) (n7 : Int) (n8 : Int) (b9 : Bool) (b10 : Bool) (b11 : Bool) : Option (List ByteArray) :=
 oif b11 (
 obind (g157 d n5) fun r12 =>
 oif ((r12 : Int) == 0) none (
 obind (g64 d (IntKind.i64.wrap (n1.tdiv r12))) fun r13 =>
 oif (Nat.ble ((r13 : ByteArray).size + (s6 : ByteArray).size) 9223372036854775807) (
 oif (Nat.ble ((l4.length + [((r13 : ByteArray) ++ (s6 : ByteArray))].length) * 16) roomMax) (
 ag3 ((l4 ++ [((r13 : ByteArray) ++ (s6 : ByteArray))]), (IntKind.i64.wrap (n5 + 1)))) none) none)) (
 ag3 (l4, (IntKind.i64.wrap (n5 + 1))))
noncomputable def l140_0_b (d : Nat) (n1 : Int) (r2 : List ByteArray) (kx140_0_0 : (List ByteArray) → Option (List ByteArray)) (ag3 : ((List ByteArray) × Int) → Option (List ByteArray)) (l4 : List ByteArray) (n5 : Int) : Option (List ByteArray) :=
 oif (decide ((n5 : Int) < ((r2.length : Nat) : Int))) (
 oif (decide (0 ≤ (n5 : Int))) (
 oif (Nat.blt ((n5 : Int).toNat) r2.length) (
 obind (r2[(n5 : Int).toNat]?) fun s6 =>
 obind (g157 d n5) fun r7 =>
 oif ((r7 : Int) == 0) none (
 oif (((n1.tmod r7) : Int) == 0) (
 oif (decide ((n1 : Int) > 0)) (
 j140_1 d n1 ag3 l4 n5 s6 r7 (n1.tmod r7) (((n1.tmod r7) : Int) == 0) true true) (
 j140_1 d n1 ag3 l4 n5 s6 r7 (n1.tmod r7) (((n1.tmod r7) : Int) == 0) true ((s6 : ByteArray).toList == ((⟨#[]⟩ : ByteArray) : ByteArray).toList))) (
 j140_1 d n1 ag3 l4 n5 s6 r7 (n1.tmod r7) (((n1.tmod r7) : Int) == 0) false false))) none) none) (
 kx140_0_0 l4)
noncomputable def l140_0 (d : Nat) (n1 : Int) (r2 : List ByteArray) (kx140_0_0 : (List ByteArray) → Option (List ByteArray)) (ag3 : ((List ByteArray) × Int) → Option (List ByteArray)) (s : ((List ByteArray) × Int)) : Option (List ByteArray) := l140_0_b d n1 r2 kx140_0_0 ag3 s.1 s.2
theorem e140 (d : Nat) (n1 : Int) : g140 (d + 1) n1 =
 obind (g156 d) fun r2 =>
 iterP (l140_0 d n1 r2 (j140_0 d)) fuelN ([], 0) := by kernel_rfl

theorem e107 (d : Nat) (n1 : Int) : g107 (d + 1) n1 =
 obind (g140 d n1) fun r2 =>
 oif (Nat.blt 0 r2.length) (
 obind (r2[0]?) fun s3 =>
 some s3) none := by kernel_rfl

theorem e63 (d : Nat) (x1 : (Int × Int × Int)) : g63 (d + 1) x1 =
 obind (g107 d x1.1) fun r2 =>
 oif (Nat.ble ((r2 : ByteArray).size + ((⟨#[47]⟩ : ByteArray) : ByteArray).size) 9223372036854775807) (
 obind (g107 d x1.2.1) fun r3 =>
 oif (Nat.ble ((((r2 : ByteArray) ++ ((⟨#[47]⟩ : ByteArray) : ByteArray)) : ByteArray).size + (r3 : ByteArray).size) 9223372036854775807) (
 oif (Nat.ble ((((((r2 : ByteArray) ++ ((⟨#[47]⟩ : ByteArray) : ByteArray)) : ByteArray) ++ (r3 : ByteArray)) : ByteArray).size + ((⟨#[47]⟩ : ByteArray) : ByteArray).size) 9223372036854775807) (
 obind (g107 d x1.2.2) fun r4 =>
 oif (Nat.ble ((((((((r2 : ByteArray) ++ ((⟨#[47]⟩ : ByteArray) : ByteArray)) : ByteArray) ++ (r3 : ByteArray)) : ByteArray) ++ ((⟨#[47]⟩ : ByteArray) : ByteArray)) : ByteArray).size + (r4 : ByteArray).size) 9223372036854775807) (
 some ((((((((r2 : ByteArray) ++ ((⟨#[47]⟩ : ByteArray) : ByteArray)) : ByteArray) ++ (r3 : ByteArray)) : ByteArray) ++ ((⟨#[47]⟩ : ByteArray) : ByteArray)) : ByteArray) ++ (r4 : ByteArray))) none) none) none) none := by kernel_rfl

noncomputable def j25_0 (d : Nat)  (s8 : ByteArray) : Option (ByteArray × Bool) :=
 some (s8, true)
noncomputable def l25_0_b (d : Nat) (x1 : ((Int × Int × Int) × Int × Int × Int × (List Int))) (kx25_0_0 : ByteArray → Option (ByteArray × Bool)) (ag7 : (ByteArray × Int) → Option (ByteArray × Bool)) (s8 : ByteArray) (n9 : Int) : Option (ByteArray × Bool) :=
 oif (decide ((n9 : Int) < ((x1.2.2.2.2.length : Nat) : Int))) (
 oif (decide (0 ≤ (n9 : Int))) (
 obind (x1.2.2.2.2[(n9 : Int).toNat]?) fun n10 =>
 obind (g64 d n10) fun r11 =>
 oif (Nat.ble (((⟨#[32]⟩ : ByteArray) : ByteArray).size + (r11 : ByteArray).size) 9223372036854775807) (
 oif (Nat.ble ((s8 : ByteArray).size + ((((⟨#[32]⟩ : ByteArray) : ByteArray) ++ (r11 : ByteArray)) : ByteArray).size) 9223372036854775807) (
 ag7 (((s8 : ByteArray) ++ ((((⟨#[32]⟩ : ByteArray) : ByteArray) ++ (r11 : ByteArray)) : ByteArray)), (IntKind.i64.wrap (n9 + 1)))) none) none) none) (
 kx25_0_0 s8)
noncomputable def l25_0 (d : Nat) (x1 : ((Int × Int × Int) × Int × Int × Int × (List Int))) (kx25_0_0 : ByteArray → Option (ByteArray × Bool)) (ag7 : (ByteArray × Int) → Option (ByteArray × Bool)) (s : (ByteArray × Int)) : Option (ByteArray × Bool) := l25_0_b d x1 kx25_0_0 ag7 s.1 s.2
theorem e25 (d : Nat) (x1 : ((Int × Int × Int) × Int × Int × Int × (List Int))) : g25 (d + 1) x1 =
 obind (g44 d x1) fun r2 =>
 oif (!r2) (
 some ((⟨#[]⟩ : ByteArray), false)) (
 obind (g63 d x1.1) fun r3 =>
 oif (Nat.ble ((r3 : ByteArray).size + ((⟨#[32]⟩ : ByteArray) : ByteArray).size) 9223372036854775807) (
 obind (g64 d x1.2.1) fun r4 =>
 oif (Nat.ble ((((r3 : ByteArray) ++ ((⟨#[32]⟩ : ByteArray) : ByteArray)) : ByteArray).size + (r4 : ByteArray).size) 9223372036854775807) (
 oif (Nat.ble ((((((r3 : ByteArray) ++ ((⟨#[32]⟩ : ByteArray) : ByteArray)) : ByteArray) ++ (r4 : ByteArray)) : ByteArray).size + ((⟨#[32]⟩ : ByteArray) : ByteArray).size) 9223372036854775807) (
 obind (g64 d x1.2.2.1) fun r5 =>
 oif (Nat.ble ((((((((r3 : ByteArray) ++ ((⟨#[32]⟩ : ByteArray) : ByteArray)) : ByteArray) ++ (r4 : ByteArray)) : ByteArray) ++ ((⟨#[32]⟩ : ByteArray) : ByteArray)) : ByteArray).size + (r5 : ByteArray).size) 9223372036854775807) (
 oif (Nat.ble ((((((((((r3 : ByteArray) ++ ((⟨#[32]⟩ : ByteArray) : ByteArray)) : ByteArray) ++ (r4 : ByteArray)) : ByteArray) ++ ((⟨#[32]⟩ : ByteArray) : ByteArray)) : ByteArray) ++ (r5 : ByteArray)) : ByteArray).size + ((⟨#[32]⟩ : ByteArray) : ByteArray).size) 9223372036854775807) (
 obind (g64 d x1.2.2.2.1) fun r6 =>
 oif (Nat.ble ((((((((((((r3 : ByteArray) ++ ((⟨#[32]⟩ : ByteArray) : ByteArray)) : ByteArray) ++ (r4 : ByteArray)) : ByteArray) ++ ((⟨#[32]⟩ : ByteArray) : ByteArray)) : ByteArray) ++ (r5 : ByteArray)) : ByteArray) ++ ((⟨#[32]⟩ : ByteArray) : ByteArray)) : ByteArray).size + (r6 : ByteArray).size) 9223372036854775807) (
 iterP (l25_0 d x1 (j25_0 d)) fuelN (((((((((((((r3 : ByteArray) ++ ((⟨#[32]⟩ : ByteArray) : ByteArray)) : ByteArray) ++ (r4 : ByteArray)) : ByteArray) ++ ((⟨#[32]⟩ : ByteArray) : ByteArray)) : ByteArray) ++ (r5 : ByteArray)) : ByteArray) ++ ((⟨#[32]⟩ : ByteArray) : ByteArray)) : ByteArray) ++ (r6 : ByteArray)), 0)) none) none) none) none) none) none) := by kernel_rfl

noncomputable def j3_0 (d : Nat) (l2 : List Int) (b15 : Bool) : Option Bool :=
 obind (g20 d l2) fun r16 =>
 obind (g21 d r16.1 r16.2) fun r17 =>
 obind (g22 d r16.1 r16.2) fun r18 =>
 obind (g23 d l2) fun r19 =>
 obind (g24 d r19) fun r20 =>
 obind (g25 d r19) fun r21 =>
 oif (r17.2 == r18.2) (
 oif (r17.1 == r18.1) (
 oif (r20.2 == r21.2) (
 some ((r20.1 : ByteArray).toList == (r21.1 : ByteArray).toList)) (
 some false)) (
 some false)) (
 some false)
noncomputable def j3_1 (d : Nat) (l2 : List Int) (b16 : Bool) : Option Bool :=
 j3_0 d l2 b16
noncomputable def l3_0_b (d : Nat) (r11 : (((Int × Int × Int) × Int × Int × Int × (List Int)) × Int)) (r13 : (((Int × Int × Int) × Int × Int × Int × (List Int)) × Bool)) (kx3_0_0 : Bool → Option Bool) (ag15 : (Bool × Int) → Option Bool) (b16 : Bool) (n17 : Int) : Option Bool :=
 oif (decide ((n17 : Int) < (([r11.2, (IntKind.i64.wrap (r11.2 + 1)), (IntKind.i64.wrap (r11.2 + 10)), (IntKind.i64.wrap (r11.2 + 1000)), 100000].length : Nat) : Int))) (
 oif (decide (0 ≤ (n17 : Int))) (
 oif (Nat.blt ((n17 : Int).toNat) ([r11.2, (IntKind.i64.wrap (r11.2 + 1)), (IntKind.i64.wrap (r11.2 + 10)), (IntKind.i64.wrap (r11.2 + 1000)), 100000].length)) (
 obind ([r11.2, (IntKind.i64.wrap (r11.2 + 1)), (IntKind.i64.wrap (r11.2 + 10)), (IntKind.i64.wrap (r11.2 + 1000)), 100000][(n17 : Int).toNat]?) fun n18 =>
 obind (g13 d r13.1 n18) fun r19 =>
 obind (g13 d r11.1 n18) fun r20 =>
 oif (!(r19.2 == r20.2)) (
 some false) (
 oif r19.2 (
 oif (decide ((r19.1 : Int) > r20.1)) (
 some false) (
 ag15 (b16, (IntKind.i64.wrap (n17 + 1))))) (
 ag15 (b16, (IntKind.i64.wrap (n17 + 1)))))) none) none) (
 kx3_0_0 b16)
noncomputable def l3_0 (d : Nat) (r11 : (((Int × Int × Int) × Int × Int × Int × (List Int)) × Int)) (r13 : (((Int × Int × Int) × Int × Int × Int × (List Int)) × Bool)) (kx3_0_0 : Bool → Option Bool) (ag15 : (Bool × Int) → Option Bool) (s : (Bool × Int)) : Option Bool := l3_0_b d r11 r13 kx3_0_0 ag15 s.1 s.2
noncomputable def j3_2 (d : Nat) (l2 : List Int) (r11 : (((Int × Int × Int) × Int × Int × Int × (List Int)) × Int)) (r12 : (((Int × Int × Int) × Int × Int × Int × (List Int)) × Bool)) (r13 : (((Int × Int × Int) × Int × Int × Int × (List Int)) × Bool)) (b14 : Bool) : Option Bool :=
 oif b14 (
 some false) (
 oif r12.2 (
 iterP (l3_0 d r11 r13 (j3_1 d l2)) fuelN (false, 0)) (
 j3_0 d l2 false))
noncomputable def j3_3 (d : Nat) (l2 : List Int) (b10 : Bool) : Option Bool :=
 oif b10 (
 some false) (
 obind (g17 d l2) fun r11 =>
 obind (g18 d r11.1 r11.2) fun r12 =>
 obind (g19 d r11.1 r11.2) fun r13 =>
 oif (!(r12.2 == r13.2)) (
 j3_2 d l2 r11 r12 r13 true) (
 obind (g16 d r12.1 r13.1) fun r14 =>
 j3_2 d l2 r11 r12 r13 (!r14)))
noncomputable def j3_4 (d : Nat) (l2 : List Int) (r4 : ((Int × Int × Int) × Int × Int × Int × (List Int)))  : Option Bool :=
 obind (g14 d r4) fun r8 =>
 obind (g15 d r4) fun r9 =>
 oif (!(r8.2.2 == r9.2.2)) (
 j3_3 d l2 true) (
 oif ((r8.2.1 : Int) != r9.2.1) (
 j3_3 d l2 true) (
 obind (g16 d r8.1 r9.1) fun r10 =>
 oif (!r10) (
 j3_3 d l2 true) (
 oif r8.2.2 (
 oif ((r9.1.2.2.2.1 : Int) != (IntKind.i64.wrap (r4.2.2.2.1 + r9.2.1))) (
 j3_3 d l2 true) (
 j3_3 d l2 (((IntKind.i64.wrap (((r9.1.2.2.2.2.length : Nat) : Int) + 1)) : Int) != ((r4.2.2.2.2.length : Nat) : Int)))) (
 j3_3 d l2 false))))
noncomputable def j3_5 (d : Nat) (l2 : List Int) (r4 : ((Int × Int × Int) × Int × Int × Int × (List Int))) (r6 : (Int × Bool)) (b9 : Bool) : Option Bool :=
 oif b9 (
 some false) (
 oif (decide ((r6.1 : Int) > r4.2.1)) (
 obind (g13 d r4 (IntKind.i64.wrap (r6.1 - 1))) fun r10 =>
 oif (!r10.2) (
 some false) (
 oif (Nat.blt 0 r4.2.2.2.2.length) (
 obind (r4.2.2.2.2[0]?) fun n11 =>
 oif (decide ((r10.1 : Int) ≥ (IntKind.i64.wrap (r4.2.2.2.1 + n11)))) (
 some false) (
 j3_4 d l2 r4)) none)) (
 j3_4 d l2 r4))
noncomputable def j3_6 (d : Nat) (l2 : List Int) (r4 : ((Int × Int × Int) × Int × Int × Int × (List Int))) (r5 : (Int × Bool)) (r6 : (Int × Bool)) (b7 : Bool) : Option Bool :=
 oif b7 (
 some false) (
 oif r5.2 (
 obind (g13 d r4 r6.1) fun r8 =>
 oif (!r8.2) (
 j3_5 d l2 r4 r6 true) (
 oif (Nat.blt 0 r4.2.2.2.2.length) (
 obind (r4.2.2.2.2[0]?) fun n9 =>
 j3_5 d l2 r4 r6 (decide ((r8.1 : Int) < (IntKind.i64.wrap (r4.2.2.2.1 + n9))))) none)) (
 j3_4 d l2 r4))
theorem e3 (d : Nat) (l1 : List Int) (l2 : List Int) : g3 (d + 1) l1 l2 =
 obind (g7 d l1 l2) fun r3 =>
 oif r3 (
 some true) (
 obind (g8 d l1) fun r4 =>
 obind (g9 d r4) fun r5 =>
 obind (g10 d r4) fun r6 =>
 oif (!(r5.2 == r6.2)) (
 j3_6 d l2 r4 r5 r6 true) (
 oif ((r5.1 : Int) != r6.1) (
 j3_6 d l2 r4 r5 r6 true) (
 obind (g11 d r4) fun r7 =>
 obind (g12 d r4) fun r8 =>
 j3_6 d l2 r4 r5 r6 (!(r7 == r8))))) := by kernel_rfl

end Go.Proofs.YtkanolaeiaieaaaDoor
