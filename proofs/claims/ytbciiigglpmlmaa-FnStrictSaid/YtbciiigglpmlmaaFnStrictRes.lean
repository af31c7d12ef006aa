/-
  The residual forms of the program's functions under the interpreter by value, printed by program (wip/pv/gen2.py); each equation is checked by the kernel.
  Conditions: none.
-/
import Derived.Test.YtbciiigglpmlmaaVDef
import Derived.Test.YtbciiigglpmlmaaProg
import Derived.KernelRfl
set_option linter.all false
set_option maxRecDepth 1000000
namespace Go.Proofs.Ytbciiigglpmlmaa
open Go.Ev Go.Pv

theorem fuel_is : ∃ n : Nat, n = 4194304 := ⟨_, rfl⟩
noncomputable def fuelN : Nat := Classical.choose fuel_is
theorem fuelN_eq : fuelN = 4194304 := Classical.choose_spec fuel_is
def pvSig : FuncId → Sig
  | 3 => ⟨[(.ro, (.sl (.int .u8))), (.ro, (.sl (.int .u8)))], [(false, .bool)]⟩
  | 5 => ⟨[(.ro, (.sl (.int .u8)))], [(true, (.sl (.int .i64))), (true, (.sl (.pair (.int .i64) (.int .i64)))), (false, (.int .i64))]⟩
  | 6 => ⟨[(.ro, (.sl (.int .i64))), (.ro, (.sl (.pair (.int .i64) (.int .i64)))), (.ro, (.int .i64))], [(true, (.sl (.int .i64))), (false, .bool)]⟩
  | 7 => ⟨[(.ro, (.sl (.int .i64))), (.ro, (.sl (.pair (.int .i64) (.int .i64)))), (.ro, (.int .i64))], [(true, (.sl (.int .i64))), (false, .bool)]⟩
  | 8 => ⟨[(.ro, (.sl (.int .i64))), (.ro, (.sl (.pair (.int .i64) (.int .i64)))), (.ro, (.int .i64))], [(false, (.int .i64)), (false, .bool)]⟩
  | 9 => ⟨[(.ro, (.sl (.int .i64))), (.ro, (.sl (.pair (.int .i64) (.int .i64)))), (.ro, (.int .i64))], [(false, (.int .i64)), (false, .bool)]⟩
  | 10 => ⟨[(.ro, (.sl (.int .u8)))], [(false, (.sl (.int .i64))), (false, (.sl (.pair (.int .i64) (.int .i64)))), (true, (.sl (.int .i64)))]⟩
  | 11 => ⟨[(.ro, (.sl (.int .i64))), (.ro, (.sl (.pair (.int .i64) (.int .i64)))), (.ro, (.sl (.int .i64)))], [(false, .bool), (false, .bool)]⟩
  | 12 => ⟨[(.ro, (.sl (.int .i64))), (.ro, (.sl (.pair (.int .i64) (.int .i64)))), (.ro, (.sl (.int .i64)))], [(false, .bool), (false, .bool)]⟩
  | 13 => ⟨[(.ro, (.sl (.int .u8)))], [(false, (.sl (.pair (.int .i64) (.int .i64)))), (true, (.sl (.int .i64)))]⟩
  | 14 => ⟨[(.ro, (.sl (.pair (.int .i64) (.int .i64)))), (.ro, (.sl (.int .i64)))], [(true, (.sl (.int .i64))), (false, .bool)]⟩
  | 15 => ⟨[(.ro, (.sl (.pair (.int .i64) (.int .i64)))), (.ro, (.sl (.int .i64)))], [(true, (.sl (.int .i64))), (false, .bool)]⟩
  | 16 => ⟨[(.ro, (.sl (.int .u8)))], [(true, (.sl (.int .i64))), (true, (.sl (.pair (.int .i64) (.int .i64)))), (false, (.int .i64)), (false, (.int .i64))]⟩
  | 17 => ⟨[(.ro, (.sl (.int .i64))), (.ro, (.sl (.pair (.int .i64) (.int .i64)))), (.ro, (.int .i64)), (.ro, (.int .i64))], [(true, (.sl (.int .i64))), (false, .bool)]⟩
  | 18 => ⟨[(.ro, (.sl (.int .i64))), (.ro, (.sl (.pair (.int .i64) (.int .i64)))), (.ro, (.int .i64)), (.ro, (.int .i64))], [(true, (.sl (.int .i64))), (false, .bool)]⟩
  | 19 => ⟨[(.ro, (.sl (.int .i64))), (.ro, (.sl (.int .i64)))], [(false, .bool)]⟩
  | 32 => ⟨[(.ps, (.pair (.sl (.int .u8)) (.pair (.int .i64) (.int .u64))))], [(true, (.sl (.int .i64)))]⟩
  | 33 => ⟨[(.ps, (.pair (.sl (.int .u8)) (.pair (.int .i64) (.int .u64))))], [(true, (.sl (.pair (.int .i64) (.int .i64))))]⟩
  | 34 => ⟨[(.ps, (.pair (.sl (.int .u8)) (.pair (.int .i64) (.int .u64))))], [(false, (.int .i64))]⟩
  | 35 => ⟨[(.ro, (.sl (.int .i64))), (.ro, (.sl (.pair (.int .i64) (.int .i64)))), (.ro, (.int .i64))], [(false, .bool)]⟩
  | 36 => ⟨[(.ro, (.sl (.int .i64))), (.ro, (.sl (.pair (.int .i64) (.int .i64)))), (.ro, (.int .i64))], [(true, (.sl (.int .i64)))]⟩
  | 37 => ⟨[(.ro, (.sl (.int .i64))), (.ro, (.sl (.pair (.int .i64) (.int .i64)))), (.ro, (.int .i64))], [(false, .bool)]⟩
  | 38 => ⟨[(.ro, (.sl (.int .i64))), (.ro, (.sl (.pair (.int .i64) (.int .i64)))), (.ro, (.int .i64))], [(true, (.sl (.int .i64)))]⟩
  | 39 => ⟨[(.ro, (.sl (.int .i64)))], [(false, (.int .i64))]⟩
  | 40 => ⟨[(.ro, (.int .i64)), (.ro, (.int .i64))], [(false, (.int .i64))]⟩
  | 41 => ⟨[(.ps, (.pair (.sl (.int .u8)) (.pair (.int .i64) (.int .u64)))), (.ro, (.sl (.int .i64))), (.ro, (.sl (.pair (.int .i64) (.int .i64))))], [(true, (.sl (.int .i64)))]⟩
  | 42 => ⟨[(.ro, (.sl (.int .i64)))], [(false, .bool)]⟩
  | 43 => ⟨[(.ro, (.sl (.pair (.int .i64) (.int .i64))))], [(false, .bool)]⟩
  | 44 => ⟨[(.ro, (.sl (.pair (.int .i64) (.int .i64)))), (.ro, (.sl (.int .i64)))], [(false, .bool)]⟩
  | 45 => ⟨[(.ro, (.sl (.int .i64)))], [(false, .bool)]⟩
  | 46 => ⟨[(.ro, (.sl (.pair (.int .i64) (.int .i64)))), (.ro, (.sl (.int .i64)))], [(false, .bool)]⟩
  | 47 => ⟨[(.ps, (.pair (.sl (.int .u8)) (.pair (.int .i64) (.int .u64)))), (.ro, (.int .i64))], [(false, (.int .i64))]⟩
  | 48 => ⟨[(.ro, (.int .i64)), (.ro, (.int .i64)), (.ro, (.int .i64))], [(false, .bool)]⟩
  | 49 => ⟨[(.ps, (.pair (.sl (.int .u8)) (.pair (.int .i64) (.int .u64)))), (.ro, (.int .i64))], [(false, .bool)]⟩
  | 52 => ⟨[(.ro, (.int .i64))], [(false, .bool)]⟩
  | 65 => ⟨[(.ps, (.pair (.sl (.int .u8)) (.pair (.int .i64) (.int .u64)))), (.ro, (.sl (.int .i64)))], [(false, (.int .i64))]⟩
  | 67 => ⟨[(.ps, (.pair (.sl (.int .u8)) (.pair (.int .i64) (.int .u64))))], [(true, (.sl (.int .i64)))]⟩
  | 68 => ⟨[(.ro, (.sl (.int .i64))), (.ro, (.int .i64))], [(true, (.sl (.int .i64)))]⟩
  | 69 => ⟨[(.ro, (.sl (.pair (.int .i64) (.int .i64))))], [(false, .bool)]⟩
  | 70 => ⟨[(.ro, (.int .i64))], [(false, .bool)]⟩
  | 71 => ⟨[(.ro, (.sl (.int .i64))), (.ro, (.int .i64)), (.ro, (.int .i64))], [(false, .bool)]⟩
  | 72 => ⟨[(.ps, (.pair (.sl (.int .u8)) (.pair (.int .i64) (.int .u64))))], [(false, (.int .i64))]⟩
  | 82 => ⟨[(.ro, (.int .u64)), (.ro, (.int .u64))], [(false, (.int .u64)), (false, (.int .u64))]⟩
  | 83 => ⟨[(.ro, (.int .i64))], [(false, .bool)]⟩
  | 93 => ⟨[(.ro, (.int .u64)), (.ro, (.int .u64))], [(false, (.int .u64)), (false, (.int .u64))]⟩
  | _ => ⟨[], []⟩
def pvLoops : FuncId → Nat → LoopA
  | 3, 0 => ⟨[(4, false, .bool), (202, false, (.int .i64))], [], [], []⟩
  | 3, 1 => ⟨[(4, false, .bool), (235, false, (.int .i64))], [], [], []⟩
  | 3, 2 => ⟨[(4, false, .bool), (247, false, (.int .i64))], [], [], []⟩
  | 9, 0 => ⟨[(8, false, (.int .i64)), (26, false, (.int .i64))], [], [], []⟩
  | 11, 0 => ⟨[(6, false, .bool), (7, false, .bool), (28, false, (.int .i64))], [], [], []⟩
  | 11, 1 => ⟨[(6, false, .bool), (7, false, .bool), (35, false, (.int .i64))], [], [], []⟩
  | 12, 0 => ⟨[(6, false, .bool), (7, false, .bool), (23, false, (.int .i64))], [], [], []⟩
  | 12, 1 => ⟨[(6, false, .bool), (7, false, .bool), (30, false, (.int .i64))], [], [], []⟩
  | 14, 0 => ⟨[(6, true, (.sl (.int .i64))), (21, false, (.int .i64))], [], [], []⟩
  | 15, 0 => ⟨[(6, true, (.sl (.int .i64))), (15, false, (.int .i64))], [], [], []⟩
  | 17, 0 => ⟨[(11, true, (.sl (.int .i64))), (12, false, (.int .i64))], [], [], []⟩
  | 18, 0 => ⟨[(11, true, (.sl (.int .i64))), (12, false, (.int .i64))], [], [], []⟩
  | 19, 0 => ⟨[(4, false, .bool), (13, false, (.int .i64))], [], [], []⟩
  | 32, 0 => ⟨[(12, false, (.int .i64))], [(0, (.pair (.sl (.int .u8)) (.pair (.int .i64) (.int .u64))))], [(3, (.int .i64))], []⟩
  | 33, 0 => ⟨[(3, true, (.sl (.pair (.int .i64) (.int .i64)))), (4, false, (.int .i64)), (11, false, (.int .i64))], [(0, (.pair (.sl (.int .u8)) (.pair (.int .i64) (.int .u64))))], [], []⟩
  | 36, 0 => ⟨[(9, false, (.int .i64)), (10, false, (.int .i64)), (11, false, (.int .i64))], [], [(7, (.int .i64)), (8, (.os (.int .i64)))], []⟩
  | 36, 1 => ⟨[(9, false, (.int .i64)), (10, false, (.int .i64))], [], [(8, (.os (.int .i64)))], []⟩
  | 36, 2 => ⟨[(9, false, (.int .i64)), (80, false, (.int .i64))], [], [], []⟩
  | 38, 0 => ⟨[(9, false, (.int .i64)), (10, false, (.int .i64)), (11, false, (.int .i64))], [], [(7, (.int .i64)), (8, (.os (.int .i64)))], []⟩
  | 38, 1 => ⟨[(9, false, (.int .i64)), (10, false, (.int .i64))], [], [(7, (.int .i64)), (8, (.os (.int .i64)))], []⟩
  | 38, 2 => ⟨[(13, false, (.int .i64))], [], [], []⟩
  | 39, 0 => ⟨[(3, false, (.int .i64)), (4, false, (.int .i64))], [], [], []⟩
  | 42, 0 => ⟨[(2, false, .bool), (7, false, (.int .i64))], [], [], []⟩
  | 43, 0 => ⟨[(2, false, .bool), (7, false, (.int .i64))], [], [], []⟩
  | 44, 0 => ⟨[(4, false, .bool), (14, false, (.int .i64))], [], [], []⟩
  | 46, 0 => ⟨[(4, false, .bool), (19, false, (.int .i64))], [], [], []⟩
  | 67, 0 => ⟨[(3, true, (.sl (.int .i64)))], [(0, (.pair (.sl (.int .u8)) (.pair (.int .i64) (.int .u64))))], [], []⟩
  | 68, 0 => ⟨[(8, false, (.int .i64))], [], [(7, (.int .i64))], []⟩
  | 69, 0 => ⟨[(2, false, .bool), (7, false, (.int .i64))], [], [], []⟩
  | 71, 0 => ⟨[(6, false, .bool), (11, false, (.int .i64))], [], [], []⟩
  | _, _ => ⟨[], [], [], []⟩
def pvEloops : FuncId → Nat → List (Nat × Value)
  | 3, 0 => [(4, (.bool false)), (5, (.slice none 0 0)), (6, (.slice none 0 0)), (8, (.slice none 0 0)), (9, (.bool false)), (10, (.slice none 0 0)), (14, (.int .i64 0)), (29, (.slice none 0 0)), (30, (.slice none 0 0)), (32, (.int .i64 0)), (200, (.slice none 0 0)), (201, (.int .i64 0)), (202, (.int .i64 0))]
  | 3, 1 => [(4, (.bool false)), (5, (.slice none 0 0)), (6, (.slice none 0 0)), (8, (.slice none 0 0)), (10, (.slice none 0 0)), (14, (.int .i64 0)), (233, (.slice none 0 0)), (234, (.int .i64 0)), (235, (.int .i64 0))]
  | 3, 2 => [(4, (.bool false)), (5, (.slice none 0 0)), (6, (.slice none 0 0)), (8, (.slice none 0 0)), (10, (.slice none 0 0)), (14, (.int .i64 0)), (39, (.int .i64 0)), (40, (.int .i64 0)), (233, (.slice none 0 0)), (234, (.int .i64 0)), (235, (.int .i64 0)), (236, (.bool false)), (237, (.int .i64 0)), (238, (.pointer (some ⟨0, 0, none⟩))), (239, (.int .i64 0)), (240, (.int .i64 0)), (241, (.int .i64 0)), (242, (.bool false)), (243, (.slice none 0 0)), (244, (.int .i64 0)), (245, (.slice none 0 0)), (246, (.int .i64 0)), (247, (.int .i64 0))]
  | 9, 0 => [(6, (.int .i64 0)), (7, (.bool false)), (8, (.int .i64 0)), (24, (.slice none 0 0)), (25, (.int .i64 0)), (26, (.int .i64 0))]
  | 11, 0 => [(0, (.slice none 0 0)), (1, (.slice none 0 0)), (2, (.slice none 0 0)), (6, (.bool false)), (7, (.bool false)), (26, (.slice none 0 0)), (27, (.int .i64 0)), (28, (.int .i64 0))]
  | 11, 1 => [(0, (.slice none 0 0)), (1, (.slice none 0 0)), (2, (.slice none 0 0)), (6, (.bool false)), (7, (.bool false)), (8, (.int .i64 0)), (9, (.pointer (some ⟨0, 0, none⟩))), (26, (.slice none 0 0)), (27, (.int .i64 0)), (28, (.int .i64 0)), (29, (.bool false)), (30, (.int .i64 0)), (31, (.pointer (some ⟨0, 0, none⟩))), (32, (.agg #[(.int .i64 0), (.int .i64 0)])), (33, (.slice none 0 0)), (34, (.int .i64 0)), (35, (.int .i64 0))]
  | 12, 0 => [(0, (.slice none 0 0)), (1, (.slice none 0 0)), (2, (.slice none 0 0)), (6, (.bool false)), (7, (.bool false)), (21, (.slice none 0 0)), (22, (.int .i64 0)), (23, (.int .i64 0))]
  | 12, 1 => [(0, (.slice none 0 0)), (1, (.slice none 0 0)), (2, (.slice none 0 0)), (6, (.bool false)), (7, (.bool false)), (8, (.int .i64 0)), (9, (.pointer (some ⟨0, 0, none⟩))), (21, (.slice none 0 0)), (22, (.int .i64 0)), (23, (.int .i64 0)), (24, (.bool false)), (25, (.int .i64 0)), (26, (.pointer (some ⟨0, 0, none⟩))), (27, (.agg #[(.int .i64 0), (.int .i64 0)])), (28, (.slice none 0 0)), (29, (.int .i64 0)), (30, (.int .i64 0))]
  | 14, 0 => [(0, (.slice none 0 0)), (4, (.slice none 0 0)), (5, (.bool false)), (6, (.slice none 0 0)), (19, (.slice none 0 0)), (20, (.int .i64 0)), (21, (.int .i64 0))]
  | 15, 0 => [(0, (.slice none 0 0)), (4, (.slice none 0 0)), (5, (.bool false)), (6, (.slice none 0 0)), (13, (.slice none 0 0)), (14, (.int .i64 0)), (15, (.int .i64 0))]
  | 17, 0 => [(1, (.slice none 0 0)), (3, (.int .i64 0)), (8, (.slice none 0 0)), (9, (.bool false)), (10, (.slice none 0 0)), (11, (.slice none 0 0)), (12, (.int .i64 0))]
  | 18, 0 => [(1, (.slice none 0 0)), (3, (.int .i64 0)), (8, (.slice none 0 0)), (9, (.bool false)), (10, (.slice none 0 0)), (11, (.slice none 0 0)), (12, (.int .i64 0))]
  | 19, 0 => [(0, (.slice none 0 0)), (1, (.slice none 0 0)), (4, (.bool false)), (12, (.int .i64 0)), (13, (.int .i64 0))]
  | 32, 0 => [(0, (.pointer (some ⟨0, 0, none⟩))), (2, (.slice none 0 0)), (3, (.slice none 0 0)), (4, (.int .i64 0)), (11, (.int .i64 0)), (12, (.int .i64 0))]
  | 33, 0 => [(0, (.pointer (some ⟨0, 0, none⟩))), (2, (.slice none 0 0)), (3, (.slice none 0 0)), (4, (.int .i64 0)), (9, (.slice none 0 0)), (10, (.int .i64 0)), (11, (.int .i64 0))]
  | 36, 0 => [(0, (.slice none 0 0)), (1, (.slice none 0 0)), (2, (.int .i64 0)), (6, (.slice none 0 0)), (7, (.slice none 0 0)), (8, (.pointer (some ⟨0, 0, none⟩))), (9, (.int .i64 0)), (10, (.int .i64 0)), (11, (.int .i64 0))]
  | 36, 1 => [(0, (.slice none 0 0)), (1, (.slice none 0 0)), (2, (.int .i64 0)), (6, (.slice none 0 0)), (7, (.slice none 0 0)), (8, (.pointer (some ⟨0, 0, none⟩))), (9, (.int .i64 0)), (10, (.int .i64 0)), (11, (.int .i64 0)), (20, (.int .i64 0)), (21, (.bool false)), (22, (.bool false)), (27, (.bool false)), (30, (.int .i64 0)), (31, (.bool false))]
  | 36, 2 => [(0, (.slice none 0 0)), (1, (.slice none 0 0)), (2, (.int .i64 0)), (6, (.slice none 0 0)), (7, (.slice none 0 0)), (8, (.pointer (some ⟨0, 0, none⟩))), (9, (.int .i64 0)), (10, (.int .i64 0)), (11, (.int .i64 0)), (20, (.int .i64 0)), (21, (.bool false)), (22, (.bool false)), (27, (.bool false)), (30, (.int .i64 0)), (31, (.bool false)), (39, (.int .i64 0)), (40, (.slice none 0 0)), (41, (.int .i64 0)), (42, (.bool false)), (43, (.bool false)), (51, (.bool false)), (79, (.agg #[(.slice none 0 0), (.slice none 0 0), (.slice none 0 0), (.slice none 0 0), (.slice none 0 0), (.slice none 0 0), (.slice none 0 0), (.slice none 0 0)])), (80, (.int .i64 0))]
  | 38, 0 => [(0, (.slice none 0 0)), (1, (.slice none 0 0)), (2, (.int .i64 0)), (6, (.slice none 0 0)), (7, (.slice none 0 0)), (8, (.slice none 0 0)), (9, (.int .i64 0)), (10, (.int .i64 0)), (11, (.int .i64 0))]
  | 38, 1 => [(0, (.slice none 0 0)), (1, (.slice none 0 0)), (2, (.int .i64 0)), (6, (.slice none 0 0)), (7, (.slice none 0 0)), (8, (.slice none 0 0)), (9, (.int .i64 0)), (10, (.int .i64 0)), (11, (.int .i64 0)), (18, (.int .i64 0)), (19, (.slice none 0 0)), (20, (.int .i64 0)), (21, (.bool false)), (22, (.bool false)), (25, (.bool false)), (26, (.int .i64 0)), (27, (.bool false))]
  | 38, 2 => [(0, (.slice none 0 0)), (1, (.slice none 0 0)), (2, (.int .i64 0)), (6, (.slice none 0 0)), (7, (.slice none 0 0)), (8, (.slice none 0 0)), (9, (.int .i64 0)), (10, (.int .i64 0)), (11, (.int .i64 0)), (13, (.int .i64 0)), (18, (.int .i64 0)), (19, (.slice none 0 0)), (20, (.int .i64 0)), (21, (.bool false)), (22, (.bool false)), (25, (.bool false)), (26, (.int .i64 0)), (27, (.bool false)), (35, (.int .i64 0)), (36, (.slice none 0 0)), (37, (.int .i64 0)), (38, (.bool false)), (39, (.bool false)), (47, (.bool false))]
  | 39, 0 => [(0, (.slice none 0 0)), (2, (.int .i64 0)), (3, (.int .i64 0)), (4, (.int .i64 0))]
  | 42, 0 => [(0, (.slice none 0 0)), (2, (.bool false)), (5, (.slice none 0 0)), (6, (.int .i64 0)), (7, (.int .i64 0))]
  | 43, 0 => [(0, (.slice none 0 0)), (2, (.bool false)), (5, (.slice none 0 0)), (6, (.int .i64 0)), (7, (.int .i64 0))]
  | 44, 0 => [(0, (.slice none 0 0)), (4, (.bool false)), (12, (.slice none 0 0)), (13, (.int .i64 0)), (14, (.int .i64 0))]
  | 46, 0 => [(0, (.slice none 0 0)), (4, (.bool false)), (17, (.slice none 0 0)), (18, (.int .i64 0)), (19, (.int .i64 0))]
  | 67, 0 => [(0, (.pointer (some ⟨0, 0, none⟩))), (2, (.slice none 0 0)), (3, (.slice none 0 0)), (4, (.int .i64 0))]
  | 68, 0 => [(4, (.slice none 0 0)), (7, (.slice none 0 0)), (8, (.int .i64 0))]
  | 69, 0 => [(0, (.slice none 0 0)), (2, (.bool false)), (5, (.slice none 0 0)), (6, (.int .i64 0)), (7, (.int .i64 0))]
  | 71, 0 => [(1, (.int .i64 0)), (2, (.int .i64 0)), (6, (.bool false)), (9, (.slice none 0 0)), (10, (.int .i64 0)), (11, (.int .i64 0))]
  | _, _ => []
def pvInline : FuncId → Bool
  | 55 => true
  | 56 => true
  | 75 => true
  | 86 => true
  | 87 => true
  | 95 => true
  | 98 => true
  | _ => false
def pvOwn : FuncId → Bool
  | 36 => true
  | 38 => true
  | _ => false
def pvExt : FuncId → Option (List Value → Nat → Go.Ev.Heap → Option (Value × Go.Ev.Heap))
  | _ => none
def pvVext : (f : FuncId) → Option (TupT (pvSig f).ptys → Option (TupT (pvSig f).rtys))
  | _ => none
noncomputable def pvAnn : AnnV := ⟨fuelN, pvSig, pvLoops, pvEloops, pvInline, pvOwn, pvExt, pvVext⟩

/-- (*loop.example/g00838/spec.l1Cur).next -/
noncomputable def g72 (d : Nat) (x1 : ((List Int) × Int × Int)) : Option (Int × ((List Int) × Int × Int)) := (lev Try.prog pvAnn d).call 72 (x1)
/-- (*loop.example/g00838/spec.l1Cur).pick -/
noncomputable def g47 (d : Nat) (x1 : ((List Int) × Int × Int)) (n2 : Int) : Option (Int × ((List Int) × Int × Int)) := (lev Try.prog pvAnn d).call 47 (x1, n2)
/-- (*loop.example/g00838/spec.l1Cur).among -/
noncomputable def g65 (d : Nat) (x1 : ((List Int) × Int × Int)) (l2 : List Int) : Option (Int × ((List Int) × Int × Int)) := (lev Try.prog pvAnn d).call 65 (x1, l2)
/-- (*loop.example/g00838/spec.l1Cur).bandMap -/
noncomputable def g32 (d : Nat) (x1 : ((List Int) × Int × Int)) : Option ((List Int) × ((List Int) × Int × Int)) := (lev Try.prog pvAnn d).call 32 (x1)
/-- (*loop.example/g00838/spec.l1Cur).one -/
noncomputable def g49 (d : Nat) (x1 : ((List Int) × Int × Int)) (n2 : Int) : Option (Bool × ((List Int) × Int × Int)) := (lev Try.prog pvAnn d).call 49 (x1, n2)
/-- (*loop.example/g00838/spec.l1Cur).marks -/
noncomputable def g67 (d : Nat) (x1 : ((List Int) × Int × Int)) : Option ((List Int) × ((List Int) × Int × Int)) := (lev Try.prog pvAnn d).call 67 (x1)
/-- (*loop.example/g00838/spec.l1Cur).arrivals -/
noncomputable def g33 (d : Nat) (x1 : ((List Int) × Int × Int)) : Option ((List (Int × Int)) × ((List Int) × Int × Int)) := (lev Try.prog pvAnn d).call 33 (x1)
/-- (*loop.example/g00838/spec.l1Cur).waitLimit -/
noncomputable def g34 (d : Nat) (x1 : ((List Int) × Int × Int)) : Option (Int × ((List Int) × Int × Int)) := (lev Try.prog pvAnn d).call 34 (x1)
/-- loop.example/g00838/spec.DrawRunBands -/
noncomputable def g5 (d : Nat) (l1 : List Int) : Option ((List Int) × (List (Int × Int)) × Int) := (lev Try.prog pvAnn d).call 5 (l1)
/-- loop.example/g00838/impl.IsBandMap -/
noncomputable def g42 (d : Nat) (l1 : List Int) : Option Bool := (lev Try.prog pvAnn d).call 42 (l1)
/-- loop.example/g00838/impl.isTicks -/
noncomputable def g52 (d : Nat) (n1 : Int) : Option Bool := (lev Try.prog pvAnn d).call 52 (n1)
/-- loop.example/g00838/impl.isMark -/
noncomputable def g70 (d : Nat) (n1 : Int) : Option Bool := (lev Try.prog pvAnn d).call 70 (n1)
/-- loop.example/g00838/impl.areMarked -/
noncomputable def g43 (d : Nat) (l1 : List (Int × Int)) : Option Bool := (lev Try.prog pvAnn d).call 43 (l1)
/-- loop.example/g00838/impl.canRunBands -/
noncomputable def g35 (d : Nat) (l1 : List Int) (l2 : List (Int × Int)) (n3 : Int) : Option Bool := (lev Try.prog pvAnn d).call 35 (l1, l2, n3)
/-- math/bits.Mul64 -/
noncomputable def g93 (d : Nat) (n1 : Int) (n2 : Int) : Option (Int × Int) := (lev Try.prog pvAnn d).call 93 (n1, n2)
/-- math/bits.Mul -/
noncomputable def g82 (d : Nat) (n1 : Int) (n2 : Int) : Option (Int × Int) := (lev Try.prog pvAnn d).call 82 (n1, n2)
/-- slices.Repeat[[]int,int] -/
noncomputable def g68 (d : Nat) (l1 : List Int) (n2 : Int) : Option (List Int) := (lev Try.prog pvAnn d).call 68 (l1, n2)
/-- loop.example/g00838/impl.runBands -/
noncomputable def g36 (d : Nat) (l1 : List Int) (l2 : List (Int × Int)) (n3 : Int) : Option (List Int) := (lev Try.prog pvAnn d).call 36 (l1, l2, n3)
/-- loop.example/g00838/impl.RunBands -/
noncomputable def g6 (d : Nat) (l1 : List Int) (l2 : List (Int × Int)) (n3 : Int) : Option ((List Int) × Bool) := (lev Try.prog pvAnn d).call 6 (l1, l2, n3)
/-- loop.example/g00838/spec.l1In -/
noncomputable def g48 (d : Nat) (n1 : Int) (n2 : Int) (n3 : Int) : Option Bool := (lev Try.prog pvAnn d).call 48 (n1, n2, n3)
/-- loop.example/g00838/spec.l1All -/
noncomputable def g71 (d : Nat) (l1 : List Int) (n2 : Int) (n3 : Int) : Option Bool := (lev Try.prog pvAnn d).call 71 (l1, n2, n3)
/-- loop.example/g00838/spec.bdMap -/
noncomputable def g45 (d : Nat) (l1 : List Int) : Option Bool := (lev Try.prog pvAnn d).call 45 (l1)
/-- loop.example/g00838/spec.bdMark -/
noncomputable def g83 (d : Nat) (n1 : Int) : Option Bool := (lev Try.prog pvAnn d).call 83 (n1)
/-- loop.example/g00838/spec.bdArrivals -/
noncomputable def g69 (d : Nat) (l1 : List (Int × Int)) : Option Bool := (lev Try.prog pvAnn d).call 69 (l1)
/-- loop.example/g00838/spec.bdAsked -/
noncomputable def g37 (d : Nat) (l1 : List Int) (l2 : List (Int × Int)) (n3 : Int) : Option Bool := (lev Try.prog pvAnn d).call 37 (l1, l2, n3)
/-- loop.example/g00838/spec.l1Most -/
noncomputable def g40 (d : Nat) (n1 : Int) (n2 : Int) : Option Int := (lev Try.prog pvAnn d).call 40 (n1, n2)
/-- loop.example/g00838/spec.bdRun -/
noncomputable def g38 (d : Nat) (l1 : List Int) (l2 : List (Int × Int)) (n3 : Int) : Option (List Int) := (lev Try.prog pvAnn d).call 38 (l1, l2, n3)
/-- loop.example/g00838/spec.RunBands -/
noncomputable def g7 (d : Nat) (l1 : List Int) (l2 : List (Int × Int)) (n3 : Int) : Option ((List Int) × Bool) := (lev Try.prog pvAnn d).call 7 (l1, l2, n3)
/-- slices.Max[[]int,int] -/
noncomputable def g39 (d : Nat) (l1 : List Int) : Option Int := (lev Try.prog pvAnn d).call 39 (l1)
/-- loop.example/g00838/impl.LastBusy -/
noncomputable def g8 (d : Nat) (l1 : List Int) (l2 : List (Int × Int)) (n3 : Int) : Option (Int × Bool) := (lev Try.prog pvAnn d).call 8 (l1, l2, n3)
/-- loop.example/g00838/spec.LastBusy -/
noncomputable def g9 (d : Nat) (l1 : List Int) (l2 : List (Int × Int)) (n3 : Int) : Option (Int × Bool) := (lev Try.prog pvAnn d).call 9 (l1, l2, n3)
/-- (*loop.example/g00838/spec.l1Cur).sentTicks -/
noncomputable def g41 (d : Nat) (x1 : ((List Int) × Int × Int)) (l2 : List Int) (l3 : List (Int × Int)) : Option ((List Int) × ((List Int) × Int × Int)) := (lev Try.prog pvAnn d).call 41 (x1, l2, l3)
/-- loop.example/g00838/spec.DrawIsStrict -/
noncomputable def g10 (d : Nat) (l1 : List Int) : Option ((List Int) × (List (Int × Int)) × (List Int)) := (lev Try.prog pvAnn d).call 10 (l1)
/-- loop.example/g00838/impl.sentFits -/
noncomputable def g44 (d : Nat) (l1 : List (Int × Int)) (l2 : List Int) : Option Bool := (lev Try.prog pvAnn d).call 44 (l1, l2)
/-- loop.example/g00838/impl.IsStrict -/
noncomputable def g11 (d : Nat) (l1 : List Int) (l2 : List (Int × Int)) (l3 : List Int) : Option (Bool × Bool) := (lev Try.prog pvAnn d).call 11 (l1, l2, l3)
/-- loop.example/g00838/spec.bdSent -/
noncomputable def g46 (d : Nat) (l1 : List (Int × Int)) (l2 : List Int) : Option Bool := (lev Try.prog pvAnn d).call 46 (l1, l2)
/-- loop.example/g00838/spec.IsStrict -/
noncomputable def g12 (d : Nat) (l1 : List Int) (l2 : List (Int × Int)) (l3 : List Int) : Option (Bool × Bool) := (lev Try.prog pvAnn d).call 12 (l1, l2, l3)
/-- loop.example/g00838/spec.DrawWaitsIn -/
noncomputable def g13 (d : Nat) (l1 : List Int) : Option ((List (Int × Int)) × (List Int)) := (lev Try.prog pvAnn d).call 13 (l1)
/-- loop.example/g00838/impl.WaitsIn -/
noncomputable def g14 (d : Nat) (l1 : List (Int × Int)) (l2 : List Int) : Option ((List Int) × Bool) := (lev Try.prog pvAnn d).call 14 (l1, l2)
/-- loop.example/g00838/spec.WaitsIn -/
noncomputable def g15 (d : Nat) (l1 : List (Int × Int)) (l2 : List Int) : Option ((List Int) × Bool) := (lev Try.prog pvAnn d).call 15 (l1, l2)
/-- loop.example/g00838/spec.DrawOvertakenBy -/
noncomputable def g16 (d : Nat) (l1 : List Int) : Option ((List Int) × (List (Int × Int)) × Int × Int) := (lev Try.prog pvAnn d).call 16 (l1)
/-- loop.example/g00838/impl.OvertakenBy -/
noncomputable def g17 (d : Nat) (l1 : List Int) (l2 : List (Int × Int)) (n3 : Int) (n4 : Int) : Option ((List Int) × Bool) := (lev Try.prog pvAnn d).call 17 (l1, l2, n3, n4)
/-- loop.example/g00838/spec.OvertakenBy -/
noncomputable def g18 (d : Nat) (l1 : List Int) (l2 : List (Int × Int)) (n3 : Int) (n4 : Int) : Option ((List Int) × Bool) := (lev Try.prog pvAnn d).call 18 (l1, l2, n3, n4)
/-- loop.example/g00838/laws.qInts -/
noncomputable def g19 (d : Nat) (l1 : List Int) (l2 : List Int) : Option Bool := (lev Try.prog pvAnn d).call 19 (l1, l2)
/-- loop.example/g00838/laws.FnStrict -/
noncomputable def g3 (d : Nat) (l1 : List Int) (l2 : List Int) : Option Bool := (lev Try.prog pvAnn d).call 3 (l1, l2)

noncomputable def j72_0 (d : Nat) (x1 : ((List Int) × Int × Int)) (n2 : Int) : Option (Int × ((List Int) × Int × Int)) :=
 oif (decide (((IntKind.i64.wrap (x1.2.1 + 1)) : Int) ≤ ((x1.1.length : Nat) : Int))) (
 some (n2, (x1.1, (IntKind.i64.wrap (x1.2.1 + 1)), (IntKind.u64.wrap ((IntKind.u64.wrap ((IntKind.u64.wrap (x1.2.2 * 6364136223846793005)) + (IntKind.u64.wrap n2))) + 1442695040888963407))))) (
 some ((IntKind.i64.wrap (IntKind.u64.wrap ((BitVec.ofInt IntKind.u64.bits ((IntKind.u64.wrap ((IntKind.u64.wrap ((IntKind.u64.wrap (x1.2.2 * 6364136223846793005)) + (IntKind.u64.wrap n2))) + 1442695040888963407)).fdiv (2 ^ (min (40 : Int).toNat IntKind.u64.bits))) &&& BitVec.ofInt IntKind.u64.bits 255).toNat : Int))), (x1.1, (IntKind.i64.wrap (x1.2.1 + 1)), (IntKind.u64.wrap ((IntKind.u64.wrap ((IntKind.u64.wrap (x1.2.2 * 6364136223846793005)) + (IntKind.u64.wrap n2))) + 1442695040888963407)))))
theorem e72 (d : Nat) (x1 : ((List Int) × Int × Int)) : g72 (d + 1) x1 =
 oif (decide ((x1.2.1 : Int) < ((x1.1.length : Nat) : Int))) (
 oif (decide (0 ≤ (x1.2.1 : Int))) (
 obind (x1.1[(x1.2.1 : Int).toNat]?) fun n2 =>
 j72_0 d x1 (IntKind.i64.wrap n2)) none) (
 j72_0 d x1 0) := by kernel_rfl

theorem e47 (d : Nat) (x1 : ((List Int) × Int × Int)) (n2 : Int) : g47 (d + 1) x1 n2 =
 oif (decide ((n2 : Int) ≤ 1)) (
 some (0, x1)) (
 obind (g72 d x1) fun r3 =>
 oif (decide ((n2 : Int) > 200)) (
 obind (g72 d r3.2) fun r4 =>
 oif ((n2 : Int) == 0) none (
 some (((IntKind.i64.wrap ((IntKind.i64.wrap (r3.1 * 256)) + r4.1)).tmod n2), r4.2))) (
 oif ((n2 : Int) == 0) none (
 some ((r3.1.tmod n2), r3.2)))) := by kernel_rfl

theorem e65 (d : Nat) (x1 : ((List Int) × Int × Int)) (l2 : List Int) : g65 (d + 1) x1 l2 =
 obind (g47 d x1 ((l2.length : Nat) : Int)) fun r3 =>
 oif (decide (0 ≤ (r3.1 : Int))) (
 obind (l2[(r3.1 : Int).toNat]?) fun n4 =>
 some (n4, r3.2)) none := by kernel_rfl

noncomputable def j32_0 (d : Nat)  (l4 : List Int) (n5 : Int) (n6 : Int) (l7 : List Int) : Option ((List Int) × ((List Int) × Int × Int)) :=
 obind (g47 d (l4, n5, n6) 30) fun r8 =>
 oif ((r8.1 : Int) == 0) (
 obind (g47 d r8.2 16) fun r9 =>
 obind (g65 d r9.2 [(-1), 7, 8]) fun r10 =>
 oif (decide (0 ≤ (r9.1 : Int))) (
 oif (Nat.blt ((r9.1 : Int).toNat) l7.length) (
 obind (l7[(r9.1 : Int).toNat]?) fun n11 =>
 some ((l7.set ((r9.1 : Int).toNat) r10.1), r10.2)) none) none) (
 oif ((r8.1 : Int) == 1) (
 oif (Nat.ble 15 l7.length) (
 some ((l7.take 15), r8.2)) none) (
 oif ((r8.1 : Int) == 2) (
 oif (Nat.ble ((l7.length + [0].length) * 8) roomMax) (
 some ((l7 ++ [0]), r8.2)) none) (
 some (l7, r8.2))))
noncomputable def l32_0_b (d : Nat) (r2 : (Int × ((List Int) × Int × Int))) (kx32_0_0 : (List Int) → Int → Int → (List Int) → Option ((List Int) × ((List Int) × Int × Int))) (ag3 : (Int × ((List Int) × Int × Int) × (List Int)) → Option ((List Int) × ((List Int) × Int × Int))) (n4 : Int) (x5 : ((List Int) × Int × Int)) (l6 : List Int) : Option ((List Int) × ((List Int) × Int × Int)) :=
 oif (decide ((n4 : Int) < (((List.replicate 16 (0 : Int)).length : Nat) : Int))) (
 obind (g47 d x5 (IntKind.i64.wrap ((1 : Int) + r2.1))) fun r7 =>
 oif (decide (0 ≤ (n4 : Int))) (
 oif (Nat.blt ((n4 : Int).toNat) l6.length) (
 obind (l6[(n4 : Int).toNat]?) fun n8 =>
 ag3 ((IntKind.i64.wrap (n4 + 1)), r7.2, (l6.set ((n4 : Int).toNat) r7.1))) none) none) (
 kx32_0_0 x5.1 x5.2.1 x5.2.2 l6)
noncomputable def l32_0 (d : Nat) (r2 : (Int × ((List Int) × Int × Int))) (kx32_0_0 : (List Int) → Int → Int → (List Int) → Option ((List Int) × ((List Int) × Int × Int))) (ag3 : (Int × ((List Int) × Int × Int) × (List Int)) → Option ((List Int) × ((List Int) × Int × Int))) (s : (Int × ((List Int) × Int × Int) × (List Int))) : Option ((List Int) × ((List Int) × Int × Int)) := l32_0_b d r2 kx32_0_0 ag3 s.1 s.2.1 s.2.2
theorem e32 (d : Nat) (x1 : ((List Int) × Int × Int)) : g32 (d + 1) x1 =
 oif (Nat.ble 16 16 && Nat.ble (16 * 8) roomMax) (
 obind (g47 d x1 4) fun r2 =>
 iterP (l32_0 d r2 (j32_0 d)) fuelN (0, r2.2, (List.replicate 16 (0 : Int)))) none := by kernel_rfl

theorem e49 (d : Nat) (x1 : ((List Int) × Int × Int)) (n2 : Int) : g49 (d + 1) x1 n2 =
 obind (g47 d x1 n2) fun r3 =>
 some (((r3.1 : Int) == 0), r3.2) := by kernel_rfl

noncomputable def j67_0 (d : Nat) (l12 : List Int) (b13 : Bool) (l14 : List Int) (n15 : Int) (n16 : Int) : Option ((List Int) × ((List Int) × Int × Int)) :=
 oif b13 (
 obind (g65 d (l14, n15, n16) [(-1), 65535, 65536]) fun r17 =>
 oif (Nat.blt 0 l12.length) (
 obind (l12[0]?) fun n18 =>
 some ((l12.set 0 r17.1), r17.2)) none) (
 some (l12, (l14, n15, n16)))
noncomputable def j67_1 (d : Nat)  (l9 : List Int) (n10 : Int) (n11 : Int) (l12 : List Int) : Option ((List Int) × ((List Int) × Int × Int)) :=
 oif (decide ((((l12.length : Nat) : Int) : Int) > 0)) (
 obind (g49 d (l9, n10, n11) 20) fun r13 =>
 j67_0 d l12 r13.1 r13.2.1 r13.2.2.1 r13.2.2.2) (
 j67_0 d l12 false l9 n10 n11)
noncomputable def l67_0_b (d : Nat) (n4 : Int) (kx67_0_0 : (List Int) → Int → Int → (List Int) → Option ((List Int) × ((List Int) × Int × Int))) (ag8 : ((List Int) × ((List Int) × Int × Int)) → Option ((List Int) × ((List Int) × Int × Int))) (l9 : List Int) (x10 : ((List Int) × Int × Int)) : Option ((List Int) × ((List Int) × Int × Int)) :=
 oif (decide ((((l9.length : Nat) : Int) : Int) < n4)) (
 obind (g47 d x10 40) fun r11 =>
 oif (Nat.ble ((l9.length + [r11.1].length) * 8) roomMax) (
 ag8 ((l9 ++ [r11.1]), r11.2)) none) (
 kx67_0_0 x10.1 x10.2.1 x10.2.2 l9)
noncomputable def l67_0 (d : Nat) (n4 : Int) (kx67_0_0 : (List Int) → Int → Int → (List Int) → Option ((List Int) × ((List Int) × Int × Int))) (ag8 : ((List Int) × ((List Int) × Int × Int)) → Option ((List Int) × ((List Int) × Int × Int))) (s : ((List Int) × ((List Int) × Int × Int))) : Option ((List Int) × ((List Int) × Int × Int)) := l67_0_b d n4 kx67_0_0 ag8 s.1 s.2
noncomputable def j67_2 (d : Nat)  (n4 : Int) (l5 : List Int) (n6 : Int) (n7 : Int) : Option ((List Int) × ((List Int) × Int × Int)) :=
 iterP (l67_0 d n4 (j67_1 d)) fuelN ([], (l5, n6, n7))
theorem e67 (d : Nat) (x1 : ((List Int) × Int × Int)) : g67 (d + 1) x1 =
 obind (g47 d x1 9) fun r2 =>
 obind (g49 d r2.2 24) fun r3 =>
 oif r3.1 (
 obind (g47 d r3.2 2) fun r4 =>
 j67_2 d (IntKind.i64.wrap ((40 : Int) + r4.1)) r4.2.1 r4.2.2.1 r4.2.2.2) (
 j67_2 d r2.1 r3.2.1 r3.2.2.1 r3.2.2.2) := by kernel_rfl

noncomputable def j33_0 (d : Nat)  (l4 : List Int) (n5 : Int) (n6 : Int) (l7 : List (Int × Int)) : Option ((List (Int × Int)) × ((List Int) × Int × Int)) :=
 oif (decide ((((l7.length : Nat) : Int) : Int) > 0)) (
 obind (g47 d (l4, n5, n6) 24) fun r8 =>
 oif ((r8.1 : Int) == 0) (
 obind (g65 d r8.2 [(-1), 0, 100000, 100001]) fun r9 =>
 oif (decide (0 ≤ ((IntKind.i64.wrap (((l7.length : Nat) : Int) - 1)) : Int))) (
 oif (Nat.blt (((IntKind.i64.wrap (((l7.length : Nat) : Int) - 1)) : Int).toNat) l7.length) (
 obind (l7[((IntKind.i64.wrap (((l7.length : Nat) : Int) - 1)) : Int).toNat]?) fun x10 =>
 some ((l7.set (((IntKind.i64.wrap (((l7.length : Nat) : Int) - 1)) : Int).toNat) (r9.1, x10.2)), r9.2)) none) none) (
 some (l7, r8.2))) (
 some (l7, (l4, n5, n6)))
noncomputable def l33_0_b (d : Nat) (r2 : ((List Int) × ((List Int) × Int × Int))) (kx33_0_0 : (List Int) → Int → Int → (List (Int × Int)) → Option ((List (Int × Int)) × ((List Int) × Int × Int))) (ag3 : ((List (Int × Int)) × Int × Int × ((List Int) × Int × Int)) → Option ((List (Int × Int)) × ((List Int) × Int × Int))) (l4 : List (Int × Int)) (n5 : Int) (n6 : Int) (x7 : ((List Int) × Int × Int)) : Option ((List (Int × Int)) × ((List Int) × Int × Int)) :=
 oif (decide ((n6 : Int) < ((r2.1.length : Nat) : Int))) (
 oif (decide (0 ≤ (n6 : Int))) (
 oif (Nat.blt ((n6 : Int).toNat) r2.1.length) (
 obind (r2.1[(n6 : Int).toNat]?) fun n8 =>
 obind (g65 d x7 [0, 0, 0, 1, 2, 9]) fun r9 =>
 oif (Nat.ble ((l4.length + [((IntKind.i64.wrap (n5 + r9.1)), n8)].length) * 16) roomMax) (
 ag3 ((l4 ++ [((IntKind.i64.wrap (n5 + r9.1)), n8)]), (IntKind.i64.wrap (n5 + r9.1)), (IntKind.i64.wrap (n6 + 1)), r9.2)) none) none) none) (
 kx33_0_0 x7.1 x7.2.1 x7.2.2 l4)
noncomputable def l33_0 (d : Nat) (r2 : ((List Int) × ((List Int) × Int × Int))) (kx33_0_0 : (List Int) → Int → Int → (List (Int × Int)) → Option ((List (Int × Int)) × ((List Int) × Int × Int))) (ag3 : ((List (Int × Int)) × Int × Int × ((List Int) × Int × Int)) → Option ((List (Int × Int)) × ((List Int) × Int × Int))) (s : ((List (Int × Int)) × Int × Int × ((List Int) × Int × Int))) : Option ((List (Int × Int)) × ((List Int) × Int × Int)) := l33_0_b d r2 kx33_0_0 ag3 s.1 s.2.1 s.2.2.1 s.2.2.2
theorem e33 (d : Nat) (x1 : ((List Int) × Int × Int)) : g33 (d + 1) x1 =
 obind (g67 d x1) fun r2 =>
 iterP (l33_0 d r2 (j33_0 d)) fuelN ([], 0, 0, r2.2) := by kernel_rfl

theorem e34 (d : Nat) (x1 : ((List Int) × Int × Int)) : g34 (d + 1) x1 =
 obind (g65 d x1 [1, 2, 3, 5, 40, 41, 0]) fun r2 =>
 some (r2.1, r2.2) := by kernel_rfl

theorem e5 (d : Nat) (l1 : List Int) : g5 (d + 1) l1 =
 obind (g32 d (l1, 0, 0)) fun r2 =>
 obind (g33 d r2.2) fun r3 =>
 obind (g34 d r3.2) fun r4 =>
 some (r2.1, r3.1, r4.1) := by kernel_rfl

noncomputable def j42_0 (d : Nat) (l1 : List Int) (b3 : Bool) : Option Bool :=
 some ((((l1.length : Nat) : Int) : Int) == 16)
noncomputable def l42_0_b (d : Nat) (l1 : List Int) (kx42_0_0 : Bool → Option Bool) (ag2 : (Bool × Int) → Option Bool) (b3 : Bool) (n4 : Int) : Option Bool :=
 oif (decide ((n4 : Int) < ((l1.length : Nat) : Int))) (
 oif (decide (0 ≤ (n4 : Int))) (
 obind (l1[(n4 : Int).toNat]?) fun n5 =>
 oif (decide ((n5 : Int) < 0)) (
 some false) (
 oif (decide ((n5 : Int) ≥ 8)) (
 some false) (
 ag2 (b3, (IntKind.i64.wrap (n4 + 1)))))) none) (
 kx42_0_0 b3)
noncomputable def l42_0 (d : Nat) (l1 : List Int) (kx42_0_0 : Bool → Option Bool) (ag2 : (Bool × Int) → Option Bool) (s : (Bool × Int)) : Option Bool := l42_0_b d l1 kx42_0_0 ag2 s.1 s.2
theorem e42 (d : Nat) (l1 : List Int) : g42 (d + 1) l1 =
 iterP (l42_0 d l1 (j42_0 d l1)) fuelN (false, 0) := by kernel_rfl

theorem e52 (d : Nat) (n1 : Int) : g52 (d + 1) n1 =
 oif (decide ((n1 : Int) ≥ 0)) (
 some (decide ((n1 : Int) ≤ 100000))) (
 some false) := by kernel_rfl

theorem e70 (d : Nat) (n1 : Int) : g70 (d + 1) n1 =
 oif (decide ((n1 : Int) ≥ 0)) (
 some (decide ((n1 : Int) ≤ 65535))) (
 some false) := by kernel_rfl

noncomputable def j43_0 (d : Nat) (l1 : List (Int × Int)) (b3 : Bool) : Option Bool :=
 some (decide ((((l1.length : Nat) : Int) : Int) ≤ 40))
noncomputable def j43_1 (d : Nat) (ag2 : (Bool × Int) → Option Bool) (b3 : Bool) (n4 : Int) (b6 : Bool) (b7 : Bool) (b8 : Bool) (b9 : Bool) (b10 : Bool) (b11 : Bool) : Option Bool :=
 oif b11 (
 some false) (
 ag2 (b3, (IntKind.i64.wrap (n4 + 1))))
noncomputable def l43_0_b (d : Nat) (l1 : List (Int × Int)) (kx43_0_0 : Bool → Option Bool) (ag2 : (Bool × Int) → Option Bool) (b3 : Bool) (n4 : Int) : Option Bool :=
 oif (decide ((n4 : Int) < ((l1.length : Nat) : Int))) (
 oif (decide (0 ≤ (n4 : Int))) (
 obind (l1[(n4 : Int).toNat]?) fun x5 =>
 obind (g52 d x5.1) fun r6 =>
 oif (!r6) (
 j43_1 d ag2 b3 n4 r6 (!r6) true true true true) (
 obind (g70 d x5.2) fun r7 =>
 oif (!r7) (
 j43_1 d ag2 b3 n4 r6 (!r6) false (!r7) true true) (
 oif (decide ((n4 : Int) > 0)) (
 oif (decide (0 ≤ ((IntKind.i64.wrap (n4 - 1)) : Int))) (
 obind (l1[((IntKind.i64.wrap (n4 - 1)) : Int).toNat]?) fun x8 =>
 j43_1 d ag2 b3 n4 r6 (!r6) false (!r7) false (decide ((x5.1 : Int) < x8.1))) none) (
 j43_1 d ag2 b3 n4 r6 (!r6) false (!r7) false false)))) none) (
 kx43_0_0 b3)
noncomputable def l43_0 (d : Nat) (l1 : List (Int × Int)) (kx43_0_0 : Bool → Option Bool) (ag2 : (Bool × Int) → Option Bool) (s : (Bool × Int)) : Option Bool := l43_0_b d l1 kx43_0_0 ag2 s.1 s.2
theorem e43 (d : Nat) (l1 : List (Int × Int)) : g43 (d + 1) l1 =
 iterP (l43_0 d l1 (j43_0 d l1)) fuelN (false, 0) := by kernel_rfl

theorem e35 (d : Nat) (l1 : List Int) (l2 : List (Int × Int)) (n3 : Int) : g35 (d + 1) l1 l2 n3 =
 obind (g42 d l1) fun r4 =>
 oif r4 (
 obind (g43 d l2) fun r5 =>
 oif r5 (
 oif (decide ((n3 : Int) ≥ 1)) (
 some (decide ((n3 : Int) ≤ 40))) (
 some false)) (
 some false)) (
 some false) := by kernel_rfl

theorem e93 (d : Nat) (n1 : Int) (n2 : Int) : g93 (d + 1) n1 n2 =
 some ((IntKind.u64.wrap ((IntKind.u64.wrap ((IntKind.u64.wrap ((n1.fdiv (2 ^ (min (32 : Int).toNat IntKind.u64.bits))) * (n2.fdiv (2 ^ (min (32 : Int).toNat IntKind.u64.bits))))) + ((IntKind.u64.wrap ((IntKind.u64.wrap ((n1.fdiv (2 ^ (min (32 : Int).toNat IntKind.u64.bits))) * (IntKind.u64.wrap ((BitVec.ofInt IntKind.u64.bits n2 &&& BitVec.ofInt IntKind.u64.bits 4294967295).toNat : Int)))) + ((IntKind.u64.wrap ((IntKind.u64.wrap ((BitVec.ofInt IntKind.u64.bits n1 &&& BitVec.ofInt IntKind.u64.bits 4294967295).toNat : Int)) * (IntKind.u64.wrap ((BitVec.ofInt IntKind.u64.bits n2 &&& BitVec.ofInt IntKind.u64.bits 4294967295).toNat : Int)))).fdiv (2 ^ (min (32 : Int).toNat IntKind.u64.bits))))).fdiv (2 ^ (min (32 : Int).toNat IntKind.u64.bits))))) + ((IntKind.u64.wrap ((IntKind.u64.wrap ((BitVec.ofInt IntKind.u64.bits (IntKind.u64.wrap ((IntKind.u64.wrap ((n1.fdiv (2 ^ (min (32 : Int).toNat IntKind.u64.bits))) * (IntKind.u64.wrap ((BitVec.ofInt IntKind.u64.bits n2 &&& BitVec.ofInt IntKind.u64.bits 4294967295).toNat : Int)))) + ((IntKind.u64.wrap ((IntKind.u64.wrap ((BitVec.ofInt IntKind.u64.bits n1 &&& BitVec.ofInt IntKind.u64.bits 4294967295).toNat : Int)) * (IntKind.u64.wrap ((BitVec.ofInt IntKind.u64.bits n2 &&& BitVec.ofInt IntKind.u64.bits 4294967295).toNat : Int)))).fdiv (2 ^ (min (32 : Int).toNat IntKind.u64.bits))))) &&& BitVec.ofInt IntKind.u64.bits 4294967295).toNat : Int)) + (IntKind.u64.wrap ((IntKind.u64.wrap ((BitVec.ofInt IntKind.u64.bits n1 &&& BitVec.ofInt IntKind.u64.bits 4294967295).toNat : Int)) * (n2.fdiv (2 ^ (min (32 : Int).toNat IntKind.u64.bits))))))).fdiv (2 ^ (min (32 : Int).toNat IntKind.u64.bits))))), (IntKind.u64.wrap (n1 * n2))) := by kernel_rfl

theorem e82 (d : Nat) (n1 : Int) (n2 : Int) : g82 (d + 1) n1 n2 =
 obind (g93 d n1 n2) fun r3 =>
 some (r3.1, r3.2) := by kernel_rfl

noncomputable def j68_0 (d : Nat)  (l6 : List Int) : Option (List Int) :=
 some l6
noncomputable def l68_0_b (d : Nat)  (kx68_0_0 : (List Int) → Option (List Int)) (ag5 : (Int × (List Int)) → Option (List Int)) (n6 : Int) (l7 : List Int) : Option (List Int) :=
 oif (decide ((n6 : Int) < ((l7.length : Nat) : Int))) (
 oif (decide (0 ≤ (n6 : Int))) (
 oif (Nat.ble ((n6 : Int).toNat) l7.length) (
 oif (decide (0 ≤ (n6 : Int))) (
 oif (Nat.ble ((n6 : Int).toNat) l7.length) (
 ag5 ((IntKind.i64.wrap (n6 + ((min (l7.take ((n6 : Int).toNat)).length (l7.length - (0 + (n6 : Int).toNat)) : Nat) : Int))), (cpy l7 (0 + (n6 : Int).toNat) (l7.length - (0 + (n6 : Int).toNat)) (l7.take ((n6 : Int).toNat))))) none) none) none) none) (
 kx68_0_0 l7)
noncomputable def l68_0 (d : Nat)  (kx68_0_0 : (List Int) → Option (List Int)) (ag5 : (Int × (List Int)) → Option (List Int)) (s : (Int × (List Int))) : Option (List Int) := l68_0_b d kx68_0_0 ag5 s.1 s.2
noncomputable def j68_1 (d : Nat) (l1 : List Int) (r3 : (Int × Int)) (b4 : Bool) : Option (List Int) :=
 oif b4 (
 none) (
 oif (decide (0 ≤ ((IntKind.i64.wrap r3.2) : Int))) (
 oif (decide (0 ≤ ((IntKind.i64.wrap r3.2) : Int))) (
 oif (Nat.ble (((IntKind.i64.wrap r3.2) : Int).toNat) (((IntKind.i64.wrap r3.2) : Int).toNat) && Nat.ble ((((IntKind.i64.wrap r3.2) : Int).toNat) * 8) roomMax) (
 iterP (l68_0 d (j68_0 d)) fuelN (((min l1.length ((List.replicate (((IntKind.i64.wrap r3.2) : Int).toNat) (0 : Int)).length) : Nat) : Int), (cpy (List.replicate (((IntKind.i64.wrap r3.2) : Int).toNat) (0 : Int)) 0 ((List.replicate (((IntKind.i64.wrap r3.2) : Int).toNat) (0 : Int)).length) l1))) none) none) none)
theorem e68 (d : Nat) (l1 : List Int) (n2 : Int) : g68 (d + 1) l1 n2 =
 oif (decide ((n2 : Int) < 0)) (
 none) (
 obind (g82 d (IntKind.u64.wrap ((l1.length : Nat) : Int)) (IntKind.u64.wrap n2)) fun r3 =>
 oif (decide ((r3.1 : Int) > 0)) (
 j68_1 d l1 r3 true) (
 j68_1 d l1 r3 (decide ((r3.2 : Int) > 9223372036854775807)))) := by kernel_rfl

noncomputable def j36_0 (d : Nat)  (l6 : List Int) (l7 : List (List Int)) : Option (List Int) :=
 some l6
noncomputable def l36_2_b (d : Nat) (ag5 : (Int × Int × Int × (List Int) × (List (List Int))) → Option (List Int)) (l9 : List Int) (n13 : Int) (n17 : Int) (l21 : List (List Int)) (l22 : List Int) (l23 : List Int) (l24 : List Int) (l25 : List Int) (l26 : List Int) (l27 : List Int) (l28 : List Int) (l29 : List Int)  (ag30 : (Int × Int) → Option (List Int)) (n31 : Int) (n32 : Int) : Option (List Int) :=
 oif (decide ((n32 : Int) < 8)) (
 oif (decide (0 ≤ (n32 : Int))) (
 oif (Nat.blt ((n32 : Int).toNat) 8) (
 obind (([l22, l23, l24, l25, l26, l27, l28, l29] : List (List Int))[(n32 : Int).toNat]?) fun l33 =>
 oif (decide ((((l33.length : Nat) : Int) : Int) > 0)) (
 obind (l33[0]?) fun n34 =>
 oif (decide (0 ≤ (n34 : Int))) (
 oif (Nat.blt ((n34 : Int).toNat) l9.length) (
 obind (l9[(n34 : Int).toNat]?) fun n35 =>
 oif (Nat.ble 1 l33.length) (
 oif (decide (0 ≤ (n32 : Int))) (
 oif (Nat.blt ((n32 : Int).toNat) 8 && Nat.blt ((n32 : Int).toNat) l21.length) (
 oif (Nat.beq ((n32 : Int).toNat) ((n32 : Int).toNat)) (
 obind (l21[(n32 : Int).toNat]?) fun l36 =>
 ag5 ((IntKind.i64.wrap (n31 - 1)), n17, (IntKind.i64.wrap (n13 + 1)), (l9.set ((n34 : Int).toNat) n13), (l21.set ((n32 : Int).toNat) (l33.drop 1)))) none) none) none) none) none) none) (
 ag30 (n31, (IntKind.i64.wrap (n32 + 1))))) none) none) (
 ag5 (n31, n17, (IntKind.i64.wrap (n13 + 1)), l9, l21))
noncomputable def l36_2 (d : Nat) (ag5 : (Int × Int × Int × (List Int) × (List (List Int))) → Option (List Int)) (l9 : List Int) (n13 : Int) (n17 : Int) (l21 : List (List Int)) (l22 : List Int) (l23 : List Int) (l24 : List Int) (l25 : List Int) (l26 : List Int) (l27 : List Int) (l28 : List Int) (l29 : List Int)  (ag30 : (Int × Int) → Option (List Int)) (s : (Int × Int)) : Option (List Int) := l36_2_b d ag5 l9 n13 n17 l21 l22 l23 l24 l25 l26 l27 l28 l29 ag30 s.1 s.2
noncomputable def j36_1 (d : Nat) (ag5 : (Int × Int × Int × (List Int) × (List (List Int))) → Option (List Int)) (l9 : List Int) (n13 : Int) (n16 : Int) (n17 : Int) (n18 : Int) (b19 : Bool) (b20 : Bool) (l21 : List (List Int)) : Option (List Int) :=
 obind (l21[0]?) fun l22 =>
 obind (l21[1]?) fun l23 =>
 obind (l21[2]?) fun l24 =>
 obind (l21[3]?) fun l25 =>
 obind (l21[4]?) fun l26 =>
 obind (l21[5]?) fun l27 =>
 obind (l21[6]?) fun l28 =>
 obind (l21[7]?) fun l29 =>
 iterP (l36_2 d ag5 l9 n13 n17 l21 l22 l23 l24 l25 l26 l27 l28 l29) fuelN (n16, 0)
noncomputable def j36_2 (d : Nat) (kx36_1_0 : Int → Int → Int → Bool → Bool → (List (List Int)) → Option (List Int)) (l1 : List Int) (l2 : List (Int × Int)) (n3 : Int) (ag15 : (Int × Int × (List (List Int))) → Option (List Int)) (n16 : Int) (n17 : Int) (l18 : List (List Int)) (b19 : Bool) (b20 : Bool) : Option (List Int) :=
 oif b20 (
 oif (decide (0 ≤ (n17 : Int))) (
 obind (l2[(n17 : Int).toNat]?) fun x21 =>
 oif (decide (0 ≤ ((x21.2.tmod 16) : Int))) (
 obind (l1[((x21.2.tmod 16) : Int).toNat]?) fun n22 =>
 oif (decide (0 ≤ (n22 : Int))) (
 oif (Nat.blt ((n22 : Int).toNat) 8 && Nat.blt ((n22 : Int).toNat) l18.length) (
 obind (l18[(n22 : Int).toNat]?) fun l23 =>
 oif (decide ((((l23.length : Nat) : Int) : Int) < n3)) (
 oif (decide (0 ≤ (n22 : Int))) (
 oif (Nat.blt ((n22 : Int).toNat) 8 && Nat.blt ((n22 : Int).toNat) l18.length) (
 obind (l18[(n22 : Int).toNat]?) fun l24 =>
 oif (Nat.ble ((l24.length + [n17].length) * 8) roomMax) (
 oif (decide (0 ≤ (n22 : Int))) (
 oif (Nat.blt ((n22 : Int).toNat) 8 && Nat.blt ((n22 : Int).toNat) l18.length) (
 oif (Nat.beq ((n22 : Int).toNat) ((n22 : Int).toNat)) (
 obind (l18[(n22 : Int).toNat]?) fun l25 =>
 ag15 ((IntKind.i64.wrap (n16 + 1)), (IntKind.i64.wrap (n17 + 1)), (l18.set ((n22 : Int).toNat) (l24 ++ [n17])))) none) none) none) none) none) none) (
 ag15 (n16, (IntKind.i64.wrap (n17 + 1)), l18))) none) none) none) none) (
 kx36_1_0 n16 n17 n17 (decide ((n17 : Int) < ((l2.length : Nat) : Int))) b19 l18)
noncomputable def l36_1_b (d : Nat) (l1 : List Int) (l2 : List (Int × Int)) (n3 : Int) (n13 : Int) (kx36_1_0 : Int → Int → Int → Bool → Bool → (List (List Int)) → Option (List Int)) (ag15 : (Int × Int × (List (List Int))) → Option (List Int)) (n16 : Int) (n17 : Int) (l18 : List (List Int)) : Option (List Int) :=
 oif (decide ((n17 : Int) < ((l2.length : Nat) : Int))) (
 oif (decide (0 ≤ (n17 : Int))) (
 obind (l2[(n17 : Int).toNat]?) fun x19 =>
 j36_2 d kx36_1_0 l1 l2 n3 ag15 n16 n17 l18 true ((x19.1 : Int) == n13)) none) (
 j36_2 d kx36_1_0 l1 l2 n3 ag15 n16 n17 l18 false false)
noncomputable def l36_1 (d : Nat) (l1 : List Int) (l2 : List (Int × Int)) (n3 : Int) (n13 : Int) (kx36_1_0 : Int → Int → Int → Bool → Bool → (List (List Int)) → Option (List Int)) (ag15 : (Int × Int × (List (List Int))) → Option (List Int)) (s : (Int × Int × (List (List Int)))) : Option (List Int) := l36_1_b d l1 l2 n3 n13 kx36_1_0 ag15 s.1 s.2.1 s.2.2
noncomputable def j36_3 (d : Nat) (l1 : List Int) (l2 : List (Int × Int)) (n3 : Int) (ag5 : (Int × Int × Int × (List Int) × (List (List Int))) → Option (List Int)) (n6 : Int) (n7 : Int) (l9 : List Int) (l10 : List (List Int)) (n13 : Int) (b14 : Bool) : Option (List Int) :=
 iterP (l36_1 d l1 l2 n3 n13 (j36_1 d ag5 l9 n13)) fuelN (n6, n7, l10)
noncomputable def j36_4 (d : Nat) (kx36_0_0 : (List Int) → (List (List Int)) → Option (List Int)) (l1 : List Int) (l2 : List (Int × Int)) (n3 : Int) (ag5 : (Int × Int × Int × (List Int) × (List (List Int))) → Option (List Int)) (n6 : Int) (n7 : Int) (n8 : Int) (l9 : List Int) (l10 : List (List Int)) (b11 : Bool) (b12 : Bool) : Option (List Int) :=
 oif b12 (
 oif ((n6 : Int) == 0) (
 oif (decide (0 ≤ (n7 : Int))) (
 obind (l2[(n7 : Int).toNat]?) fun x13 =>
 j36_3 d l1 l2 n3 ag5 n6 n7 l9 l10 (if x13.1 > n8 then x13.1 else n8) true) none) (
 j36_3 d l1 l2 n3 ag5 n6 n7 l9 l10 n8 false)) (
 kx36_0_0 l9 l10)
noncomputable def l36_0_b (d : Nat) (l1 : List Int) (l2 : List (Int × Int)) (n3 : Int) (kx36_0_0 : (List Int) → (List (List Int)) → Option (List Int)) (ag5 : (Int × Int × Int × (List Int) × (List (List Int))) → Option (List Int)) (n6 : Int) (n7 : Int) (n8 : Int) (l9 : List Int) (l10 : List (List Int)) : Option (List Int) :=
 oif (decide ((n6 : Int) > 0)) (
 j36_4 d kx36_0_0 l1 l2 n3 ag5 n6 n7 n8 l9 l10 true true) (
 j36_4 d kx36_0_0 l1 l2 n3 ag5 n6 n7 n8 l9 l10 false (decide ((n7 : Int) < ((l2.length : Nat) : Int))))
noncomputable def l36_0 (d : Nat) (l1 : List Int) (l2 : List (Int × Int)) (n3 : Int) (kx36_0_0 : (List Int) → (List (List Int)) → Option (List Int)) (ag5 : (Int × Int × Int × (List Int) × (List (List Int))) → Option (List Int)) (s : (Int × Int × Int × (List Int) × (List (List Int)))) : Option (List Int) := l36_0_b d l1 l2 n3 kx36_0_0 ag5 s.1 s.2.1 s.2.2.1 s.2.2.2.1 s.2.2.2.2
theorem e36 (d : Nat) (l1 : List Int) (l2 : List (Int × Int)) (n3 : Int) : g36 (d + 1) l1 l2 n3 =
 obind (g68 d [(-1)] ((l2.length : Nat) : Int)) fun r4 =>
 iterP (l36_0 d l1 l2 n3 (j36_0 d)) fuelN (0, 0, 0, r4, (List.replicate 8 [] : List (List Int))) := by kernel_rfl

theorem e6 (d : Nat) (l1 : List Int) (l2 : List (Int × Int)) (n3 : Int) : g6 (d + 1) l1 l2 n3 =
 obind (g35 d l1 l2 n3) fun r4 =>
 oif (!r4) (
 some ([], false)) (
 obind (g36 d l1 l2 n3) fun r5 =>
 some (r5, true)) := by kernel_rfl

theorem e48 (d : Nat) (n1 : Int) (n2 : Int) (n3 : Int) : g48 (d + 1) n1 n2 n3 =
 oif (decide ((n1 : Int) ≥ n2)) (
 some (decide ((n1 : Int) ≤ n3))) (
 some false) := by kernel_rfl

noncomputable def j71_0 (d : Nat)  (b5 : Bool) : Option Bool :=
 some true
noncomputable def l71_0_b (d : Nat) (l1 : List Int) (n2 : Int) (n3 : Int) (kx71_0_0 : Bool → Option Bool) (ag4 : (Bool × Int) → Option Bool) (b5 : Bool) (n6 : Int) : Option Bool :=
 oif (decide ((n6 : Int) < ((l1.length : Nat) : Int))) (
 oif (decide (0 ≤ (n6 : Int))) (
 obind (l1[(n6 : Int).toNat]?) fun n7 =>
 obind (g48 d n7 n2 n3) fun r8 =>
 oif (!r8) (
 some false) (
 ag4 (b5, (IntKind.i64.wrap (n6 + 1))))) none) (
 kx71_0_0 b5)
noncomputable def l71_0 (d : Nat) (l1 : List Int) (n2 : Int) (n3 : Int) (kx71_0_0 : Bool → Option Bool) (ag4 : (Bool × Int) → Option Bool) (s : (Bool × Int)) : Option Bool := l71_0_b d l1 n2 n3 kx71_0_0 ag4 s.1 s.2
theorem e71 (d : Nat) (l1 : List Int) (n2 : Int) (n3 : Int) : g71 (d + 1) l1 n2 n3 =
 iterP (l71_0 d l1 n2 n3 (j71_0 d)) fuelN (false, 0) := by kernel_rfl

theorem e45 (d : Nat) (l1 : List Int) : g45 (d + 1) l1 =
 oif ((((l1.length : Nat) : Int) : Int) == 16) (
 obind (g71 d l1 0 7) fun r2 =>
 some r2) (
 some false) := by kernel_rfl

theorem e83 (d : Nat) (n1 : Int) : g83 (d + 1) n1 =
 obind (g48 d n1 0 65535) fun r2 =>
 some r2 := by kernel_rfl

noncomputable def j69_0 (d : Nat) (l1 : List (Int × Int)) (b3 : Bool) : Option Bool :=
 some (decide ((((l1.length : Nat) : Int) : Int) ≤ 40))
noncomputable def j69_1 (d : Nat) (ag2 : (Bool × Int) → Option Bool) (b3 : Bool) (n4 : Int) (b6 : Bool) (b7 : Bool) (b8 : Bool) (b9 : Bool) (b10 : Bool) (b11 : Bool) : Option Bool :=
 oif b11 (
 some false) (
 ag2 (b3, (IntKind.i64.wrap (n4 + 1))))
noncomputable def l69_0_b (d : Nat) (l1 : List (Int × Int)) (kx69_0_0 : Bool → Option Bool) (ag2 : (Bool × Int) → Option Bool) (b3 : Bool) (n4 : Int) : Option Bool :=
 oif (decide ((n4 : Int) < ((l1.length : Nat) : Int))) (
 oif (decide (0 ≤ (n4 : Int))) (
 obind (l1[(n4 : Int).toNat]?) fun x5 =>
 obind (g48 d x5.1 0 100000) fun r6 =>
 oif (!r6) (
 j69_1 d ag2 b3 n4 r6 (!r6) true true true true) (
 obind (g83 d x5.2) fun r7 =>
 oif (!r7) (
 j69_1 d ag2 b3 n4 r6 (!r6) false (!r7) true true) (
 oif (decide ((n4 : Int) > 0)) (
 oif (decide (0 ≤ ((IntKind.i64.wrap (n4 - 1)) : Int))) (
 obind (l1[((IntKind.i64.wrap (n4 - 1)) : Int).toNat]?) fun x8 =>
 j69_1 d ag2 b3 n4 r6 (!r6) false (!r7) false (decide ((x8.1 : Int) > x5.1))) none) (
 j69_1 d ag2 b3 n4 r6 (!r6) false (!r7) false false)))) none) (
 kx69_0_0 b3)
noncomputable def l69_0 (d : Nat) (l1 : List (Int × Int)) (kx69_0_0 : Bool → Option Bool) (ag2 : (Bool × Int) → Option Bool) (s : (Bool × Int)) : Option Bool := l69_0_b d l1 kx69_0_0 ag2 s.1 s.2
theorem e69 (d : Nat) (l1 : List (Int × Int)) : g69 (d + 1) l1 =
 iterP (l69_0 d l1 (j69_0 d l1)) fuelN (false, 0) := by kernel_rfl

theorem e37 (d : Nat) (l1 : List Int) (l2 : List (Int × Int)) (n3 : Int) : g37 (d + 1) l1 l2 n3 =
 obind (g45 d l1) fun r4 =>
 oif r4 (
 obind (g69 d l2) fun r5 =>
 oif r5 (
 obind (g48 d n3 1 40) fun r6 =>
 some r6) (
 some false)) (
 some false) := by kernel_rfl

theorem e40 (d : Nat) (n1 : Int) (n2 : Int) : g40 (d + 1) n1 n2 =
 oif (decide ((n1 : Int) > n2)) (
 some n1) (
 some n2) := by kernel_rfl

noncomputable def j38_0 (d : Nat)  (l5 : List Int) (l6 : List (List Int)) : Option (List Int) :=
 some l5
noncomputable def j38_1 (d : Nat) (ag4 : (Int × Int × Int × (List Int) × (List (List Int))) → Option (List Int)) (n12 : Int) (n15 : Int) (n16 : Int) (l20 : List Int) (l21 : List (List Int)) (n23 : Int) (n24 : Int) (b25 : Bool) (b26 : Bool) : Option (List Int) :=
 oif (decide ((n23 : Int) < 8)) (
 oif (decide (0 ≤ (n23 : Int))) (
 oif (Nat.blt ((n23 : Int).toNat) l21.length) (
 obind (l21[(n23 : Int).toNat]?) fun l27 =>
 obind (l27[0]?) fun n28 =>
 oif (decide (0 ≤ (n28 : Int))) (
 oif (Nat.blt ((n28 : Int).toNat) l20.length) (
 obind (l20[(n28 : Int).toNat]?) fun n29 =>
 oif (decide (0 ≤ (n23 : Int))) (
 oif (Nat.blt ((n23 : Int).toNat) l21.length) (
 obind (l21[(n23 : Int).toNat]?) fun l30 =>
 oif (Nat.ble 1 l30.length) (
 oif (decide (0 ≤ (n23 : Int))) (
 oif (Nat.blt ((n23 : Int).toNat) l21.length) (
 oif (Nat.beq ((n23 : Int).toNat) ((n23 : Int).toNat)) (
 obind (l21[(n23 : Int).toNat]?) fun l31 =>
 ag4 ((IntKind.i64.wrap (n15 - 1)), n16, (IntKind.i64.wrap (n12 + 1)), (l20.set ((n28 : Int).toNat) n12), (l21.set ((n23 : Int).toNat) (l30.drop 1)))) none) none) none) none) none) none) none) none) none) none) (
 ag4 (n15, n16, (IntKind.i64.wrap (n12 + 1)), l20, l21))
noncomputable def l38_2_b (d : Nat) (l21 : List (List Int)) (kx38_2_0 : Int → Int → Bool → Bool → Option (List Int)) (ag22 : Int → Option (List Int)) (n23 : Int) : Option (List Int) :=
 oif (decide ((n23 : Int) < 8)) (
 oif (decide (0 ≤ (n23 : Int))) (
 oif (Nat.blt ((n23 : Int).toNat) l21.length) (
 obind (l21[(n23 : Int).toNat]?) fun l24 =>
 oif ((((l24.length : Nat) : Int) : Int) == 0) (
 ag22 (IntKind.i64.wrap (n23 + 1))) (
 kx38_2_0 n23 n23 (decide ((n23 : Int) < 8)) true)) none) none) (
 kx38_2_0 n23 n23 (decide ((n23 : Int) < 8)) false)
noncomputable def l38_2 (d : Nat) (l21 : List (List Int)) (kx38_2_0 : Int → Int → Bool → Bool → Option (List Int)) (ag22 : Int → Option (List Int)) (s : Int) : Option (List Int) := l38_2_b d l21 kx38_2_0 ag22 s
noncomputable def j38_2 (d : Nat) (ag4 : (Int × Int × Int × (List Int) × (List (List Int))) → Option (List Int)) (n12 : Int) (n15 : Int) (n16 : Int) (n17 : Int) (b18 : Bool) (b19 : Bool) (l20 : List Int) (l21 : List (List Int)) : Option (List Int) :=
 iterP (l38_2 d l21 (j38_1 d ag4 n12 n15 n16 l20 l21)) fuelN 0
noncomputable def j38_3 (d : Nat) (kx38_1_0 : Int → Int → Int → Bool → Bool → (List Int) → (List (List Int)) → Option (List Int)) (l1 : List Int) (l2 : List (Int × Int)) (n3 : Int) (ag14 : (Int × Int × (List Int) × (List (List Int))) → Option (List Int)) (n15 : Int) (n16 : Int) (l17 : List Int) (l18 : List (List Int)) (b19 : Bool) (b20 : Bool) : Option (List Int) :=
 oif b20 (
 oif (decide (0 ≤ (n16 : Int))) (
 obind (l2[(n16 : Int).toNat]?) fun x21 =>
 oif (decide (0 ≤ ((x21.2.tmod 16) : Int))) (
 obind (l1[((x21.2.tmod 16) : Int).toNat]?) fun n22 =>
 oif (decide (0 ≤ (n16 : Int))) (
 oif (Nat.blt ((n16 : Int).toNat) l17.length) (
 obind (l17[(n16 : Int).toNat]?) fun n23 =>
 oif (decide (0 ≤ (n22 : Int))) (
 oif (Nat.blt ((n22 : Int).toNat) l18.length) (
 obind (l18[(n22 : Int).toNat]?) fun l24 =>
 oif (decide ((((l24.length : Nat) : Int) : Int) < n3)) (
 oif (decide (0 ≤ (n22 : Int))) (
 oif (Nat.blt ((n22 : Int).toNat) l18.length) (
 obind (l18[(n22 : Int).toNat]?) fun l25 =>
 oif (Nat.ble ((l25.length + [n16].length) * 8) roomMax) (
 oif (decide (0 ≤ (n22 : Int))) (
 oif (Nat.blt ((n22 : Int).toNat) l18.length) (
 oif (Nat.beq ((n22 : Int).toNat) ((n22 : Int).toNat)) (
 obind (l18[(n22 : Int).toNat]?) fun l26 =>
 ag14 ((IntKind.i64.wrap (n15 + 1)), (IntKind.i64.wrap (n16 + 1)), (l17.set ((n16 : Int).toNat) (-1)), (l18.set ((n22 : Int).toNat) (l25 ++ [n16])))) none) none) none) none) none) none) (
 ag14 (n15, (IntKind.i64.wrap (n16 + 1)), (l17.set ((n16 : Int).toNat) (-1)), l18))) none) none) none) none) none) none) (
 kx38_1_0 n15 n16 n16 (decide ((n16 : Int) < ((l2.length : Nat) : Int))) b19 l17 l18)
noncomputable def l38_1_b (d : Nat) (l1 : List Int) (l2 : List (Int × Int)) (n3 : Int) (n12 : Int) (kx38_1_0 : Int → Int → Int → Bool → Bool → (List Int) → (List (List Int)) → Option (List Int)) (ag14 : (Int × Int × (List Int) × (List (List Int))) → Option (List Int)) (n15 : Int) (n16 : Int) (l17 : List Int) (l18 : List (List Int)) : Option (List Int) :=
 oif (decide ((n16 : Int) < ((l2.length : Nat) : Int))) (
 oif (decide (0 ≤ (n16 : Int))) (
 obind (l2[(n16 : Int).toNat]?) fun x19 =>
 j38_3 d kx38_1_0 l1 l2 n3 ag14 n15 n16 l17 l18 true ((x19.1 : Int) == n12)) none) (
 j38_3 d kx38_1_0 l1 l2 n3 ag14 n15 n16 l17 l18 false false)
noncomputable def l38_1 (d : Nat) (l1 : List Int) (l2 : List (Int × Int)) (n3 : Int) (n12 : Int) (kx38_1_0 : Int → Int → Int → Bool → Bool → (List Int) → (List (List Int)) → Option (List Int)) (ag14 : (Int × Int × (List Int) × (List (List Int))) → Option (List Int)) (s : (Int × Int × (List Int) × (List (List Int)))) : Option (List Int) := l38_1_b d l1 l2 n3 n12 kx38_1_0 ag14 s.1 s.2.1 s.2.2.1 s.2.2.2
noncomputable def j38_4 (d : Nat) (l1 : List Int) (l2 : List (Int × Int)) (n3 : Int) (ag4 : (Int × Int × Int × (List Int) × (List (List Int))) → Option (List Int)) (n5 : Int) (n6 : Int) (l8 : List Int) (l9 : List (List Int)) (n12 : Int) (b13 : Bool) : Option (List Int) :=
 iterP (l38_1 d l1 l2 n3 n12 (j38_2 d ag4 n12)) fuelN (n5, n6, l8, l9)
noncomputable def j38_5 (d : Nat) (kx38_0_0 : (List Int) → (List (List Int)) → Option (List Int)) (l1 : List Int) (l2 : List (Int × Int)) (n3 : Int) (ag4 : (Int × Int × Int × (List Int) × (List (List Int))) → Option (List Int)) (n5 : Int) (n6 : Int) (n7 : Int) (l8 : List Int) (l9 : List (List Int)) (b10 : Bool) (b11 : Bool) : Option (List Int) :=
 oif b11 (
 oif ((n5 : Int) == 0) (
 oif (decide (0 ≤ (n6 : Int))) (
 obind (l2[(n6 : Int).toNat]?) fun x12 =>
 obind (g40 d n7 x12.1) fun r13 =>
 j38_4 d l1 l2 n3 ag4 n5 n6 l8 l9 r13 true) none) (
 j38_4 d l1 l2 n3 ag4 n5 n6 l8 l9 n7 false)) (
 kx38_0_0 l8 l9)
noncomputable def l38_0_b (d : Nat) (l1 : List Int) (l2 : List (Int × Int)) (n3 : Int) (kx38_0_0 : (List Int) → (List (List Int)) → Option (List Int)) (ag4 : (Int × Int × Int × (List Int) × (List (List Int))) → Option (List Int)) (n5 : Int) (n6 : Int) (n7 : Int) (l8 : List Int) (l9 : List (List Int)) : Option (List Int) :=
 oif (decide ((n6 : Int) < ((l2.length : Nat) : Int))) (
 j38_5 d kx38_0_0 l1 l2 n3 ag4 n5 n6 n7 l8 l9 true true) (
 j38_5 d kx38_0_0 l1 l2 n3 ag4 n5 n6 n7 l8 l9 false (decide ((n5 : Int) > 0)))
noncomputable def l38_0 (d : Nat) (l1 : List Int) (l2 : List (Int × Int)) (n3 : Int) (kx38_0_0 : (List Int) → (List (List Int)) → Option (List Int)) (ag4 : (Int × Int × Int × (List Int) × (List (List Int))) → Option (List Int)) (s : (Int × Int × Int × (List Int) × (List (List Int)))) : Option (List Int) := l38_0_b d l1 l2 n3 kx38_0_0 ag4 s.1 s.2.1 s.2.2.1 s.2.2.2.1 s.2.2.2.2
theorem e38 (d : Nat) (l1 : List Int) (l2 : List (Int × Int)) (n3 : Int) : g38 (d + 1) l1 l2 n3 =
 oif (decide (0 ≤ (((l2.length : Nat) : Int) : Int))) (
 oif (decide (0 ≤ (((l2.length : Nat) : Int) : Int))) (
 oif (Nat.ble ((((l2.length : Nat) : Int) : Int).toNat) ((((l2.length : Nat) : Int) : Int).toNat) && Nat.ble (((((l2.length : Nat) : Int) : Int).toNat) * 8) roomMax) (
 oif (Nat.ble 8 8 && Nat.ble (8 * 24) roomMax) (
 iterP (l38_0 d l1 l2 n3 (j38_0 d)) fuelN (0, 0, 0, (List.replicate ((((l2.length : Nat) : Int) : Int).toNat) (0 : Int)), (List.replicate 8 ([] : List Int)))) none) none) none) none := by kernel_rfl

theorem e7 (d : Nat) (l1 : List Int) (l2 : List (Int × Int)) (n3 : Int) : g7 (d + 1) l1 l2 n3 =
 obind (g37 d l1 l2 n3) fun r4 =>
 oif (!r4) (
 some ([], false)) (
 obind (g38 d l1 l2 n3) fun r5 =>
 some (r5, true)) := by kernel_rfl

noncomputable def j39_0 (d : Nat)  (n4 : Int) : Option Int :=
 some n4
noncomputable def l39_0_b (d : Nat) (l1 : List Int) (kx39_0_0 : Int → Option Int) (ag3 : (Int × Int) → Option Int) (n4 : Int) (n5 : Int) : Option Int :=
 oif (decide ((n5 : Int) < ((l1.length : Nat) : Int))) (
 oif (decide (0 ≤ (n5 : Int))) (
 obind (l1[(n5 : Int).toNat]?) fun n6 =>
 ag3 ((if n6 > n4 then n6 else n4), (IntKind.i64.wrap (n5 + 1)))) none) (
 kx39_0_0 n4)
noncomputable def l39_0 (d : Nat) (l1 : List Int) (kx39_0_0 : Int → Option Int) (ag3 : (Int × Int) → Option Int) (s : (Int × Int)) : Option Int := l39_0_b d l1 kx39_0_0 ag3 s.1 s.2
theorem e39 (d : Nat) (l1 : List Int) : g39 (d + 1) l1 =
 oif (decide ((((l1.length : Nat) : Int) : Int) < 1)) (
 none) (
 obind (l1[0]?) fun n2 =>
 iterP (l39_0 d l1 (j39_0 d)) fuelN (n2, 1)) := by kernel_rfl

theorem e8 (d : Nat) (l1 : List Int) (l2 : List (Int × Int)) (n3 : Int) : g8 (d + 1) l1 l2 n3 =
 obind (g35 d l1 l2 n3) fun r4 =>
 oif (!r4) (
 some (0, false)) (
 oif ((((l2.length : Nat) : Int) : Int) == 0) (
 some (0, false)) (
 obind (g36 d l1 l2 n3) fun r5 =>
 obind (g39 d r5) fun r6 =>
 some (r6, true))) := by kernel_rfl

noncomputable def j9_0 (d : Nat)  (n7 : Int) : Option (Int × Bool) :=
 some (n7, true)
noncomputable def l9_0_b (d : Nat) (r5 : List Int) (kx9_0_0 : Int → Option (Int × Bool)) (ag6 : (Int × Int) → Option (Int × Bool)) (n7 : Int) (n8 : Int) : Option (Int × Bool) :=
 oif (decide ((n8 : Int) < ((r5.length : Nat) : Int))) (
 oif (decide (0 ≤ (n8 : Int))) (
 oif (Nat.blt ((n8 : Int).toNat) r5.length) (
 obind (r5[(n8 : Int).toNat]?) fun n9 =>
 obind (g40 d n7 n9) fun r10 =>
 ag6 (r10, (IntKind.i64.wrap (n8 + 1)))) none) none) (
 kx9_0_0 n7)
noncomputable def l9_0 (d : Nat) (r5 : List Int) (kx9_0_0 : Int → Option (Int × Bool)) (ag6 : (Int × Int) → Option (Int × Bool)) (s : (Int × Int)) : Option (Int × Bool) := l9_0_b d r5 kx9_0_0 ag6 s.1 s.2
noncomputable def j9_1 (d : Nat) (l1 : List Int) (l2 : List (Int × Int)) (n3 : Int) (b4 : Bool) : Option (Int × Bool) :=
 oif b4 (
 some (0, false)) (
 obind (g38 d l1 l2 n3) fun r5 =>
 iterP (l9_0 d r5 (j9_0 d)) fuelN (0, 0))
theorem e9 (d : Nat) (l1 : List Int) (l2 : List (Int × Int)) (n3 : Int) : g9 (d + 1) l1 l2 n3 =
 obind (g37 d l1 l2 n3) fun r4 =>
 oif (!r4) (
 j9_1 d l1 l2 n3 true) (
 j9_1 d l1 l2 n3 ((((l2.length : Nat) : Int) : Int) == 0)) := by kernel_rfl

noncomputable def j41_0 (d : Nat)  (l11 : List Int) (n12 : Int) (n13 : Int) (l14 : List Int) : Option ((List Int) × ((List Int) × Int × Int)) :=
 obind (g49 d (l11, n12, n13) 24) fun r15 =>
 oif r15.1 (
 oif (Nat.ble ((l14.length + [0].length) * 8) roomMax) (
 some ((l14 ++ [0]), r15.2)) none) (
 some (l14, r15.2))
noncomputable def j41_1 (d : Nat) (r6 : List Int) (b7 : Bool) (l8 : List Int) (n9 : Int) (n10 : Int) : Option ((List Int) × ((List Int) × Int × Int)) :=
 oif b7 (
 obind (g47 d (l8, n9, n10) ((r6.length : Nat) : Int)) fun r11 =>
 obind (g65 d r11.2 [(-1), (-2), 0, 5, 40, 200000, 200001]) fun r12 =>
 oif (decide (0 ≤ (r11.1 : Int))) (
 oif (Nat.blt ((r11.1 : Int).toNat) r6.length) (
 obind (r6[(r11.1 : Int).toNat]?) fun n13 =>
 j41_0 d r12.2.1 r12.2.2.1 r12.2.2.2 (r6.set ((r11.1 : Int).toNat) r12.1)) none) none) (
 j41_0 d l8 n9 n10 r6)
theorem e41 (d : Nat) (x1 : ((List Int) × Int × Int)) (l2 : List Int) (l3 : List (Int × Int)) : g41 (d + 1) x1 l2 l3 =
 obind (g37 d l2 l3 40) fun r4 =>
 oif (!r4) (
 oif (decide (0 ≤ (((l3.length : Nat) : Int) : Int))) (
 oif (decide (0 ≤ (((l3.length : Nat) : Int) : Int))) (
 oif (Nat.ble ((((l3.length : Nat) : Int) : Int).toNat) ((((l3.length : Nat) : Int) : Int).toNat) && Nat.ble (((((l3.length : Nat) : Int) : Int).toNat) * 8) roomMax) (
 some ((List.replicate ((((l3.length : Nat) : Int) : Int).toNat) (0 : Int)), x1)) none) none) none) (
 obind (g47 d x1 4) fun r5 =>
 obind (g38 d l2 l3 (IntKind.i64.wrap ((1 : Int) + r5.1))) fun r6 =>
 oif (decide ((((r6.length : Nat) : Int) : Int) > 0)) (
 obind (g49 d r5.2 3) fun r7 =>
 j41_1 d r6 r7.1 r7.2.1 r7.2.2.1 r7.2.2.2) (
 j41_1 d r6 false r5.2.1 r5.2.2.1 r5.2.2.2)) := by kernel_rfl

theorem e10 (d : Nat) (l1 : List Int) : g10 (d + 1) l1 =
 obind (g32 d (l1, 0, 0)) fun r2 =>
 obind (g33 d r2.2) fun r3 =>
 obind (g41 d r3.2 r2.1 r3.1) fun r4 =>
 some (r2.1, r3.1, r4.1) := by kernel_rfl

noncomputable def j44_0 (d : Nat)  (b4 : Bool) : Option Bool :=
 some true
noncomputable def l44_0_b (d : Nat) (l1 : List (Int × Int)) (l2 : List Int) (kx44_0_0 : Bool → Option Bool) (ag3 : (Bool × Int) → Option Bool) (b4 : Bool) (n5 : Int) : Option Bool :=
 oif (decide ((n5 : Int) < ((l2.length : Nat) : Int))) (
 oif (decide (0 ≤ (n5 : Int))) (
 obind (l2[(n5 : Int).toNat]?) fun n6 =>
 oif ((n6 : Int) != (-1)) (
 oif (decide (0 ≤ (n5 : Int))) (
 obind (l1[(n5 : Int).toNat]?) fun x7 =>
 oif (decide ((n6 : Int) < x7.1)) (
 some false) (
 oif (decide ((n6 : Int) > 200000)) (
 some false) (
 ag3 (b4, (IntKind.i64.wrap (n5 + 1)))))) none) (
 ag3 (b4, (IntKind.i64.wrap (n5 + 1))))) none) (
 kx44_0_0 b4)
noncomputable def l44_0 (d : Nat) (l1 : List (Int × Int)) (l2 : List Int) (kx44_0_0 : Bool → Option Bool) (ag3 : (Bool × Int) → Option Bool) (s : (Bool × Int)) : Option Bool := l44_0_b d l1 l2 kx44_0_0 ag3 s.1 s.2
theorem e44 (d : Nat) (l1 : List (Int × Int)) (l2 : List Int) : g44 (d + 1) l1 l2 =
 oif ((((l2.length : Nat) : Int) : Int) != ((l1.length : Nat) : Int)) (
 some false) (
 iterP (l44_0 d l1 l2 (j44_0 d)) fuelN (false, 0)) := by kernel_rfl

noncomputable def j11_0 (d : Nat)  (b6 : Bool) (b7 : Bool) : Option (Bool × Bool) :=
 some (true, true)
noncomputable def j11_1 (d : Nat) (ag5 : (Bool × Bool × Int) → Option (Bool × Bool)) (n8 : Int) (b11 : Bool) (b12 : Bool) (n13 : Int) : Option (Bool × Bool) :=
 ag5 (b11, b12, (IntKind.i64.wrap (n8 + 1)))
noncomputable def j11_2 (d : Nat) (ag10 : (Bool × Bool × Int) → Option (Bool × Bool)) (b11 : Bool) (b12 : Bool) (n13 : Int) (n15 : Int) (n16 : Int) (b17 : Bool) (b18 : Bool) (b19 : Bool) (b20 : Bool) (b21 : Bool) (b22 : Bool) (b23 : Bool) : Option (Bool × Bool) :=
 oif b23 (
 some (false, true)) (
 ag10 (b11, b12, (IntKind.i64.wrap (n13 + 1))))
noncomputable def l11_1_b (d : Nat) (l1 : List Int) (l2 : List (Int × Int)) (l3 : List Int) (n8 : Int) (x9 : (Int × Int)) (kx11_1_0 : Bool → Bool → Int → Option (Bool × Bool)) (ag10 : (Bool × Bool × Int) → Option (Bool × Bool)) (b11 : Bool) (b12 : Bool) (n13 : Int) : Option (Bool × Bool) :=
 oif (decide ((n13 : Int) < ((l2.length : Nat) : Int))) (
 oif (decide (0 ≤ (n13 : Int))) (
 obind (l2[(n13 : Int).toNat]?) fun x14 =>
 oif (decide (0 ≤ (n8 : Int))) (
 obind (l3[(n8 : Int).toNat]?) fun n15 =>
 oif (decide ((n15 : Int) ≥ 0)) (
 oif (decide (0 ≤ (n13 : Int))) (
 obind (l3[(n13 : Int).toNat]?) fun n16 =>
 oif (decide (0 ≤ (n8 : Int))) (
 obind (l3[(n8 : Int).toNat]?) fun n17 =>
 oif (decide ((n16 : Int) > n17)) (
 oif (decide (0 ≤ (n8 : Int))) (
 obind (l3[(n8 : Int).toNat]?) fun n18 =>
 oif (decide ((x14.1 : Int) ≤ n18)) (
 oif (decide (0 ≤ ((x14.2.tmod 16) : Int))) (
 obind (l1[((x14.2.tmod 16) : Int).toNat]?) fun n19 =>
 oif (decide (0 ≤ ((x9.2.tmod 16) : Int))) (
 obind (l1[((x9.2.tmod 16) : Int).toNat]?) fun n20 =>
 j11_2 d ag10 b11 b12 n13 n15 n15 (decide ((n15 : Int) ≥ 0)) true (decide ((n16 : Int) > n17)) true (decide ((x14.1 : Int) ≤ n18)) true (decide ((n19 : Int) < n20))) none) none) (
 j11_2 d ag10 b11 b12 n13 n15 n15 (decide ((n15 : Int) ≥ 0)) true (decide ((n16 : Int) > n17)) true (decide ((x14.1 : Int) ≤ n18)) false false)) none) (
 j11_2 d ag10 b11 b12 n13 n15 n15 (decide ((n15 : Int) ≥ 0)) true (decide ((n16 : Int) > n17)) false false false false)) none) none) (
 j11_2 d ag10 b11 b12 n13 n15 n15 (decide ((n15 : Int) ≥ 0)) false false false false false false)) none) none) (
 kx11_1_0 b11 b12 n13)
noncomputable def l11_1 (d : Nat) (l1 : List Int) (l2 : List (Int × Int)) (l3 : List Int) (n8 : Int) (x9 : (Int × Int)) (kx11_1_0 : Bool → Bool → Int → Option (Bool × Bool)) (ag10 : (Bool × Bool × Int) → Option (Bool × Bool)) (s : (Bool × Bool × Int)) : Option (Bool × Bool) := l11_1_b d l1 l2 l3 n8 x9 kx11_1_0 ag10 s.1 s.2.1 s.2.2
noncomputable def l11_0_b (d : Nat) (l1 : List Int) (l2 : List (Int × Int)) (l3 : List Int) (kx11_0_0 : Bool → Bool → Option (Bool × Bool)) (ag5 : (Bool × Bool × Int) → Option (Bool × Bool)) (b6 : Bool) (b7 : Bool) (n8 : Int) : Option (Bool × Bool) :=
 oif (decide ((n8 : Int) < ((l2.length : Nat) : Int))) (
 oif (decide (0 ≤ (n8 : Int))) (
 obind (l2[(n8 : Int).toNat]?) fun x9 =>
 iterP (l11_1 d l1 l2 l3 n8 x9 (j11_1 d ag5 n8)) fuelN (b6, b7, 0)) none) (
 kx11_0_0 b6 b7)
noncomputable def l11_0 (d : Nat) (l1 : List Int) (l2 : List (Int × Int)) (l3 : List Int) (kx11_0_0 : Bool → Bool → Option (Bool × Bool)) (ag5 : (Bool × Bool × Int) → Option (Bool × Bool)) (s : (Bool × Bool × Int)) : Option (Bool × Bool) := l11_0_b d l1 l2 l3 kx11_0_0 ag5 s.1 s.2.1 s.2.2
noncomputable def j11_3 (d : Nat) (l1 : List Int) (l2 : List (Int × Int)) (l3 : List Int) (b4 : Bool) : Option (Bool × Bool) :=
 oif b4 (
 some (false, false)) (
 iterP (l11_0 d l1 l2 l3 (j11_0 d)) fuelN (false, false, 0))
theorem e11 (d : Nat) (l1 : List Int) (l2 : List (Int × Int)) (l3 : List Int) : g11 (d + 1) l1 l2 l3 =
 obind (g42 d l1) fun r4 =>
 oif (!r4) (
 j11_3 d l1 l2 l3 true) (
 obind (g43 d l2) fun r5 =>
 oif (!r5) (
 j11_3 d l1 l2 l3 true) (
 obind (g44 d l2 l3) fun r6 =>
 j11_3 d l1 l2 l3 (!r6))) := by kernel_rfl

noncomputable def j46_0 (d : Nat)  (b5 : Bool) : Option Bool :=
 some true
noncomputable def l46_0_b (d : Nat) (l1 : List (Int × Int)) (l2 : List Int) (kx46_0_0 : Bool → Option Bool) (ag4 : (Bool × Int) → Option Bool) (b5 : Bool) (n6 : Int) : Option Bool :=
 oif (decide ((n6 : Int) < ((l2.length : Nat) : Int))) (
 oif (decide (0 ≤ (n6 : Int))) (
 obind (l2[(n6 : Int).toNat]?) fun n7 =>
 oif ((n7 : Int) != (-1)) (
 oif (decide (0 ≤ (n6 : Int))) (
 obind (l1[(n6 : Int).toNat]?) fun x8 =>
 obind (g48 d n7 x8.1 200000) fun r9 =>
 oif (!r9) (
 some false) (
 ag4 (b5, (IntKind.i64.wrap (n6 + 1))))) none) (
 ag4 (b5, (IntKind.i64.wrap (n6 + 1))))) none) (
 kx46_0_0 b5)
noncomputable def l46_0 (d : Nat) (l1 : List (Int × Int)) (l2 : List Int) (kx46_0_0 : Bool → Option Bool) (ag4 : (Bool × Int) → Option Bool) (s : (Bool × Int)) : Option Bool := l46_0_b d l1 l2 kx46_0_0 ag4 s.1 s.2
noncomputable def j46_1 (d : Nat) (l1 : List (Int × Int)) (l2 : List Int) (b3 : Bool) : Option Bool :=
 oif b3 (
 some false) (
 iterP (l46_0 d l1 l2 (j46_0 d)) fuelN (false, 0))
theorem e46 (d : Nat) (l1 : List (Int × Int)) (l2 : List Int) : g46 (d + 1) l1 l2 =
 obind (g69 d l1) fun r3 =>
 oif (!r3) (
 j46_1 d l1 l2 true) (
 j46_1 d l1 l2 ((((l2.length : Nat) : Int) : Int) != ((l1.length : Nat) : Int))) := by kernel_rfl

noncomputable def j12_0 (d : Nat)  (b6 : Bool) (b7 : Bool) : Option (Bool × Bool) :=
 some (true, true)
noncomputable def j12_1 (d : Nat) (ag5 : (Bool × Bool × Int) → Option (Bool × Bool)) (n8 : Int) (b11 : Bool) (b12 : Bool) (n13 : Int) : Option (Bool × Bool) :=
 ag5 (b11, b12, (IntKind.i64.wrap (n8 + 1)))
noncomputable def j12_2 (d : Nat) (ag10 : (Bool × Bool × Int) → Option (Bool × Bool)) (b11 : Bool) (b12 : Bool) (n13 : Int) (n15 : Int) (n16 : Int) (b17 : Bool) (b18 : Bool) (b19 : Bool) (b20 : Bool) (b21 : Bool) (b22 : Bool) (b23 : Bool) : Option (Bool × Bool) :=
 oif b23 (
 some (false, true)) (
 ag10 (b11, b12, (IntKind.i64.wrap (n13 + 1))))
noncomputable def l12_1_b (d : Nat) (l1 : List Int) (l2 : List (Int × Int)) (l3 : List Int) (n8 : Int) (x9 : (Int × Int)) (kx12_1_0 : Bool → Bool → Int → Option (Bool × Bool)) (ag10 : (Bool × Bool × Int) → Option (Bool × Bool)) (b11 : Bool) (b12 : Bool) (n13 : Int) : Option (Bool × Bool) :=
 oif (decide ((n13 : Int) < ((l2.length : Nat) : Int))) (
 oif (decide (0 ≤ (n13 : Int))) (
 obind (l2[(n13 : Int).toNat]?) fun x14 =>
 oif (decide (0 ≤ (n8 : Int))) (
 obind (l3[(n8 : Int).toNat]?) fun n15 =>
 oif (decide ((n15 : Int) ≥ 0)) (
 oif (decide (0 ≤ (n13 : Int))) (
 obind (l3[(n13 : Int).toNat]?) fun n16 =>
 oif (decide (0 ≤ (n8 : Int))) (
 obind (l3[(n8 : Int).toNat]?) fun n17 =>
 oif (decide ((n16 : Int) > n17)) (
 oif (decide (0 ≤ ((x14.2.tmod 16) : Int))) (
 obind (l1[((x14.2.tmod 16) : Int).toNat]?) fun n18 =>
 oif (decide (0 ≤ ((x9.2.tmod 16) : Int))) (
 obind (l1[((x9.2.tmod 16) : Int).toNat]?) fun n19 =>
 oif (decide ((n18 : Int) < n19)) (
 oif (decide (0 ≤ (n8 : Int))) (
 obind (l3[(n8 : Int).toNat]?) fun n20 =>
 j12_2 d ag10 b11 b12 n13 n15 n15 (decide ((n15 : Int) ≥ 0)) true (decide ((n16 : Int) > n17)) true (decide ((n18 : Int) < n19)) true (decide ((x14.1 : Int) ≤ n20))) none) (
 j12_2 d ag10 b11 b12 n13 n15 n15 (decide ((n15 : Int) ≥ 0)) true (decide ((n16 : Int) > n17)) true (decide ((n18 : Int) < n19)) false false)) none) none) (
 j12_2 d ag10 b11 b12 n13 n15 n15 (decide ((n15 : Int) ≥ 0)) true (decide ((n16 : Int) > n17)) false false false false)) none) none) (
 j12_2 d ag10 b11 b12 n13 n15 n15 (decide ((n15 : Int) ≥ 0)) false false false false false false)) none) none) (
 kx12_1_0 b11 b12 n13)
noncomputable def l12_1 (d : Nat) (l1 : List Int) (l2 : List (Int × Int)) (l3 : List Int) (n8 : Int) (x9 : (Int × Int)) (kx12_1_0 : Bool → Bool → Int → Option (Bool × Bool)) (ag10 : (Bool × Bool × Int) → Option (Bool × Bool)) (s : (Bool × Bool × Int)) : Option (Bool × Bool) := l12_1_b d l1 l2 l3 n8 x9 kx12_1_0 ag10 s.1 s.2.1 s.2.2
noncomputable def l12_0_b (d : Nat) (l1 : List Int) (l2 : List (Int × Int)) (l3 : List Int) (kx12_0_0 : Bool → Bool → Option (Bool × Bool)) (ag5 : (Bool × Bool × Int) → Option (Bool × Bool)) (b6 : Bool) (b7 : Bool) (n8 : Int) : Option (Bool × Bool) :=
 oif (decide ((n8 : Int) < ((l2.length : Nat) : Int))) (
 oif (decide (0 ≤ (n8 : Int))) (
 obind (l2[(n8 : Int).toNat]?) fun x9 =>
 iterP (l12_1 d l1 l2 l3 n8 x9 (j12_1 d ag5 n8)) fuelN (b6, b7, 0)) none) (
 kx12_0_0 b6 b7)
noncomputable def l12_0 (d : Nat) (l1 : List Int) (l2 : List (Int × Int)) (l3 : List Int) (kx12_0_0 : Bool → Bool → Option (Bool × Bool)) (ag5 : (Bool × Bool × Int) → Option (Bool × Bool)) (s : (Bool × Bool × Int)) : Option (Bool × Bool) := l12_0_b d l1 l2 l3 kx12_0_0 ag5 s.1 s.2.1 s.2.2
noncomputable def j12_3 (d : Nat) (l1 : List Int) (l2 : List (Int × Int)) (l3 : List Int) (b4 : Bool) : Option (Bool × Bool) :=
 oif b4 (
 some (false, false)) (
 iterP (l12_0 d l1 l2 l3 (j12_0 d)) fuelN (false, false, 0))
theorem e12 (d : Nat) (l1 : List Int) (l2 : List (Int × Int)) (l3 : List Int) : g12 (d + 1) l1 l2 l3 =
 obind (g45 d l1) fun r4 =>
 oif (!r4) (
 j12_3 d l1 l2 l3 true) (
 obind (g46 d l2 l3) fun r5 =>
 j12_3 d l1 l2 l3 (!r5)) := by kernel_rfl

theorem e13 (d : Nat) (l1 : List Int) : g13 (d + 1) l1 =
 obind (g33 d (l1, 0, 0)) fun r2 =>
 obind (g32 d r2.2) fun r3 =>
 obind (g41 d r3.2 r3.1 r2.1) fun r4 =>
 some (r2.1, r4.1) := by kernel_rfl

noncomputable def j14_0 (d : Nat)  (l5 : List Int) : Option ((List Int) × Bool) :=
 some (l5, true)
noncomputable def l14_0_b (d : Nat) (l1 : List (Int × Int)) (l2 : List Int) (kx14_0_0 : (List Int) → Option ((List Int) × Bool)) (ag4 : ((List Int) × Int) → Option ((List Int) × Bool)) (l5 : List Int) (n6 : Int) : Option ((List Int) × Bool) :=
 oif (decide ((n6 : Int) < ((l2.length : Nat) : Int))) (
 oif (decide (0 ≤ (n6 : Int))) (
 obind (l2[(n6 : Int).toNat]?) fun n7 =>
 oif ((n7 : Int) != (-1)) (
 oif (decide (0 ≤ (n6 : Int))) (
 obind (l1[(n6 : Int).toNat]?) fun x8 =>
 oif (Nat.ble ((l5.length + [(IntKind.i64.wrap (n7 - x8.1))].length) * 8) roomMax) (
 ag4 ((l5 ++ [(IntKind.i64.wrap (n7 - x8.1))]), (IntKind.i64.wrap (n6 + 1)))) none) none) (
 oif (Nat.ble ((l5.length + [n7].length) * 8) roomMax) (
 ag4 ((l5 ++ [n7]), (IntKind.i64.wrap (n6 + 1)))) none)) none) (
 kx14_0_0 l5)
noncomputable def l14_0 (d : Nat) (l1 : List (Int × Int)) (l2 : List Int) (kx14_0_0 : (List Int) → Option ((List Int) × Bool)) (ag4 : ((List Int) × Int) → Option ((List Int) × Bool)) (s : ((List Int) × Int)) : Option ((List Int) × Bool) := l14_0_b d l1 l2 kx14_0_0 ag4 s.1 s.2
noncomputable def j14_1 (d : Nat) (l1 : List (Int × Int)) (l2 : List Int) (b3 : Bool) : Option ((List Int) × Bool) :=
 oif b3 (
 some ([], false)) (
 iterP (l14_0 d l1 l2 (j14_0 d)) fuelN (([] : List Int), 0))
theorem e14 (d : Nat) (l1 : List (Int × Int)) (l2 : List Int) : g14 (d + 1) l1 l2 =
 obind (g43 d l1) fun r3 =>
 oif (!r3) (
 j14_1 d l1 l2 true) (
 obind (g44 d l1 l2) fun r4 =>
 j14_1 d l1 l2 (!r4)) := by kernel_rfl

noncomputable def j15_0 (d : Nat)  (l5 : List Int) : Option ((List Int) × Bool) :=
 some (l5, true)
noncomputable def l15_0_b (d : Nat) (l1 : List (Int × Int)) (l2 : List Int) (kx15_0_0 : (List Int) → Option ((List Int) × Bool)) (ag4 : ((List Int) × Int) → Option ((List Int) × Bool)) (l5 : List Int) (n6 : Int) : Option ((List Int) × Bool) :=
 oif (decide ((n6 : Int) < ((l2.length : Nat) : Int))) (
 oif (decide (0 ≤ (n6 : Int))) (
 obind (l2[(n6 : Int).toNat]?) fun n7 =>
 oif (decide ((n7 : Int) ≥ 0)) (
 oif (decide (0 ≤ (n6 : Int))) (
 obind (l1[(n6 : Int).toNat]?) fun x8 =>
 oif (Nat.ble ((l5.length + [(IntKind.i64.wrap (n7 - x8.1))].length) * 8) roomMax) (
 ag4 ((l5 ++ [(IntKind.i64.wrap (n7 - x8.1))]), (IntKind.i64.wrap (n6 + 1)))) none) none) (
 oif (Nat.ble ((l5.length + [n7].length) * 8) roomMax) (
 ag4 ((l5 ++ [n7]), (IntKind.i64.wrap (n6 + 1)))) none)) none) (
 kx15_0_0 l5)
noncomputable def l15_0 (d : Nat) (l1 : List (Int × Int)) (l2 : List Int) (kx15_0_0 : (List Int) → Option ((List Int) × Bool)) (ag4 : ((List Int) × Int) → Option ((List Int) × Bool)) (s : ((List Int) × Int)) : Option ((List Int) × Bool) := l15_0_b d l1 l2 kx15_0_0 ag4 s.1 s.2
theorem e15 (d : Nat) (l1 : List (Int × Int)) (l2 : List Int) : g15 (d + 1) l1 l2 =
 obind (g46 d l1 l2) fun r3 =>
 oif (!r3) (
 some ([], false)) (
 iterP (l15_0 d l1 l2 (j15_0 d)) fuelN ([], 0)) := by kernel_rfl

theorem e16 (d : Nat) (l1 : List Int) : g16 (d + 1) l1 =
 obind (g33 d (l1, 0, 0)) fun r2 =>
 obind (g32 d r2.2) fun r3 =>
 obind (g34 d r3.2) fun r4 =>
 obind (g47 d r4.2 (IntKind.i64.wrap (((r2.1.length : Nat) : Int) + 1))) fun r5 =>
 obind (g47 d r5.2 20) fun r6 =>
 some (r3.1, r2.1, r4.1, (IntKind.i64.wrap (r5.1 - (IntKind.i64.wrap (r6.1.tdiv 19))))) := by kernel_rfl

noncomputable def j17_0 (d : Nat)  (l9 : List Int) : Option ((List Int) × Bool) :=
 some (l9, true)
noncomputable def j17_1 (d : Nat) (ag8 : ((List Int) × Int) → Option ((List Int) × Bool)) (l9 : List Int) (n10 : Int) (n11 : Int) (b12 : Bool) (b13 : Bool) (b14 : Bool) : Option ((List Int) × Bool) :=
 oif b14 (
 oif (Nat.ble ((l9.length + [n10].length) * 8) roomMax) (
 ag8 ((l9 ++ [n10]), (IntKind.i64.wrap (n10 + 1)))) none) (
 ag8 (l9, (IntKind.i64.wrap (n10 + 1))))
noncomputable def l17_0_b (d : Nat) (l2 : List (Int × Int)) (n4 : Int) (r6 : List Int) (kx17_0_0 : (List Int) → Option ((List Int) × Bool)) (ag8 : ((List Int) × Int) → Option ((List Int) × Bool)) (l9 : List Int) (n10 : Int) : Option ((List Int) × Bool) :=
 oif (decide ((n10 : Int) < ((l2.length : Nat) : Int))) (
 oif (decide (0 ≤ (n10 : Int))) (
 oif (Nat.blt ((n10 : Int).toNat) r6.length) (
 obind (r6[(n10 : Int).toNat]?) fun n11 =>
 oif (decide ((n11 : Int) ≥ 0)) (
 oif (decide (0 ≤ (n10 : Int))) (
 oif (Nat.blt ((n10 : Int).toNat) r6.length) (
 obind (r6[(n10 : Int).toNat]?) fun n12 =>
 oif (decide (0 ≤ (n4 : Int))) (
 oif (Nat.blt ((n4 : Int).toNat) r6.length) (
 obind (r6[(n4 : Int).toNat]?) fun n13 =>
 j17_1 d ag8 l9 n10 n11 (decide ((n11 : Int) ≥ 0)) true (decide ((n12 : Int) < n13))) none) none) none) none) (
 j17_1 d ag8 l9 n10 n11 (decide ((n11 : Int) ≥ 0)) false false)) none) none) (
 kx17_0_0 l9)
noncomputable def l17_0 (d : Nat) (l2 : List (Int × Int)) (n4 : Int) (r6 : List Int) (kx17_0_0 : (List Int) → Option ((List Int) × Bool)) (ag8 : ((List Int) × Int) → Option ((List Int) × Bool)) (s : ((List Int) × Int)) : Option ((List Int) × Bool) := l17_0_b d l2 n4 r6 kx17_0_0 ag8 s.1 s.2
noncomputable def j17_2 (d : Nat) (l1 : List Int) (l2 : List (Int × Int)) (n3 : Int) (n4 : Int) (b5 : Bool) : Option ((List Int) × Bool) :=
 oif b5 (
 some ([], false)) (
 obind (g36 d l1 l2 n3) fun r6 =>
 oif (decide (0 ≤ (n4 : Int))) (
 oif (Nat.blt ((n4 : Int).toNat) r6.length) (
 obind (r6[(n4 : Int).toNat]?) fun n7 =>
 oif (decide ((n7 : Int) < 0)) (
 some ([], false)) (
 iterP (l17_0 d l2 n4 r6 (j17_0 d)) fuelN (([] : List Int), (IntKind.i64.wrap (n4 + 1))))) none) none)
theorem e17 (d : Nat) (l1 : List Int) (l2 : List (Int × Int)) (n3 : Int) (n4 : Int) : g17 (d + 1) l1 l2 n3 n4 =
 obind (g35 d l1 l2 n3) fun r5 =>
 oif (!r5) (
 j17_2 d l1 l2 n3 n4 true) (
 oif (decide ((n4 : Int) < 0)) (
 j17_2 d l1 l2 n3 n4 true) (
 j17_2 d l1 l2 n3 n4 (decide ((n4 : Int) ≥ ((l2.length : Nat) : Int))))) := by kernel_rfl

noncomputable def j18_0 (d : Nat)  (l9 : List Int) : Option ((List Int) × Bool) :=
 some (l9, true)
noncomputable def j18_1 (d : Nat) (ag8 : ((List Int) × Int) → Option ((List Int) × Bool)) (l9 : List Int) (n10 : Int) (n11 : Int) (b12 : Bool) (b13 : Bool) (b14 : Bool) : Option ((List Int) × Bool) :=
 oif b14 (
 oif (Nat.ble ((l9.length + [n10].length) * 8) roomMax) (
 ag8 ((l9 ++ [n10]), (IntKind.i64.wrap (n10 + 1)))) none) (
 ag8 (l9, (IntKind.i64.wrap (n10 + 1))))
noncomputable def l18_0_b (d : Nat) (l2 : List (Int × Int)) (n4 : Int) (r6 : List Int) (kx18_0_0 : (List Int) → Option ((List Int) × Bool)) (ag8 : ((List Int) × Int) → Option ((List Int) × Bool)) (l9 : List Int) (n10 : Int) : Option ((List Int) × Bool) :=
 oif (decide ((n10 : Int) < ((l2.length : Nat) : Int))) (
 oif (decide (0 ≤ (n10 : Int))) (
 oif (Nat.blt ((n10 : Int).toNat) r6.length) (
 obind (r6[(n10 : Int).toNat]?) fun n11 =>
 oif (decide ((n11 : Int) ≥ 0)) (
 oif (decide (0 ≤ (n10 : Int))) (
 oif (Nat.blt ((n10 : Int).toNat) r6.length) (
 obind (r6[(n10 : Int).toNat]?) fun n12 =>
 oif (decide (0 ≤ (n4 : Int))) (
 oif (Nat.blt ((n4 : Int).toNat) r6.length) (
 obind (r6[(n4 : Int).toNat]?) fun n13 =>
 j18_1 d ag8 l9 n10 n11 (decide ((n11 : Int) ≥ 0)) true (decide ((n12 : Int) < n13))) none) none) none) none) (
 j18_1 d ag8 l9 n10 n11 (decide ((n11 : Int) ≥ 0)) false false)) none) none) (
 kx18_0_0 l9)
noncomputable def l18_0 (d : Nat) (l2 : List (Int × Int)) (n4 : Int) (r6 : List Int) (kx18_0_0 : (List Int) → Option ((List Int) × Bool)) (ag8 : ((List Int) × Int) → Option ((List Int) × Bool)) (s : ((List Int) × Int)) : Option ((List Int) × Bool) := l18_0_b d l2 n4 r6 kx18_0_0 ag8 s.1 s.2
noncomputable def j18_2 (d : Nat) (l1 : List Int) (l2 : List (Int × Int)) (n3 : Int) (n4 : Int) (b5 : Bool) : Option ((List Int) × Bool) :=
 oif b5 (
 some ([], false)) (
 obind (g38 d l1 l2 n3) fun r6 =>
 oif (decide (0 ≤ (n4 : Int))) (
 oif (Nat.blt ((n4 : Int).toNat) r6.length) (
 obind (r6[(n4 : Int).toNat]?) fun n7 =>
 oif (decide ((n7 : Int) < 0)) (
 some ([], false)) (
 iterP (l18_0 d l2 n4 r6 (j18_0 d)) fuelN ([], (IntKind.i64.wrap (n4 + 1))))) none) none)
theorem e18 (d : Nat) (l1 : List Int) (l2 : List (Int × Int)) (n3 : Int) (n4 : Int) : g18 (d + 1) l1 l2 n3 n4 =
 obind (g37 d l1 l2 n3) fun r5 =>
 oif (!r5) (
 j18_2 d l1 l2 n3 n4 true) (
 obind (g48 d n4 0 (IntKind.i64.wrap (((l2.length : Nat) : Int) - 1))) fun r6 =>
 j18_2 d l1 l2 n3 n4 (!r6)) := by kernel_rfl

noncomputable def j19_0 (d : Nat)  (b4 : Bool) : Option Bool :=
 some true
noncomputable def l19_0_b (d : Nat) (l1 : List Int) (l2 : List Int) (kx19_0_0 : Bool → Option Bool) (ag3 : (Bool × Int) → Option Bool) (b4 : Bool) (n5 : Int) : Option Bool :=
 oif (decide ((n5 : Int) < ((l1.length : Nat) : Int))) (
 oif (decide (0 ≤ (n5 : Int))) (
 obind (l1[(n5 : Int).toNat]?) fun n6 =>
 oif (decide (0 ≤ (n5 : Int))) (
 obind (l2[(n5 : Int).toNat]?) fun n7 =>
 oif ((n6 : Int) != n7) (
 some false) (
 ag3 (b4, (IntKind.i64.wrap (n5 + 1))))) none) none) (
 kx19_0_0 b4)
noncomputable def l19_0 (d : Nat) (l1 : List Int) (l2 : List Int) (kx19_0_0 : Bool → Option Bool) (ag3 : (Bool × Int) → Option Bool) (s : (Bool × Int)) : Option Bool := l19_0_b d l1 l2 kx19_0_0 ag3 s.1 s.2
theorem e19 (d : Nat) (l1 : List Int) (l2 : List Int) : g19 (d + 1) l1 l2 =
 oif ((((l1.length : Nat) : Int) : Int) != ((l2.length : Nat) : Int)) (
 some false) (
 iterP (l19_0 d l1 l2 (j19_0 d)) fuelN (false, 0)) := by kernel_rfl

noncomputable def j3_0 (d : Nat) (r3 : ((List Int) × (List (Int × Int)) × Int)) (r4 : ((List Int) × Bool)) (r5 : ((List Int) × Bool)) (b21 : Bool) : Option Bool :=
 obind (g11 d r3.1 r3.2.1 r4.1) fun r22 =>
 obind (g14 d r3.2.1 r4.1) fun r23 =>
 obind (g15 d r3.2.1 r5.1) fun r24 =>
 oif r22.2 (
 oif r22.1 (
 oif r23.2 (
 oif r24.2 (
 obind (g19 d r23.1 r24.1) fun r25 =>
 some r25) (
 some false)) (
 some false)) (
 some false)) (
 some false)
noncomputable def j3_1 (d : Nat) (ag20 : (Bool × Int) → Option Bool) (n22 : Int) (b25 : Bool) (n26 : Int) : Option Bool :=
 ag20 (b25, (IntKind.i64.wrap (n22 + 1)))
noncomputable def l3_2_b (d : Nat) (r5 : ((List Int) × Bool)) (n22 : Int) (n23 : Int) (kx3_2_0 : Bool → Int → Option Bool) (ag24 : (Bool × Int) → Option Bool) (b25 : Bool) (n26 : Int) : Option Bool :=
 oif (decide ((n26 : Int) < (((n22 : Int).toNat : Nat) : Int))) (
 oif (decide (0 ≤ (n26 : Int))) (
 oif (Nat.blt ((n26 : Int).toNat) ((n22 : Int).toNat)) (
 obind (r5.1[(n26 : Int).toNat]?) fun n27 =>
 oif (decide ((n23 : Int) ≥ 0)) (
 oif ((n23 : Int) == n27) (
 some false) (
 ag24 (b25, (IntKind.i64.wrap (n26 + 1))))) (
 ag24 (b25, (IntKind.i64.wrap (n26 + 1))))) none) none) (
 kx3_2_0 b25 n26)
noncomputable def l3_2 (d : Nat) (r5 : ((List Int) × Bool)) (n22 : Int) (n23 : Int) (kx3_2_0 : Bool → Int → Option Bool) (ag24 : (Bool × Int) → Option Bool) (s : (Bool × Int)) : Option Bool := l3_2_b d r5 n22 n23 kx3_2_0 ag24 s.1 s.2
noncomputable def l3_1_b (d : Nat) (r5 : ((List Int) × Bool)) (r7 : (Int × Bool)) (kx3_1_0 : Bool → Option Bool) (ag20 : (Bool × Int) → Option Bool) (b21 : Bool) (n22 : Int) : Option Bool :=
 oif (decide ((n22 : Int) < ((r5.1.length : Nat) : Int))) (
 oif (decide (0 ≤ (n22 : Int))) (
 oif (Nat.blt ((n22 : Int).toNat) r5.1.length) (
 obind (r5.1[(n22 : Int).toNat]?) fun n23 =>
 oif (decide ((n23 : Int) > r7.1)) (
 some false) (
 oif (decide (0 ≤ (n22 : Int))) (
 oif (Nat.ble ((n22 : Int).toNat) r5.1.length) (
 iterP (l3_2 d r5 n22 n23 (j3_1 d ag20 n22)) fuelN (b21, 0)) none) none)) none) none) (
 kx3_1_0 b21)
noncomputable def l3_1 (d : Nat) (r5 : ((List Int) × Bool)) (r7 : (Int × Bool)) (kx3_1_0 : Bool → Option Bool) (ag20 : (Bool × Int) → Option Bool) (s : (Bool × Int)) : Option Bool := l3_1_b d r5 r7 kx3_1_0 ag20 s.1 s.2
noncomputable def j3_2 (d : Nat) (r3 : ((List Int) × (List (Int × Int)) × Int)) (r4 : ((List Int) × Bool)) (r5 : ((List Int) × Bool)) (r7 : (Int × Bool)) (b19 : Bool) : Option Bool :=
 oif (!r4.2) (
 some true) (
 iterP (l3_1 d r5 r7 (j3_0 d r3 r4 r5)) fuelN (b19, 0))
noncomputable def l3_0_b (d : Nat) (r14 : ((List Int) × (List (Int × Int)) × Int × Int)) (r16 : ((List Int) × Bool)) (kx3_0_0 : Bool → Option Bool) (ag18 : (Bool × Int) → Option Bool) (b19 : Bool) (n20 : Int) : Option Bool :=
 oif (decide ((n20 : Int) < ((r16.1.length : Nat) : Int))) (
 oif (decide (0 ≤ (n20 : Int))) (
 oif (Nat.blt ((n20 : Int).toNat) r16.1.length) (
 obind (r16.1[(n20 : Int).toNat]?) fun n21 =>
 oif (decide ((n21 : Int) ≤ r14.2.2.2)) (
 some false) (
 oif (decide (0 ≤ (n21 : Int))) (
 oif (Nat.blt ((n21 : Int).toNat) r14.2.1.length) (
 obind (r14.2.1[(n21 : Int).toNat]?) fun x22 =>
 oif (decide (0 ≤ ((x22.2.tmod 16) : Int))) (
 oif (Nat.blt (((x22.2.tmod 16) : Int).toNat) r14.1.length) (
 obind (r14.1[((x22.2.tmod 16) : Int).toNat]?) fun n23 =>
 oif (decide (0 ≤ (r14.2.2.2 : Int))) (
 oif (Nat.blt ((r14.2.2.2 : Int).toNat) r14.2.1.length) (
 obind (r14.2.1[(r14.2.2.2 : Int).toNat]?) fun x24 =>
 oif (decide (0 ≤ ((x24.2.tmod 16) : Int))) (
 oif (Nat.blt (((x24.2.tmod 16) : Int).toNat) r14.1.length) (
 obind (r14.1[((x24.2.tmod 16) : Int).toNat]?) fun n25 =>
 oif (decide ((n23 : Int) ≥ n25)) (
 some false) (
 ag18 (b19, (IntKind.i64.wrap (n20 + 1))))) none) none) none) none) none) none) none) none)) none) none) (
 kx3_0_0 b19)
noncomputable def l3_0 (d : Nat) (r14 : ((List Int) × (List (Int × Int)) × Int × Int)) (r16 : ((List Int) × Bool)) (kx3_0_0 : Bool → Option Bool) (ag18 : (Bool × Int) → Option Bool) (s : (Bool × Int)) : Option Bool := l3_0_b d r14 r16 kx3_0_0 ag18 s.1 s.2
noncomputable def j3_3 (d : Nat) (r3 : ((List Int) × (List (Int × Int)) × Int)) (r4 : ((List Int) × Bool)) (r5 : ((List Int) × Bool)) (r7 : (Int × Bool)) (r14 : ((List Int) × (List (Int × Int)) × Int × Int)) (r16 : ((List Int) × Bool)) (b17 : Bool) : Option Bool :=
 oif b17 (
 some false) (
 iterP (l3_0 d r14 r16 (j3_2 d r3 r4 r5 r7)) fuelN (false, 0))
theorem e3 (d : Nat) (l1 : List Int) (l2 : List Int) : g3 (d + 1) l1 l2 =
 oif (decide (((IntKind.i64.wrap (((l1.length : Nat) : Int) + ((l2.length : Nat) : Int))) : Int) > 1048576)) (
 some true) (
 obind (g5 d l1) fun r3 =>
 obind (g6 d r3.1 r3.2.1 r3.2.2) fun r4 =>
 obind (g7 d r3.1 r3.2.1 r3.2.2) fun r5 =>
 obind (g8 d r3.1 r3.2.1 r3.2.2) fun r6 =>
 obind (g9 d r3.1 r3.2.1 r3.2.2) fun r7 =>
 obind (g10 d l2) fun r8 =>
 obind (g11 d r8.1 r8.2.1 r8.2.2) fun r9 =>
 obind (g12 d r8.1 r8.2.1 r8.2.2) fun r10 =>
 obind (g13 d l2) fun r11 =>
 obind (g14 d r11.1 r11.2) fun r12 =>
 obind (g15 d r11.1 r11.2) fun r13 =>
 obind (g16 d l2) fun r14 =>
 obind (g17 d r14.1 r14.2.1 r14.2.2.1 r14.2.2.2) fun r15 =>
 obind (g18 d r14.1 r14.2.1 r14.2.2.1 r14.2.2.2) fun r16 =>
 oif (!(r4.2 == r5.2)) (
 j3_3 d r3 r4 r5 r7 r14 r16 true) (
 obind (g19 d r4.1 r5.1) fun r17 =>
 oif (!r17) (
 j3_3 d r3 r4 r5 r7 r14 r16 true) (
 oif (!(r6.2 == r7.2)) (
 j3_3 d r3 r4 r5 r7 r14 r16 true) (
 oif ((r6.1 : Int) != r7.1) (
 j3_3 d r3 r4 r5 r7 r14 r16 true) (
 oif (!(r9.2 == r10.2)) (
 j3_3 d r3 r4 r5 r7 r14 r16 true) (
 oif (!(r9.1 == r10.1)) (
 j3_3 d r3 r4 r5 r7 r14 r16 true) (
 oif (!(r12.2 == r13.2)) (
 j3_3 d r3 r4 r5 r7 r14 r16 true) (
 obind (g19 d r12.1 r13.1) fun r18 =>
 oif (!r18) (
 j3_3 d r3 r4 r5 r7 r14 r16 true) (
 oif (!(r15.2 == r16.2)) (
 j3_3 d r3 r4 r5 r7 r14 r16 true) (
 obind (g19 d r15.1 r16.1) fun r19 =>
 j3_3 d r3 r4 r5 r7 r14 r16 (!r19))))))))))) := by kernel_rfl

end Go.Proofs.Ytbciiigglpmlmaa
