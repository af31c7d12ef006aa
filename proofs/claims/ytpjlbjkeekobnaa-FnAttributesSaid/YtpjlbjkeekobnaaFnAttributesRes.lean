/-
  The residual forms of the program's functions under the interpreter by value, printed by program (wip/pv/gen2.py); each equation is checked by the kernel.
  Conditions: none.
-/
import Derived.Test.YtpjlbjkeekobnaaVDef
import Derived.Test.YtpjlbjkeekobnaaProg
import Derived.KernelRfl
set_option linter.all false
set_option maxRecDepth 1000000
namespace Go.Proofs.Ytpjlbjkeekobnaa
open Go.Ev Go.Pv

theorem fuel_is : ∃ n : Nat, n = 4194304 := ⟨_, rfl⟩
noncomputable def fuelN : Nat := Classical.choose fuel_is
theorem fuelN_eq : fuelN = 4194304 := Classical.choose_spec fuel_is
def pvSig : FuncId → Sig
  | 3 => ⟨[(.ro, (.sl (.int .u8))), (.ro, (.sl (.int .u8)))], [(false, .bool)]⟩
  | 5 => ⟨[(.ro, (.sl (.int .u8))), (.ro, (.sl (.int .u8)))], [(false, .bool)]⟩
  | 6 => ⟨[(.ro, (.sl (.int .u8)))], [(true, (.sl (.pair (.int .i64) (.pair (.int .i64) (.pair .bool .str)))))]⟩
  | 7 => ⟨[(.ro, (.sl (.pair (.int .i64) (.pair (.int .i64) (.pair .bool .str)))))], [(false, .str), (false, .bool)]⟩
  | 8 => ⟨[(.ro, (.sl (.pair (.int .i64) (.pair (.int .i64) (.pair .bool .str)))))], [(false, .str), (false, .bool)]⟩
  | 9 => ⟨[(.ro, (.sl (.pair (.int .i64) (.pair (.int .i64) (.pair .bool .str)))))], [(false, .bool)]⟩
  | 10 => ⟨[(.ro, (.sl (.pair (.int .i64) (.pair (.int .i64) (.pair .bool .str)))))], [(false, .bool)]⟩
  | 11 => ⟨[(.ro, .str)], [(true, (.sl (.pair (.int .i64) (.pair (.int .i64) (.pair .bool .str))))), (false, (.pair (.int .i64) (.int .i64))), (false, .bool)]⟩
  | 12 => ⟨[(.ro, (.sl (.pair (.int .i64) (.pair (.int .i64) (.pair .bool .str))))), (.ro, (.sl (.pair (.int .i64) (.pair (.int .i64) (.pair .bool .str)))))], [(false, .bool)]⟩
  | 13 => ⟨[(.ro, (.sl (.pair (.int .i64) (.pair (.int .i64) (.pair .bool .str))))), (.ro, (.int .i64))], [(false, (.int .i64)), (false, .bool)]⟩
  | 14 => ⟨[(.ro, (.sl (.pair (.int .i64) (.pair (.int .i64) (.pair .bool .str))))), (.ro, (.int .i64))], [(false, (.int .i64)), (false, .bool)]⟩
  | 15 => ⟨[(.ro, (.sl (.pair (.int .i64) (.pair (.int .i64) (.pair .bool .str))))), (.ro, (.int .i64))], [(false, (.int .i64)), (false, .bool)]⟩
  | 16 => ⟨[(.ro, (.sl (.pair (.int .i64) (.pair (.int .i64) (.pair .bool .str))))), (.ro, (.int .i64))], [(false, (.int .i64)), (false, .bool)]⟩
  | 17 => ⟨[(.ro, (.sl (.int .u8)))], [(false, .str)]⟩
  | 18 => ⟨[(.ro, .str)], [(true, (.sl (.pair (.int .i64) (.pair (.int .i64) (.pair .bool .str))))), (false, (.pair (.int .i64) (.int .i64))), (false, .bool)]⟩
  | 31 => ⟨[(.ro, (.sl (.int .u8)))], [(true, (.sl (.pair (.int .i64) (.pair (.int .i64) (.pair .bool .str)))))]⟩
  | 32 => ⟨[(.ro, (.sl (.pair (.int .i64) (.pair (.int .i64) (.pair .bool .str)))))], [(false, .bool)]⟩
  | 33 => ⟨[(.mv, (.sl (.int .u8))), (.ro, (.sl (.pair (.int .i64) (.pair (.int .i64) (.pair .bool .str))))), (.ro, (.int .i64)), (.ro, (.int .i64))], [(true, (.sl (.int .u8)))]⟩
  | 34 => ⟨[(.ro, (.sl (.pair (.int .i64) (.pair (.int .i64) (.pair .bool .str)))))], [(false, .bool)]⟩
  | 35 => ⟨[(.ro, (.sl (.pair (.int .i64) (.pair (.int .i64) (.pair .bool .str)))))], [(false, .str), (false, .bool)]⟩
  | 36 => ⟨[(.ps, (.pair .str (.pair (.os (.pair (.int .i64) (.pair (.int .i64) (.pair .bool .str)))) (.pair (.int .i64) (.int .i64))))), (.ro, (.int .i64)), (.ro, (.int .i64)), (.ro, (.int .i64))], [(false, .bool)]⟩
  | 37 => ⟨[(.ro, (.sl (.pair (.int .i64) (.pair (.int .i64) (.pair .bool .str))))), (.ro, (.int .i64))], [(false, .bool)]⟩
  | 38 => ⟨[(.ro, (.sl (.pair (.int .i64) (.pair (.int .i64) (.pair .bool .str))))), (.ro, (.int .i64))], [(false, (.int .i64))]⟩
  | 39 => ⟨[(.ro, (.sl (.pair (.int .i64) (.pair (.int .i64) (.pair .bool .str))))), (.ro, (.int .i64))], [(false, .bool)]⟩
  | 40 => ⟨[(.ro, (.sl (.pair (.int .i64) (.pair (.int .i64) (.pair .bool .str))))), (.ro, (.int .i64)), (.ro, (.int .i64))], [(false, (.int .i64))]⟩
  | 41 => ⟨[(.ro, (.sl (.pair (.int .i64) (.pair (.int .i64) (.pair .bool .str))))), (.ro, (.int .i64))], [(false, (.int .i64))]⟩
  | 42 => ⟨[(.ro, (.sl (.pair (.int .i64) (.pair (.int .i64) (.pair .bool .str))))), (.ro, (.int .i64))], [(false, (.int .i64))]⟩
  | 43 => ⟨[(.ps, (.pair (.sl (.int .u8)) (.pair (.int .i64) (.int .u64))))], [(true, (.sl (.pair (.int .i64) (.pair (.int .i64) (.pair .bool .str)))))]⟩
  | 44 => ⟨[(.ps, (.pair (.sl (.int .u8)) (.pair (.int .i64) (.int .u64)))), (.ro, (.int .i64))], [(false, .bool)]⟩
  | 45 => ⟨[(.ps, (.pair (.sl (.int .u8)) (.pair (.int .i64) (.int .u64))))], [(true, (.sl (.pair (.int .i64) (.pair (.int .i64) (.pair .bool .str)))))]⟩
  | 46 => ⟨[(.ro, (.sl (.pair (.int .i64) (.pair (.int .i64) (.pair .bool .str))))), (.ro, (.int .i64)), (.ro, (.int .i64))], [(false, .str)]⟩
  | 47 => ⟨[(.ro, (.int .i64)), (.ro, (.sl (.pair (.int .i64) (.pair (.int .i64) (.pair .bool .str)))))], [(true, (.sl (.pair (.int .i64) (.pair (.int .i64) (.pair .bool .str)))))]⟩
  | 48 => ⟨[(.ps, (.pair (.sl (.int .u8)) (.pair (.int .i64) (.int .u64)))), (.ro, (.int .i64))], [(false, (.int .i64))]⟩
  | 49 => ⟨[(.ro, (.int .i64))], [(false, .str)]⟩
  | 50 => ⟨[(.ps, (.pair (.sl (.int .u8)) (.pair (.int .i64) (.int .u64)))), (.ro, (.int .i64))], [(false, .str)]⟩
  | 51 => ⟨[(.ps, (.pair (.sl (.int .u8)) (.pair (.int .i64) (.int .u64)))), (.ro, .str)], [(false, .str)]⟩
  | 52 => ⟨[(.ro, .str)], [(true, (.sl (.pair (.int .i64) (.pair (.int .i64) (.pair .bool .str))))), (false, (.pair (.int .i64) (.int .i64)))]⟩
  | 68 => ⟨[(.ps, (.pair (.sl (.int .u8)) (.pair (.int .i64) (.int .u64)))), (.ro, (.sl (.int .i64)))], [(false, (.int .i64))]⟩
  | 69 => ⟨[(.ro, (.int .i64)), (.ro, (.int .i64)), (.ro, (.int .i64))], [(false, .bool)]⟩
  | 70 => ⟨[(.ro, (.int .i64)), (.ro, (.int .i64))], [(false, (.int .i64))]⟩
  | 72 => ⟨[(.ro, (.sl (.pair (.int .i64) (.pair (.int .i64) (.pair .bool .str)))))], [(false, (.int .i64))]⟩
  | 73 => ⟨[(.ro, (.sl (.pair (.int .i64) (.pair (.int .i64) (.pair .bool .str))))), (.ro, (.int .i64))], [(false, (.int .i64))]⟩
  | 74 => ⟨[(.ro, (.int .i64))], [(false, .str)]⟩
  | 75 => ⟨[(.ro, (.int .i64)), (.ro, (.int .i64))], [(false, (.int .i64))]⟩
  | 76 => ⟨[(.ps, (.pair .str (.pair (.os (.pair (.int .i64) (.pair (.int .i64) (.pair .bool .str)))) (.pair (.int .i64) (.int .i64))))), (.ro, (.int .i64)), (.ro, (.int .i64))], [(false, .bool)]⟩
  | 77 => ⟨[(.ps, (.pair .str (.pair (.os (.pair (.int .i64) (.pair (.int .i64) (.pair .bool .str)))) (.pair (.int .i64) (.int .i64))))), (.ro, (.int .i64))], [(false, (.int .i64))]⟩
  | 78 => ⟨[(.ro, (.sl (.pair (.int .i64) (.pair (.int .i64) (.pair .bool .str))))), (.ro, (.int .i64))], [(false, (.int .i64))]⟩
  | 79 => ⟨[(.ro, (.int .i64))], [(false, (.int .i64))]⟩
  | 80 => ⟨[(.ro, (.sl (.pair (.int .i64) (.pair (.int .i64) (.pair .bool .str))))), (.ro, (.int .i64))], [(false, (.int .i64))]⟩
  | 81 => ⟨[(.ps, (.pair (.sl (.int .u8)) (.pair (.int .i64) (.int .u64)))), (.ro, (.sl .str))], [(false, .str)]⟩
  | 82 => ⟨[(.ro, (.sl (.pair (.int .i64) (.pair (.int .i64) (.pair .bool .str))))), (.ro, (.int .i64))], [(false, .str)]⟩
  | 83 => ⟨[(.ps, (.pair (.sl (.int .u8)) (.pair (.int .i64) (.int .u64))))], [(false, (.int .i64))]⟩
  | 84 => ⟨[(.ro, (.int .i64)), (.ro, (.int .i64))], [(false, (.pair (.int .i64) (.int .i64)))]⟩
  | 85 => ⟨[(.ps, (.pair .str (.os (.pair (.int .i64) (.pair (.int .i64) (.pair .bool .str)))))), (.ro, (.int .i64)), (.ro, (.int .i64)), (.ro, (.int .i64))], [(false, (.pair (.int .i64) (.int .i64)))]⟩
  | 95 => ⟨[(.ps, (.pair .str (.os (.pair (.int .i64) (.pair (.int .i64) (.pair .bool .str)))))), (.ro, (.int .i64)), (.ro, (.int .i64)), (.ro, (.int .i64))], [(false, (.pair (.int .i64) (.int .i64)))]⟩
  | 96 => ⟨[(.ro, .str), (.ro, (.int .i64))], [(false, (.int .i64))]⟩
  | _ => ⟨[], []⟩
def pvLoops : FuncId → Nat → LoopA
  | 3, 0 => ⟨[(4, false, .bool), (14, false, (.int .i64)), (93, false, (.int .i64))], [], [], []⟩
  | 9, 0 => ⟨[(2, false, .bool), (11, false, (.int .i64))], [], [], []⟩
  | 12, 0 => ⟨[(4, false, .bool), (13, false, (.int .i64))], [], [], []⟩
  | 15, 0 => ⟨[(6, false, (.int .i64)), (7, false, (.int .i64))], [], [], []⟩
  | 17, 0 => ⟨[(5, false, .str), (6, false, (.int .i64))], [], [], []⟩
  | 17, 1 => ⟨[(5, false, .str)], [], [], []⟩
  | 33, 0 => ⟨[(0, true, (.sl (.int .u8))), (9, false, (.int .i64))], [], [], []⟩
  | 33, 1 => ⟨[(0, true, (.sl (.int .u8)))], [], [], []⟩
  | 34, 0 => ⟨[(2, false, .bool), (8, false, (.int .i64))], [], [], []⟩
  | 36, 0 => ⟨[(1, false, (.int .i64)), (8, false, .bool)], [(0, (.pair .str (.pair (.os (.pair (.int .i64) (.pair (.int .i64) (.pair .bool .str)))) (.pair (.int .i64) (.int .i64)))))], [], []⟩
  | 36, 1 => ⟨[(8, false, .bool), (13, false, (.int .i64))], [], [], []⟩
  | 38, 0 => ⟨[(5, false, (.int .i64)), (6, false, (.int .i64))], [], [], []⟩
  | 40, 0 => ⟨[(7, false, (.int .i64)), (8, false, (.int .i64))], [], [], []⟩
  | 43, 0 => ⟨[(3, true, (.sl (.pair (.int .i64) (.pair (.int .i64) (.pair .bool .str))))), (4, false, (.int .i64))], [(0, (.pair (.sl (.int .u8)) (.pair (.int .i64) (.int .u64))))], [], []⟩
  | 45, 0 => ⟨[(3, true, (.sl (.pair (.int .i64) (.pair (.int .i64) (.pair .bool .str)))))], [], [], []⟩
  | 45, 1 => ⟨[(3, true, (.sl (.pair (.int .i64) (.pair (.int .i64) (.pair .bool .str)))))], [], [], []⟩
  | 45, 2 => ⟨[(3, true, (.sl (.pair (.int .i64) (.pair (.int .i64) (.pair .bool .str)))))], [(0, (.pair (.sl (.int .u8)) (.pair (.int .i64) (.int .u64))))], [], []⟩
  | 46, 0 => ⟨[(7, false, .str), (8, false, (.int .i64))], [], [], []⟩
  | 47, 0 => ⟨[(5, true, (.sl (.pair (.int .i64) (.pair (.int .i64) (.pair .bool .str))))), (13, false, (.int .i64))], [], [], []⟩
  | 50, 0 => ⟨[(5, false, .str)], [], [], []⟩
  | 72, 0 => ⟨[(3, false, (.int .i64)), (4, false, (.int .i64))], [], [], []⟩
  | 73, 0 => ⟨[(5, false, (.int .i64))], [], [], []⟩
  | 78, 0 => ⟨[(5, false, (.int .i64))], [], [], []⟩
  | 80, 0 => ⟨[(5, false, (.int .i64))], [], [], []⟩
  | 82, 0 => ⟨[(8, false, .str)], [], [], []⟩
  | 85, 0 => ⟨[(2, false, (.int .i64))], [(0, (.pair .str (.os (.pair (.int .i64) (.pair (.int .i64) (.pair .bool .str))))))], [], []⟩
  | 95, 0 => ⟨[(10, false, (.int .i64))], [], [], []⟩
  | _, _ => ⟨[], [], [], []⟩
def pvEloops : FuncId → Nat → List (Nat × Value)
  | 3, 0 => [(1, (.slice none 0 0)), (4, (.bool false)), (5, (.slice none 0 0)), (8, (.string ⟨#[]⟩)), (14, (.int .i64 0)), (91, (.slice none 0 0)), (92, (.int .i64 0)), (93, (.int .i64 0))]
  | 9, 0 => [(0, (.slice none 0 0)), (2, (.bool false)), (9, (.slice none 0 0)), (10, (.int .i64 0)), (11, (.int .i64 0))]
  | 12, 0 => [(0, (.slice none 0 0)), (1, (.slice none 0 0)), (4, (.bool false)), (12, (.int .i64 0)), (13, (.int .i64 0))]
  | 15, 0 => [(0, (.slice none 0 0)), (1, (.int .i64 0)), (4, (.int .i64 0)), (5, (.bool false)), (6, (.int .i64 0)), (7, (.int .i64 0))]
  | 17, 0 => [(2, (.string ⟨#[]⟩)), (3, (.pointer (some ⟨0, 0, none⟩))), (5, (.string ⟨#[]⟩)), (6, (.int .i64 0))]
  | 17, 1 => [(2, (.string ⟨#[]⟩)), (3, (.pointer (some ⟨0, 0, none⟩))), (5, (.string ⟨#[]⟩))]
  | 33, 0 => [(0, (.slice none 0 0)), (1, (.slice none 0 0)), (3, (.int .i64 0)), (8, (.slice none 0 0)), (9, (.int .i64 0))]
  | 33, 1 => [(0, (.slice none 0 0)), (1, (.slice none 0 0)), (3, (.int .i64 0)), (8, (.slice none 0 0)), (9, (.int .i64 0)), (10, (.int .i64 0)), (11, (.int .i64 0)), (13, (.int .i64 0)), (14, (.int .i64 0)), (15, (.bool false)), (19, (.slice none 0 0)), (20, (.int .i64 0)), (21, (.slice none 0 0)), (22, (.int .i64 0)), (23, (.pointer (some ⟨0, 0, none⟩))), (24, (.pointer (some ⟨0, 0, none⟩))), (25, (.int .i64 0)), (26, (.slice none 0 0)), (27, (.int .i64 0)), (28, (.pointer (some ⟨0, 0, none⟩))), (29, (.pointer (some ⟨0, 0, none⟩))), (30, (.bool false)), (33, (.slice none 0 0)), (34, (.int .i64 0)), (35, (.string ⟨#[]⟩)), (36, (.string ⟨#[]⟩)), (37, (.slice none 0 0)), (38, (.slice none 0 0)), (39, (.int .i64 0)), (40, (.pointer (some ⟨0, 0, none⟩))), (41, (.pointer (some ⟨0, 0, none⟩))), (42, (.bool false)), (58, (.slice none 0 0)), (59, (.int .i64 0)), (60, (.slice none 0 0)), (61, (.slice none 0 0)), (62, (.int .i64 0)), (63, (.int .i64 0)), (64, (.int .i64 0)), (65, (.string ⟨#[]⟩))]
  | 34, 0 => [(0, (.slice none 0 0)), (2, (.bool false)), (6, (.slice none 0 0)), (7, (.int .i64 0)), (8, (.int .i64 0))]
  | 36, 0 => [(0, (.pointer (some ⟨0, 0, none⟩))), (1, (.int .i64 0)), (2, (.int .i64 0)), (3, (.int .i64 0)), (8, (.bool false))]
  | 36, 1 => [(0, (.pointer (some ⟨0, 0, none⟩))), (1, (.int .i64 0)), (2, (.int .i64 0)), (3, (.int .i64 0)), (8, (.bool false)), (9, (.int .i64 0)), (10, (.int .i64 0)), (11, (.int .i64 0)), (12, (.pointer (some ⟨0, 0, none⟩))), (13, (.int .i64 0)), (14, (.int .i64 0)), (15, (.int .i64 0)), (16, (.bool false)), (17, (.int .i64 0)), (18, (.bool false)), (22, (.pointer (some ⟨0, 0, none⟩))), (23, (.pointer (some ⟨0, 0, none⟩))), (24, (.pointer (some ⟨0, 0, none⟩))), (25, (.slice none 0 0)), (26, (.int .i64 0)), (27, (.bool false)), (31, (.int .i64 0)), (32, (.int .i64 0)), (33, (.int .i64 0)), (34, (.bool false)), (38, (.pointer (some ⟨0, 0, none⟩))), (39, (.int .i64 0)), (40, (.int .i64 0)), (41, (.int .i64 0)), (42, (.bool false)), (46, (.int .i64 0)), (47, (.int .i64 0)), (48, (.int .i64 0)), (49, (.int .i64 0)), (50, (.int .i64 0)), (51, (.int .i64 0)), (52, (.int .i64 0)), (53, (.int .i64 0)), (54, (.bool false)), (58, (.pointer (some ⟨0, 0, none⟩))), (59, (.int .i64 0)), (60, (.int .i64 0)), (61, (.int .i64 0)), (62, (.int .i64 0)), (63, (.int .i64 0)), (64, (.int .i64 0)), (65, (.int .i64 0)), (66, (.bool false)), (67, (.agg #[(.int .i64 0), (.int .i64 0), (.bool false), (.string ⟨#[]⟩)])), (68, (.pointer (some ⟨0, 0, none⟩))), (69, (.bool false)), (70, (.bool false)), (71, (.bool false)), (75, (.bool false)), (79, (.int .i64 0)), (80, (.int .i64 0)), (81, (.int .i64 0))]
  | 38, 0 => [(0, (.slice none 0 0)), (1, (.int .i64 0)), (4, (.int .i64 0)), (5, (.int .i64 0)), (6, (.int .i64 0))]
  | 40, 0 => [(0, (.slice none 0 0)), (2, (.int .i64 0)), (6, (.int .i64 0)), (7, (.int .i64 0)), (8, (.int .i64 0))]
  | 43, 0 => [(0, (.pointer (some ⟨0, 0, none⟩))), (2, (.slice none 0 0)), (3, (.slice none 0 0)), (4, (.int .i64 0))]
  | 45, 0 => [(2, (.slice none 0 0)), (3, (.slice none 0 0)), (5, (.int .i64 0))]
  | 45, 1 => [(2, (.slice none 0 0)), (3, (.slice none 0 0)), (6, (.int .i64 0))]
  | 45, 2 => [(0, (.pointer (some ⟨0, 0, none⟩))), (2, (.slice none 0 0)), (3, (.slice none 0 0))]
  | 46, 0 => [(0, (.slice none 0 0)), (2, (.int .i64 0)), (6, (.string ⟨#[]⟩)), (7, (.string ⟨#[]⟩)), (8, (.int .i64 0))]
  | 47, 0 => [(4, (.slice none 0 0)), (5, (.slice none 0 0)), (11, (.slice none 0 0)), (12, (.int .i64 0)), (13, (.int .i64 0))]
  | 50, 0 => [(1, (.int .i64 0)), (4, (.string ⟨#[]⟩)), (5, (.string ⟨#[]⟩))]
  | 72, 0 => [(0, (.slice none 0 0)), (2, (.int .i64 0)), (3, (.int .i64 0)), (4, (.int .i64 0))]
  | 73, 0 => [(0, (.slice none 0 0)), (1, (.int .i64 0)), (4, (.int .i64 0)), (5, (.int .i64 0))]
  | 78, 0 => [(0, (.slice none 0 0)), (1, (.int .i64 0)), (4, (.int .i64 0)), (5, (.int .i64 0))]
  | 80, 0 => [(0, (.slice none 0 0)), (1, (.int .i64 0)), (4, (.int .i64 0)), (5, (.int .i64 0))]
  | 82, 0 => [(4, (.string ⟨#[]⟩)), (7, (.int .i64 0)), (8, (.string ⟨#[]⟩))]
  | 85, 0 => [(0, (.pointer (some ⟨0, 0, none⟩))), (1, (.int .i64 0)), (2, (.int .i64 0)), (3, (.int .i64 0)), (8, (.pointer (some ⟨0, 0, none⟩)))]
  | 95, 0 => [(0, (.pointer (some ⟨0, 0, none⟩))), (2, (.int .i64 0)), (8, (.pointer (some ⟨0, 0, none⟩))), (9, (.int .i64 0)), (10, (.int .i64 0))]
  | _, _ => []
def pvInline : FuncId → Bool
  | 58 => true
  | 59 => true
  | 88 => true
  | 99 => true
  | 100 => true
  | 106 => true
  | 109 => true
  | _ => false
def pvOwn : FuncId → Bool

  | _ => false
def pvExt : FuncId → Option (List Value → Nat → Go.Ev.Heap → Option (Value × Go.Ev.Heap))
  | _ => none
def pvVext : (f : FuncId) → Option (TupT (pvSig f).ptys → Option (TupT (pvSig f).rtys))
  | _ => none
noncomputable def pvAnn : AnnV := ⟨fuelN, pvSig, pvLoops, pvEloops, pvInline, pvOwn, pvExt, pvVext⟩

/-- loop.example/g00838/laws.big -/
noncomputable def g5 (d : Nat) (l1 : List Int) (l2 : List Int) : Option Bool := (lev Try.prog pvAnn d).call 5 (l1, l2)
/-- (*loop.example/g00838/spec.l1Cur).next -/
noncomputable def g83 (d : Nat) (x1 : ((List Int) × Int × Int)) : Option (Int × ((List Int) × Int × Int)) := (lev Try.prog pvAnn d).call 83 (x1)
/-- (*loop.example/g00838/spec.l1Cur).pick -/
noncomputable def g48 (d : Nat) (x1 : ((List Int) × Int × Int)) (n2 : Int) : Option (Int × ((List Int) × Int × Int)) := (lev Try.prog pvAnn d).call 48 (x1, n2)
/-- (*loop.example/g00838/spec.l1Cur).one -/
noncomputable def g44 (d : Nat) (x1 : ((List Int) × Int × Int)) (n2 : Int) : Option (Bool × ((List Int) × Int × Int)) := (lev Try.prog pvAnn d).call 44 (x1, n2)
/-- loop.example/g00838/spec.l1Most -/
noncomputable def g70 (d : Nat) (n1 : Int) (n2 : Int) : Option Int := (lev Try.prog pvAnn d).call 70 (n1, n2)
/-- loop.example/g00838/spec.l1Least -/
noncomputable def g75 (d : Nat) (n1 : Int) (n2 : Int) : Option Int := (lev Try.prog pvAnn d).call 75 (n1, n2)
/-- (*loop.example/g00838/spec.l1Cur).of -/
noncomputable def g81 (d : Nat) (x1 : ((List Int) × Int × Int)) (l2 : List ByteArray) : Option (ByteArray × ((List Int) × Int × Int)) := (lev Try.prog pvAnn d).call 81 (x1, l2)
/-- (*loop.example/g00838/spec.l1Cur).attrs -/
noncomputable def g43 (d : Nat) (x1 : ((List Int) × Int × Int)) : Option ((List (Int × Int × Bool × ByteArray)) × ((List Int) × Int × Int)) := (lev Try.prog pvAnn d).call 43 (x1)
/-- (*loop.example/g00838/spec.l1Cur).long -/
noncomputable def g50 (d : Nat) (x1 : ((List Int) × Int × Int)) (n2 : Int) : Option (ByteArray × ((List Int) × Int × Int)) := (lev Try.prog pvAnn d).call 50 (x1, n2)
/-- (*loop.example/g00838/spec.l1Cur).among -/
noncomputable def g68 (d : Nat) (x1 : ((List Int) × Int × Int)) (l2 : List Int) : Option (Int × ((List Int) × Int × Int)) := (lev Try.prog pvAnn d).call 68 (x1, l2)
/-- (*loop.example/g00838/spec.l1Cur).anyAttrs -/
noncomputable def g45 (d : Nat) (x1 : ((List Int) × Int × Int)) : Option ((List (Int × Int × Bool × ByteArray)) × ((List Int) × Int × Int)) := (lev Try.prog pvAnn d).call 45 (x1)
/-- loop.example/g00838/spec.DrawAreAttrs -/
noncomputable def g31 (d : Nat) (l1 : List Int) : Option (List (Int × Int × Bool × ByteArray)) := (lev Try.prog pvAnn d).call 31 (l1)
/-- loop.example/g00838/spec.DrawEncodeAttrs -/
noncomputable def g6 (d : Nat) (l1 : List Int) : Option (List (Int × Int × Bool × ByteArray)) := (lev Try.prog pvAnn d).call 6 (l1)
/-- loop.example/g00838/impl.AreAttrs -/
noncomputable def g9 (d : Nat) (l1 : List (Int × Int × Bool × ByteArray)) : Option Bool := (lev Try.prog pvAnn d).call 9 (l1)
/-- loop.example/g00838/impl.endOf -/
noncomputable def g73 (d : Nat) (l1 : List (Int × Int × Bool × ByteArray)) (n2 : Int) : Option Int := (lev Try.prog pvAnn d).call 73 (l1, n2)
/-- loop.example/g00838/impl.sizeOf -/
noncomputable def g38 (d : Nat) (l1 : List (Int × Int × Bool × ByteArray)) (n2 : Int) : Option Int := (lev Try.prog pvAnn d).call 38 (l1, n2)
/-- loop.example/g00838/impl.wholeSize -/
noncomputable def g72 (d : Nat) (l1 : List (Int × Int × Bool × ByteArray)) : Option Int := (lev Try.prog pvAnn d).call 72 (l1)
/-- loop.example/g00838/impl.encodable -/
noncomputable def g32 (d : Nat) (l1 : List (Int × Int × Bool × ByteArray)) : Option Bool := (lev Try.prog pvAnn d).call 32 (l1)
/-- loop.example/g00838/impl.littleBytes -/
noncomputable def g74 (d : Nat) (n1 : Int) : Option ByteArray := (lev Try.prog pvAnn d).call 74 (n1)
/-- loop.example/g00838/impl.encodeRange -/
noncomputable def g33 (d : Nat) (l1 : List Int) (l2 : List (Int × Int × Bool × ByteArray)) (n3 : Int) (n4 : Int) : Option (List Int) := (lev Try.prog pvAnn d).call 33 (l1, l2, n3, n4)
/-- loop.example/g00838/impl.EncodeAttrs -/
noncomputable def g7 (d : Nat) (l1 : List (Int × Int × Bool × ByteArray)) : Option (ByteArray × Bool) := (lev Try.prog pvAnn d).call 7 (l1)
/-- loop.example/g00838/spec.l1In -/
noncomputable def g69 (d : Nat) (n1 : Int) (n2 : Int) (n3 : Int) : Option Bool := (lev Try.prog pvAnn d).call 69 (n1, n2, n3)
/-- loop.example/g00838/spec.tvGood -/
noncomputable def g34 (d : Nat) (l1 : List (Int × Int × Bool × ByteArray)) : Option Bool := (lev Try.prog pvAnn d).call 34 (l1)
/-- loop.example/g00838/spec.tvEnd -/
noncomputable def g78 (d : Nat) (l1 : List (Int × Int × Bool × ByteArray)) (n2 : Int) : Option Int := (lev Try.prog pvAnn d).call 78 (l1, n2)
/-- loop.example/g00838/spec.tvPad -/
noncomputable def g79 (d : Nat) (n1 : Int) : Option Int := (lev Try.prog pvAnn d).call 79 (n1)
/-- loop.example/g00838/spec.tvSize -/
noncomputable def g41 (d : Nat) (l1 : List (Int × Int × Bool × ByteArray)) (n2 : Int) : Option Int := (lev Try.prog pvAnn d).call 41 (l1, n2)
/-- loop.example/g00838/spec.tvLength -/
noncomputable def g40 (d : Nat) (l1 : List (Int × Int × Bool × ByteArray)) (n2 : Int) (n3 : Int) : Option Int := (lev Try.prog pvAnn d).call 40 (l1, n2, n3)
/-- loop.example/g00838/spec.tvWord -/
noncomputable def g49 (d : Nat) (n1 : Int) : Option ByteArray := (lev Try.prog pvAnn d).call 49 (n1)
/-- loop.example/g00838/spec.tvOne -/
noncomputable def g82 (d : Nat) (l1 : List (Int × Int × Bool × ByteArray)) (n2 : Int) : Option ByteArray := (lev Try.prog pvAnn d).call 82 (l1, n2)
/-- loop.example/g00838/spec.tvAll -/
noncomputable def g46 (d : Nat) (l1 : List (Int × Int × Bool × ByteArray)) (n2 : Int) (n3 : Int) : Option ByteArray := (lev Try.prog pvAnn d).call 46 (l1, n2, n3)
/-- loop.example/g00838/spec.tvText -/
noncomputable def g35 (d : Nat) (l1 : List (Int × Int × Bool × ByteArray)) : Option (ByteArray × Bool) := (lev Try.prog pvAnn d).call 35 (l1)
/-- loop.example/g00838/spec.EncodeAttrs -/
noncomputable def g8 (d : Nat) (l1 : List (Int × Int × Bool × ByteArray)) : Option (ByteArray × Bool) := (lev Try.prog pvAnn d).call 8 (l1)
/-- loop.example/g00838/spec.AreAttrs -/
noncomputable def g10 (d : Nat) (l1 : List (Int × Int × Bool × ByteArray)) : Option Bool := (lev Try.prog pvAnn d).call 10 (l1)
/-- (*loop.example/g00838/impl.decoder).stop -/
noncomputable def g76 (d : Nat) (x1 : (ByteArray × (List (Int × Int × Bool × ByteArray)) × Int × Int)) (n2 : Int) (n3 : Int) : Option (Bool × (ByteArray × (List (Int × Int × Bool × ByteArray)) × Int × Int)) := (lev Try.prog pvAnn d).call 76 (x1, n2, n3)
/-- (*loop.example/g00838/impl.decoder).short -/
noncomputable def g77 (d : Nat) (x1 : (ByteArray × (List (Int × Int × Bool × ByteArray)) × Int × Int)) (n2 : Int) : Option (Int × (ByteArray × (List (Int × Int × Bool × ByteArray)) × Int × Int)) := (lev Try.prog pvAnn d).call 77 (x1, n2)
/-- (*loop.example/g00838/impl.decoder).read -/
noncomputable def g36 (d : Nat) (x1 : (ByteArray × (List (Int × Int × Bool × ByteArray)) × Int × Int)) (n2 : Int) (n3 : Int) (n4 : Int) : Option (Bool × (ByteArray × (List (Int × Int × Bool × ByteArray)) × Int × Int)) := (lev Try.prog pvAnn d).call 36 (x1, n2, n3, n4)
/-- loop.example/g00838/impl.DecodeAttrs -/
noncomputable def g11 (d : Nat) (s1 : ByteArray) : Option ((List (Int × Int × Bool × ByteArray)) × (Int × Int) × Bool) := (lev Try.prog pvAnn d).call 11 (s1)
/-- loop.example/g00838/laws.pSameAttrs -/
noncomputable def g12 (d : Nat) (l1 : List (Int × Int × Bool × ByteArray)) (l2 : List (Int × Int × Bool × ByteArray)) : Option Bool := (lev Try.prog pvAnn d).call 12 (l1, l2)
/-- loop.example/g00838/impl.isAttrOf -/
noncomputable def g37 (d : Nat) (l1 : List (Int × Int × Bool × ByteArray)) (n2 : Int) : Option Bool := (lev Try.prog pvAnn d).call 37 (l1, n2)
/-- loop.example/g00838/impl.SizeOf -/
noncomputable def g13 (d : Nat) (l1 : List (Int × Int × Bool × ByteArray)) (n2 : Int) : Option (Int × Bool) := (lev Try.prog pvAnn d).call 13 (l1, n2)
/-- loop.example/g00838/spec.tvHas -/
noncomputable def g39 (d : Nat) (l1 : List (Int × Int × Bool × ByteArray)) (n2 : Int) : Option Bool := (lev Try.prog pvAnn d).call 39 (l1, n2)
/-- loop.example/g00838/spec.SizeOf -/
noncomputable def g14 (d : Nat) (l1 : List (Int × Int × Bool × ByteArray)) (n2 : Int) : Option (Int × Bool) := (lev Try.prog pvAnn d).call 14 (l1, n2)
/-- loop.example/g00838/impl.OffsetOf -/
noncomputable def g15 (d : Nat) (l1 : List (Int × Int × Bool × ByteArray)) (n2 : Int) : Option (Int × Bool) := (lev Try.prog pvAnn d).call 15 (l1, n2)
/-- loop.example/g00838/spec.tvParent -/
noncomputable def g80 (d : Nat) (l1 : List (Int × Int × Bool × ByteArray)) (n2 : Int) : Option Int := (lev Try.prog pvAnn d).call 80 (l1, n2)
/-- loop.example/g00838/spec.tvOffset -/
noncomputable def g42 (d : Nat) (l1 : List (Int × Int × Bool × ByteArray)) (n2 : Int) : Option Int := (lev Try.prog pvAnn d).call 42 (l1, n2)
/-- loop.example/g00838/spec.OffsetOf -/
noncomputable def g16 (d : Nat) (l1 : List (Int × Int × Bool × ByteArray)) (n2 : Int) : Option (Int × Bool) := (lev Try.prog pvAnn d).call 16 (l1, n2)
/-- loop.example/g00838/spec.tvWrap -/
noncomputable def g47 (d : Nat) (n1 : Int) (l2 : List (Int × Int × Bool × ByteArray)) : Option (List (Int × Int × Bool × ByteArray)) := (lev Try.prog pvAnn d).call 47 (n1, l2)
/-- (*loop.example/g00838/spec.l1Cur).bent -/
noncomputable def g51 (d : Nat) (x1 : ((List Int) × Int × Int)) (s2 : ByteArray) : Option (ByteArray × ((List Int) × Int × Int)) := (lev Try.prog pvAnn d).call 51 (x1, s2)
/-- loop.example/g00838/spec.DrawDecodeAttrs -/
noncomputable def g17 (d : Nat) (l1 : List Int) : Option ByteArray := (lev Try.prog pvAnn d).call 17 (l1)
/-- loop.example/g00838/spec.tvFault -/
noncomputable def g84 (d : Nat) (n1 : Int) (n2 : Int) : Option (Int × Int) := (lev Try.prog pvAnn d).call 84 (n1, n2)
/-- loop.example/g00838/spec.tvRead -/
noncomputable def g96 (d : Nat) (s1 : ByteArray) (n2 : Int) : Option Int := (lev Try.prog pvAnn d).call 96 (s1, n2)
/-- (*loop.example/g00838/spec.tvReader).head -/
noncomputable def g95 (d : Nat) (x1 : (ByteArray × (List (Int × Int × Bool × ByteArray)))) (n2 : Int) (n3 : Int) (n4 : Int) : Option ((Int × Int) × (ByteArray × (List (Int × Int × Bool × ByteArray)))) := (lev Try.prog pvAnn d).call 95 (x1, n2, n3, n4)
/-- (*loop.example/g00838/spec.tvReader).list -/
noncomputable def g85 (d : Nat) (x1 : (ByteArray × (List (Int × Int × Bool × ByteArray)))) (n2 : Int) (n3 : Int) (n4 : Int) : Option ((Int × Int) × (ByteArray × (List (Int × Int × Bool × ByteArray)))) := (lev Try.prog pvAnn d).call 85 (x1, n2, n3, n4)
/-- loop.example/g00838/spec.tvDecode -/
noncomputable def g52 (d : Nat) (s1 : ByteArray) : Option ((List (Int × Int × Bool × ByteArray)) × (Int × Int)) := (lev Try.prog pvAnn d).call 52 (s1)
/-- loop.example/g00838/spec.DecodeAttrs -/
noncomputable def g18 (d : Nat) (s1 : ByteArray) : Option ((List (Int × Int × Bool × ByteArray)) × (Int × Int) × Bool) := (lev Try.prog pvAnn d).call 18 (s1)
/-- loop.example/g00838/laws.FnAttributes -/
noncomputable def g3 (d : Nat) (l1 : List Int) (l2 : List Int) : Option Bool := (lev Try.prog pvAnn d).call 3 (l1, l2)

theorem e5 (d : Nat) (l1 : List Int) (l2 : List Int) : g5 (d + 1) l1 l2 =
 oif (decide ((((l1.length : Nat) : Int) : Int) > 1048576)) (
 some true) (
 some (decide ((((l2.length : Nat) : Int) : Int) > (IntKind.i64.wrap ((1048576 : Int) - ((l1.length : Nat) : Int)))))) := by kernel_rfl

noncomputable def j83_0 (d : Nat) (x1 : ((List Int) × Int × Int)) (n2 : Int) : Option (Int × ((List Int) × Int × Int)) :=
 oif (decide (((IntKind.i64.wrap (x1.2.1 + 1)) : Int) ≤ ((x1.1.length : Nat) : Int))) (
 some (n2, (x1.1, (IntKind.i64.wrap (x1.2.1 + 1)), (IntKind.u64.wrap ((IntKind.u64.wrap ((IntKind.u64.wrap (x1.2.2 * 6364136223846793005)) + (IntKind.u64.wrap n2))) + 1442695040888963407))))) (
 some ((IntKind.i64.wrap (IntKind.u64.wrap ((BitVec.ofInt IntKind.u64.bits ((IntKind.u64.wrap ((IntKind.u64.wrap ((IntKind.u64.wrap (x1.2.2 * 6364136223846793005)) + (IntKind.u64.wrap n2))) + 1442695040888963407)).fdiv (2 ^ (min (40 : Int).toNat IntKind.u64.bits))) &&& BitVec.ofInt IntKind.u64.bits 255).toNat : Int))), (x1.1, (IntKind.i64.wrap (x1.2.1 + 1)), (IntKind.u64.wrap ((IntKind.u64.wrap ((IntKind.u64.wrap (x1.2.2 * 6364136223846793005)) + (IntKind.u64.wrap n2))) + 1442695040888963407)))))
theorem e83 (d : Nat) (x1 : ((List Int) × Int × Int)) : g83 (d + 1) x1 =
 oif (decide ((x1.2.1 : Int) < ((x1.1.length : Nat) : Int))) (
 oif (decide (0 ≤ (x1.2.1 : Int))) (
 obind (x1.1[(x1.2.1 : Int).toNat]?) fun n2 =>
 j83_0 d x1 (IntKind.i64.wrap n2)) none) (
 j83_0 d x1 0) := by kernel_rfl

theorem e48 (d : Nat) (x1 : ((List Int) × Int × Int)) (n2 : Int) : g48 (d + 1) x1 n2 =
 oif (decide ((n2 : Int) ≤ 1)) (
 some (0, x1)) (
 obind (g83 d x1) fun r3 =>
 oif (decide ((n2 : Int) > 200)) (
 obind (g83 d r3.2) fun r4 =>
 oif ((n2 : Int) == 0) none (
 some (((IntKind.i64.wrap ((IntKind.i64.wrap (r3.1 * 256)) + r4.1)).tmod n2), r4.2))) (
 oif ((n2 : Int) == 0) none (
 some ((r3.1.tmod n2), r3.2)))) := by kernel_rfl

theorem e44 (d : Nat) (x1 : ((List Int) × Int × Int)) (n2 : Int) : g44 (d + 1) x1 n2 =
 obind (g48 d x1 n2) fun r3 =>
 some (((r3.1 : Int) == 0), r3.2) := by kernel_rfl

theorem e70 (d : Nat) (n1 : Int) (n2 : Int) : g70 (d + 1) n1 n2 =
 oif (decide ((n1 : Int) > n2)) (
 some n1) (
 some n2) := by kernel_rfl

theorem e75 (d : Nat) (n1 : Int) (n2 : Int) : g75 (d + 1) n1 n2 =
 oif (decide ((n1 : Int) < n2)) (
 some n1) (
 some n2) := by kernel_rfl

theorem e81 (d : Nat) (x1 : ((List Int) × Int × Int)) (l2 : List ByteArray) : g81 (d + 1) x1 l2 =
 obind (g48 d x1 ((l2.length : Nat) : Int)) fun r3 =>
 oif (decide (0 ≤ (r3.1 : Int))) (
 obind (l2[(r3.1 : Int).toNat]?) fun s4 =>
 some (s4, r3.2)) none := by kernel_rfl

noncomputable def j43_0 (d : Nat)  (l4 : List (Int × Int × Bool × ByteArray)) (l5 : List Int) (n6 : Int) (n7 : Int) : Option ((List (Int × Int × Bool × ByteArray)) × ((List Int) × Int × Int)) :=
 some (l4, (l5, n6, n7))
noncomputable def j43_1 (d : Nat) (ag3 : ((List (Int × Int × Bool × ByteArray)) × Int × ((List Int) × Int × Int)) → Option ((List (Int × Int × Bool × ByteArray)) × ((List Int) × Int × Int))) (l4 : List (Int × Int × Bool × ByteArray)) (n5 : Int) (r7 : (Int × ((List Int) × Int × Int))) (n12 : Int) (b14 : Bool) (l15 : List Int) (n16 : Int) (n17 : Int) (b18 : Bool) (s19 : ByteArray) : Option ((List (Int × Int × Bool × ByteArray)) × ((List Int) × Int × Int)) :=
 oif (Nat.ble ((l4.length + [(n12, r7.1, b18, s19)].length) * 40) roomMax) (
 ag3 ((l4 ++ [(n12, r7.1, b18, s19)]), (IntKind.i64.wrap (n5 - 1)), (l15, n16, n17))) none
noncomputable def j43_2 (d : Nat) (ag3 : ((List (Int × Int × Bool × ByteArray)) × Int × ((List Int) × Int × Int)) → Option ((List (Int × Int × Bool × ByteArray)) × ((List Int) × Int × Int))) (l4 : List (Int × Int × Bool × ByteArray)) (n5 : Int) (r7 : (Int × ((List Int) × Int × Int))) (b8 : Bool) (l9 : List Int) (n10 : Int) (n11 : Int) (n12 : Int) : Option ((List (Int × Int × Bool × ByteArray)) × ((List Int) × Int × Int)) :=
 obind (g44 d (l9, n10, n11) 2) fun r13 =>
 oif r13.1 (
 j43_1 d ag3 l4 n5 r7 n12 true r13.2.1 r13.2.2.1 r13.2.2.2 true (⟨#[]⟩ : ByteArray)) (
 obind (g81 d r13.2 [(⟨#[]⟩ : ByteArray), (⟨#[97]⟩ : ByteArray), (⟨#[97, 98]⟩ : ByteArray), (⟨#[97, 98, 99]⟩ : ByteArray), (⟨#[97, 98, 99, 100]⟩ : ByteArray), (⟨#[0]⟩ : ByteArray), (⟨#[255, 0, 1]⟩ : ByteArray), (⟨#[104, 101, 108, 108, 111]⟩ : ByteArray)]) fun r14 =>
 j43_1 d ag3 l4 n5 r7 n12 false r14.2.1 r14.2.2.1 r14.2.2.2 false r14.1)
noncomputable def j43_3 (d : Nat) (ag3 : ((List (Int × Int × Bool × ByteArray)) × Int × ((List Int) × Int × Int)) → Option ((List (Int × Int × Bool × ByteArray)) × ((List Int) × Int × Int))) (l4 : List (Int × Int × Bool × ByteArray)) (n5 : Int) (r7 : (Int × ((List Int) × Int × Int))) (x8 : (Int × Int × Bool × ByteArray)) (r9 : (Int × ((List Int) × Int × Int))) (b10 : Bool) (b11 : Bool) (b12 : Bool) (l13 : List Int) (n14 : Int) (n15 : Int) : Option ((List (Int × Int × Bool × ByteArray)) × ((List Int) × Int × Int)) :=
 oif b12 (
 oif (decide (0 ≤ ((IntKind.i64.wrap (((l4.length : Nat) : Int) - 1)) : Int))) (
 oif (Nat.blt (((IntKind.i64.wrap (((l4.length : Nat) : Int) - 1)) : Int).toNat) l4.length) (
 obind (l4[((IntKind.i64.wrap (((l4.length : Nat) : Int) - 1)) : Int).toNat]?) fun x16 =>
 obind (g70 d (IntKind.i64.wrap (x16.1 + 1)) 1) fun r17 =>
 obind (g75 d r17 8) fun r18 =>
 j43_2 d ag3 l4 n5 r7 true l13 n14 n15 r18) none) none) (
 obind (g70 d (IntKind.i64.wrap (x8.1 - r9.1)) 1) fun r19 =>
 obind (g75 d r19 8) fun r20 =>
 j43_2 d ag3 l4 n5 r7 true l13 n14 n15 r20)
noncomputable def l43_0_b (d : Nat)  (kx43_0_0 : (List (Int × Int × Bool × ByteArray)) → (List Int) → Int → Int → Option ((List (Int × Int × Bool × ByteArray)) × ((List Int) × Int × Int))) (ag3 : ((List (Int × Int × Bool × ByteArray)) × Int × ((List Int) × Int × Int)) → Option ((List (Int × Int × Bool × ByteArray)) × ((List Int) × Int × Int))) (l4 : List (Int × Int × Bool × ByteArray)) (n5 : Int) (x6 : ((List Int) × Int × Int)) : Option ((List (Int × Int × Bool × ByteArray)) × ((List Int) × Int × Int)) :=
 oif (decide ((n5 : Int) > 0)) (
 obind (g48 d x6 5) fun r7 =>
 oif (decide ((((l4.length : Nat) : Int) : Int) > 0)) (
 oif (decide (0 ≤ ((IntKind.i64.wrap (((l4.length : Nat) : Int) - 1)) : Int))) (
 oif (Nat.blt (((IntKind.i64.wrap (((l4.length : Nat) : Int) - 1)) : Int).toNat) l4.length) (
 obind (l4[((IntKind.i64.wrap (((l4.length : Nat) : Int) - 1)) : Int).toNat]?) fun x8 =>
 obind (g48 d r7.2 3) fun r9 =>
 oif (decide (0 ≤ ((IntKind.i64.wrap (((l4.length : Nat) : Int) - 1)) : Int))) (
 oif (Nat.blt (((IntKind.i64.wrap (((l4.length : Nat) : Int) - 1)) : Int).toNat) l4.length) (
 obind (l4[((IntKind.i64.wrap (((l4.length : Nat) : Int) - 1)) : Int).toNat]?) fun x10 =>
 oif x10.2.2.1 (
 obind (g44 d r9.2 4) fun r11 =>
 j43_3 d ag3 l4 n5 r7 x8 r9 x10.2.2.1 true (!r11.1) r11.2.1 r11.2.2.1 r11.2.2.2) (
 j43_3 d ag3 l4 n5 r7 x8 r9 x10.2.2.1 false false r9.2.1 r9.2.2.1 r9.2.2.2)) none) none) none) none) (
 j43_2 d ag3 l4 n5 r7 false r7.2.1 r7.2.2.1 r7.2.2.2 1)) (
 kx43_0_0 l4 x6.1 x6.2.1 x6.2.2)
noncomputable def l43_0 (d : Nat)  (kx43_0_0 : (List (Int × Int × Bool × ByteArray)) → (List Int) → Int → Int → Option ((List (Int × Int × Bool × ByteArray)) × ((List Int) × Int × Int))) (ag3 : ((List (Int × Int × Bool × ByteArray)) × Int × ((List Int) × Int × Int)) → Option ((List (Int × Int × Bool × ByteArray)) × ((List Int) × Int × Int))) (s : ((List (Int × Int × Bool × ByteArray)) × Int × ((List Int) × Int × Int))) : Option ((List (Int × Int × Bool × ByteArray)) × ((List Int) × Int × Int)) := l43_0_b d kx43_0_0 ag3 s.1 s.2.1 s.2.2
theorem e43 (d : Nat) (x1 : ((List Int) × Int × Int)) : g43 (d + 1) x1 =
 obind (g48 d x1 10) fun r2 =>
 iterP (l43_0 d (j43_0 d)) fuelN ([], r2.1, r2.2) := by kernel_rfl

noncomputable def j50_0 (d : Nat) (x1 : ((List Int) × Int × Int)) (s4 : ByteArray) : Option (ByteArray × ((List Int) × Int × Int)) :=
 some (s4, x1)
noncomputable def l50_0_b (d : Nat) (n2 : Int) (kx50_0_0 : ByteArray → Option (ByteArray × ((List Int) × Int × Int))) (ag3 : ByteArray → Option (ByteArray × ((List Int) × Int × Int))) (s4 : ByteArray) : Option (ByteArray × ((List Int) × Int × Int)) :=
 oif (decide ((((s4 : ByteArray).size : Int) : Int) < n2)) (
 oif (Nat.ble ((s4 : ByteArray).size + ((⟨#[120]⟩ : ByteArray) : ByteArray).size) 9223372036854775807) (
 ag3 ((s4 : ByteArray) ++ ((⟨#[120]⟩ : ByteArray) : ByteArray))) none) (
 kx50_0_0 s4)
noncomputable def l50_0 (d : Nat) (n2 : Int) (kx50_0_0 : ByteArray → Option (ByteArray × ((List Int) × Int × Int))) (ag3 : ByteArray → Option (ByteArray × ((List Int) × Int × Int))) (s : ByteArray) : Option (ByteArray × ((List Int) × Int × Int)) := l50_0_b d n2 kx50_0_0 ag3 s
theorem e50 (d : Nat) (x1 : ((List Int) × Int × Int)) (n2 : Int) : g50 (d + 1) x1 n2 =
 iterP (l50_0 d n2 (j50_0 d x1)) fuelN (⟨#[]⟩ : ByteArray) := by kernel_rfl

theorem e68 (d : Nat) (x1 : ((List Int) × Int × Int)) (l2 : List Int) : g68 (d + 1) x1 l2 =
 obind (g48 d x1 ((l2.length : Nat) : Int)) fun r3 =>
 oif (decide (0 ≤ (r3.1 : Int))) (
 obind (l2[(r3.1 : Int).toNat]?) fun n4 =>
 some (n4, r3.2)) none := by kernel_rfl

noncomputable def j45_0 (d : Nat) (r8 : (Int × ((List Int) × Int × Int))) (l10 : List (Int × Int × Bool × ByteArray)) : Option ((List (Int × Int × Bool × ByteArray)) × ((List Int) × Int × Int)) :=
 some (l10, r8.2)
noncomputable def l45_0_b (d : Nat) (r8 : (Int × ((List Int) × Int × Int))) (kx45_0_0 : (List (Int × Int × Bool × ByteArray)) → Option ((List (Int × Int × Bool × ByteArray)) × ((List Int) × Int × Int))) (ag9 : List (Int × Int × Bool × ByteArray) → Option ((List (Int × Int × Bool × ByteArray)) × ((List Int) × Int × Int))) (l10 : List (Int × Int × Bool × ByteArray)) : Option ((List (Int × Int × Bool × ByteArray)) × ((List Int) × Int × Int)) :=
 oif (decide ((((l10.length : Nat) : Int) : Int) < (IntKind.i64.wrap ((400 : Int) + r8.1)))) (
 oif (Nat.ble ((l10.length + [(1, ((l10.length : Nat) : Int), false, (⟨#[]⟩ : ByteArray))].length) * 40) roomMax) (
 ag9 (l10 ++ [(1, ((l10.length : Nat) : Int), false, (⟨#[]⟩ : ByteArray))])) none) (
 kx45_0_0 l10)
noncomputable def l45_0 (d : Nat) (r8 : (Int × ((List Int) × Int × Int))) (kx45_0_0 : (List (Int × Int × Bool × ByteArray)) → Option ((List (Int × Int × Bool × ByteArray)) × ((List Int) × Int × Int))) (ag9 : List (Int × Int × Bool × ByteArray) → Option ((List (Int × Int × Bool × ByteArray)) × ((List Int) × Int × Int))) (s : List (Int × Int × Bool × ByteArray)) : Option ((List (Int × Int × Bool × ByteArray)) × ((List Int) × Int × Int)) := l45_0_b d r8 kx45_0_0 ag9 s
noncomputable def j45_1 (d : Nat) (r11 : (Int × ((List Int) × Int × Int))) (l13 : List (Int × Int × Bool × ByteArray)) : Option ((List (Int × Int × Bool × ByteArray)) × ((List Int) × Int × Int)) :=
 some (l13, r11.2)
noncomputable def l45_1_b (d : Nat) (r11 : (Int × ((List Int) × Int × Int))) (kx45_1_0 : (List (Int × Int × Bool × ByteArray)) → Option ((List (Int × Int × Bool × ByteArray)) × ((List Int) × Int × Int))) (ag12 : List (Int × Int × Bool × ByteArray) → Option ((List (Int × Int × Bool × ByteArray)) × ((List Int) × Int × Int))) (l13 : List (Int × Int × Bool × ByteArray)) : Option ((List (Int × Int × Bool × ByteArray)) × ((List Int) × Int × Int)) :=
 oif (decide ((((l13.length : Nat) : Int) : Int) < (IntKind.i64.wrap ((8 : Int) + r11.1)))) (
 oif (Nat.ble ((l13.length + [((IntKind.i64.wrap (((l13.length : Nat) : Int) + 1)), 0, true, (⟨#[]⟩ : ByteArray))].length) * 40) roomMax) (
 ag12 (l13 ++ [((IntKind.i64.wrap (((l13.length : Nat) : Int) + 1)), 0, true, (⟨#[]⟩ : ByteArray))])) none) (
 kx45_1_0 l13)
noncomputable def l45_1 (d : Nat) (r11 : (Int × ((List Int) × Int × Int))) (kx45_1_0 : (List (Int × Int × Bool × ByteArray)) → Option ((List (Int × Int × Bool × ByteArray)) × ((List Int) × Int × Int))) (ag12 : List (Int × Int × Bool × ByteArray) → Option ((List (Int × Int × Bool × ByteArray)) × ((List Int) × Int × Int))) (s : List (Int × Int × Bool × ByteArray)) : Option ((List (Int × Int × Bool × ByteArray)) × ((List Int) × Int × Int)) := l45_1_b d r11 kx45_1_0 ag12 s
noncomputable def j45_2 (d : Nat)  (l17 : List Int) (n18 : Int) (n19 : Int) (l20 : List (Int × Int × Bool × ByteArray)) : Option ((List (Int × Int × Bool × ByteArray)) × ((List Int) × Int × Int)) :=
 obind (g48 d (l17, n18, n19) 2) fun r21 =>
 obind (g50 d r21.2 (IntKind.i64.wrap ((976 : Int) + r21.1))) fun r22 =>
 oif (Nat.ble ((l20.length + [(1, 0, false, r22.1)].length) * 40) roomMax) (
 some ((l20 ++ [(1, 0, false, r22.1)]), r22.2)) none
noncomputable def l45_2_b (d : Nat)  (kx45_2_0 : (List Int) → Int → Int → (List (Int × Int × Bool × ByteArray)) → Option ((List (Int × Int × Bool × ByteArray)) × ((List Int) × Int × Int))) (ag16 : ((List (Int × Int × Bool × ByteArray)) × ((List Int) × Int × Int)) → Option ((List (Int × Int × Bool × ByteArray)) × ((List Int) × Int × Int))) (l17 : List (Int × Int × Bool × ByteArray)) (x18 : ((List Int) × Int × Int)) : Option ((List (Int × Int × Bool × ByteArray)) × ((List Int) × Int × Int)) :=
 oif (decide ((((l17.length : Nat) : Int) : Int) < 5)) (
 obind (g50 d x18 1000) fun r19 =>
 oif (Nat.ble ((l17.length + [(1, 0, false, r19.1)].length) * 40) roomMax) (
 ag16 ((l17 ++ [(1, 0, false, r19.1)]), r19.2)) none) (
 kx45_2_0 x18.1 x18.2.1 x18.2.2 l17)
noncomputable def l45_2 (d : Nat)  (kx45_2_0 : (List Int) → Int → Int → (List (Int × Int × Bool × ByteArray)) → Option ((List (Int × Int × Bool × ByteArray)) × ((List Int) × Int × Int))) (ag16 : ((List (Int × Int × Bool × ByteArray)) × ((List Int) × Int × Int)) → Option ((List (Int × Int × Bool × ByteArray)) × ((List Int) × Int × Int))) (s : ((List (Int × Int × Bool × ByteArray)) × ((List Int) × Int × Int))) : Option ((List (Int × Int × Bool × ByteArray)) × ((List Int) × Int × Int)) := l45_2_b d kx45_2_0 ag16 s.1 s.2
theorem e45 (d : Nat) (x1 : ((List Int) × Int × Int)) : g45 (d + 1) x1 =
 obind (g43 d x1) fun r2 =>
 obind (g48 d r2.2 24) fun r3 =>
 oif ((r3.1 : Int) == 0) (
 oif (decide ((((r2.1.length : Nat) : Int) : Int) > 0)) (
 obind (g48 d r3.2 ((r2.1.length : Nat) : Int)) fun r4 =>
 obind (g68 d r4.2 [0, 1, 9, 2]) fun r5 =>
 oif (decide (0 ≤ (r4.1 : Int))) (
 oif (Nat.blt ((r4.1 : Int).toNat) r2.1.length) (
 obind (r2.1[(r4.1 : Int).toNat]?) fun x6 =>
 some ((r2.1.set ((r4.1 : Int).toNat) (r5.1, x6.2)), r5.2)) none) none) (
 some (r2.1, r3.2))) (
 oif ((r3.1 : Int) == 1) (
 obind (g68 d r3.2 [(-1), 32767, 32768]) fun r7 =>
 oif (Nat.ble ((r2.1.length + [(1, r7.1, false, (⟨#[]⟩ : ByteArray))].length) * 40) roomMax) (
 some ((r2.1 ++ [(1, r7.1, false, (⟨#[]⟩ : ByteArray))]), r7.2)) none) (
 oif ((r3.1 : Int) == 2) (
 obind (g48 d r3.2 2) fun r8 =>
 iterP (l45_0 d r8 (j45_0 d r8)) fuelN []) (
 oif ((r3.1 : Int) == 3) (
 obind (g48 d r3.2 2) fun r11 =>
 iterP (l45_1 d r11 (j45_1 d r11)) fuelN []) (
 oif ((r3.1 : Int) == 4) (
 obind (g48 d r3.2 2) fun r14 =>
 obind (g50 d r14.2 (IntKind.i64.wrap ((1000 : Int) + r14.1))) fun r15 =>
 oif (Nat.ble ((r2.1.length + [(1, 0, false, r15.1)].length) * 40) roomMax) (
 some ((r2.1 ++ [(1, 0, false, r15.1)]), r15.2)) none) (
 oif ((r3.1 : Int) == 5) (
 iterP (l45_2 d (j45_2 d)) fuelN ([], r3.2)) (
 oif ((r3.1 : Int) == 6) (
 oif (decide ((((r2.1.length : Nat) : Int) : Int) > 0)) (
 obind (g48 d r3.2 ((r2.1.length : Nat) : Int)) fun r23 =>
 oif (decide (0 ≤ (r23.1 : Int))) (
 oif (Nat.blt ((r23.1 : Int).toNat) r2.1.length) (
 obind (r2.1[(r23.1 : Int).toNat]?) fun x24 =>
 some ((r2.1.set ((r23.1 : Int).toNat) (x24.1, x24.2.1, true, x24.2.2.2)), r23.2)) none) none) (
 some (r2.1, r3.2))) (
 some (r2.1, r3.2)))))))) := by kernel_rfl

theorem e31 (d : Nat) (l1 : List Int) : g31 (d + 1) l1 =
 obind (g45 d (l1, 0, 0)) fun r2 =>
 some r2.1 := by kernel_rfl

theorem e6 (d : Nat) (l1 : List Int) : g6 (d + 1) l1 =
 obind (g31 d l1) fun r2 =>
 some r2 := by kernel_rfl

noncomputable def j9_0 (d : Nat)  (b3 : Bool) : Option Bool :=
 some true
noncomputable def j9_1 (d : Nat) (ag2 : (Bool × Int) → Option Bool) (b3 : Bool) (n4 : Int) (x5 : (Int × Int × Bool × ByteArray)) (n16 : Int) (b17 : Bool) : Option Bool :=
 oif (decide ((x5.1 : Int) > n16)) (
 some false) (
 ag2 (b3, (IntKind.i64.wrap (n4 + 1))))
noncomputable def j9_2 (d : Nat) (l1 : List (Int × Int × Bool × ByteArray)) (ag2 : (Bool × Int) → Option Bool) (b3 : Bool) (n4 : Int) (x5 : (Int × Int × Bool × ByteArray)) (b6 : Bool) (b7 : Bool) (b8 : Bool) (b9 : Bool) (b10 : Bool) (b11 : Bool) (b12 : Bool) (b13 : Bool) (b14 : Bool) (b15 : Bool) : Option Bool :=
 oif b15 (
 some false) (
 oif (decide ((n4 : Int) > 0)) (
 oif (decide (0 ≤ ((IntKind.i64.wrap (n4 - 1)) : Int))) (
 obind (l1[((IntKind.i64.wrap (n4 - 1)) : Int).toNat]?) fun x16 =>
 oif (decide (0 ≤ ((IntKind.i64.wrap (n4 - 1)) : Int))) (
 obind (l1[((IntKind.i64.wrap (n4 - 1)) : Int).toNat]?) fun x17 =>
 oif x17.2.2.1 (
 j9_1 d ag2 b3 n4 x5 (IntKind.i64.wrap (x16.1 + 1)) true) (
 j9_1 d ag2 b3 n4 x5 x16.1 true)) none) none) (
 j9_1 d ag2 b3 n4 x5 1 false))
noncomputable def l9_0_b (d : Nat) (l1 : List (Int × Int × Bool × ByteArray)) (kx9_0_0 : Bool → Option Bool) (ag2 : (Bool × Int) → Option Bool) (b3 : Bool) (n4 : Int) : Option Bool :=
 oif (decide ((n4 : Int) < ((l1.length : Nat) : Int))) (
 oif (decide (0 ≤ (n4 : Int))) (
 obind (l1[(n4 : Int).toNat]?) fun x5 =>
 oif (decide ((x5.1 : Int) < 1)) (
 j9_2 d l1 ag2 b3 n4 x5 true true true true true true true true true true) (
 oif (decide ((x5.1 : Int) > 8)) (
 j9_2 d l1 ag2 b3 n4 x5 false (decide ((x5.1 : Int) > 8)) true true true true true true true true) (
 oif (decide ((x5.2.1 : Int) < 0)) (
 j9_2 d l1 ag2 b3 n4 x5 false (decide ((x5.1 : Int) > 8)) false (decide ((x5.2.1 : Int) < 0)) true true true true true true) (
 oif (decide ((x5.2.1 : Int) > 32767)) (
 j9_2 d l1 ag2 b3 n4 x5 false (decide ((x5.1 : Int) > 8)) false (decide ((x5.2.1 : Int) < 0)) false (decide ((x5.2.1 : Int) > 32767)) true true true true) (
 oif (decide ((((x5.2.2.2 : ByteArray).size : Int) : Int) > 1000)) (
 j9_2 d l1 ag2 b3 n4 x5 false (decide ((x5.1 : Int) > 8)) false (decide ((x5.2.1 : Int) < 0)) false (decide ((x5.2.1 : Int) > 32767)) false (decide ((((x5.2.2.2 : ByteArray).size : Int) : Int) > 1000)) true true) (
 oif x5.2.2.1 (
 j9_2 d l1 ag2 b3 n4 x5 false (decide ((x5.1 : Int) > 8)) false (decide ((x5.2.1 : Int) < 0)) false (decide ((x5.2.1 : Int) > 32767)) false (decide ((((x5.2.2.2 : ByteArray).size : Int) : Int) > 1000)) false (!((x5.2.2.2 : ByteArray).toList == ((⟨#[]⟩ : ByteArray) : ByteArray).toList))) (
 j9_2 d l1 ag2 b3 n4 x5 false (decide ((x5.1 : Int) > 8)) false (decide ((x5.2.1 : Int) < 0)) false (decide ((x5.2.1 : Int) > 32767)) false (decide ((((x5.2.2.2 : ByteArray).size : Int) : Int) > 1000)) false false))))))) none) (
 kx9_0_0 b3)
noncomputable def l9_0 (d : Nat) (l1 : List (Int × Int × Bool × ByteArray)) (kx9_0_0 : Bool → Option Bool) (ag2 : (Bool × Int) → Option Bool) (s : (Bool × Int)) : Option Bool := l9_0_b d l1 kx9_0_0 ag2 s.1 s.2
theorem e9 (d : Nat) (l1 : List (Int × Int × Bool × ByteArray)) : g9 (d + 1) l1 =
 oif (decide ((((l1.length : Nat) : Int) : Int) > 400)) (
 some false) (
 iterP (l9_0 d l1 (j9_0 d)) fuelN (false, 0)) := by kernel_rfl

noncomputable def j73_0 (d : Nat)  (n4 : Int) : Option Int :=
 some n4
noncomputable def l73_0_b (d : Nat) (l1 : List (Int × Int × Bool × ByteArray)) (n2 : Int) (kx73_0_0 : Int → Option Int) (ag3 : Int → Option Int) (n4 : Int) : Option Int :=
 oif (decide ((n4 : Int) < ((l1.length : Nat) : Int))) (
 oif (decide (0 ≤ (n4 : Int))) (
 obind (l1[(n4 : Int).toNat]?) fun x5 =>
 oif (decide (0 ≤ (n2 : Int))) (
 obind (l1[(n2 : Int).toNat]?) fun x6 =>
 oif (decide ((x5.1 : Int) > x6.1)) (
 ag3 (IntKind.i64.wrap (n4 + 1))) (
 kx73_0_0 n4)) none) none) (
 kx73_0_0 n4)
noncomputable def l73_0 (d : Nat) (l1 : List (Int × Int × Bool × ByteArray)) (n2 : Int) (kx73_0_0 : Int → Option Int) (ag3 : Int → Option Int) (s : Int) : Option Int := l73_0_b d l1 n2 kx73_0_0 ag3 s
theorem e73 (d : Nat) (l1 : List (Int × Int × Bool × ByteArray)) (n2 : Int) : g73 (d + 1) l1 n2 =
 iterP (l73_0 d l1 n2 (j73_0 d)) fuelN (IntKind.i64.wrap (n2 + 1)) := by kernel_rfl

noncomputable def j38_0 (d : Nat)  (n4 : Int) : Option Int :=
 some n4
noncomputable def l38_0_b (d : Nat) (l1 : List (Int × Int × Bool × ByteArray)) (n2 : Int) (kx38_0_0 : Int → Option Int) (ag3 : (Int × Int) → Option Int) (n4 : Int) (n5 : Int) : Option Int :=
 obind (g73 d l1 n2) fun r6 =>
 oif (decide ((n5 : Int) < r6)) (
 oif (decide (0 ≤ (n5 : Int))) (
 obind (l1[(n5 : Int).toNat]?) fun x7 =>
 ag3 ((IntKind.i64.wrap (n4 + (IntKind.i64.wrap ((4 : Int) + (IntKind.i64.wrap ((IntKind.i64.wrap ((IntKind.i64.wrap (((x7.2.2.2 : ByteArray).size : Int) + 3)).tdiv 4)) * 4)))))), (IntKind.i64.wrap (n5 + 1)))) none) (
 kx38_0_0 n4)
noncomputable def l38_0 (d : Nat) (l1 : List (Int × Int × Bool × ByteArray)) (n2 : Int) (kx38_0_0 : Int → Option Int) (ag3 : (Int × Int) → Option Int) (s : (Int × Int)) : Option Int := l38_0_b d l1 n2 kx38_0_0 ag3 s.1 s.2
theorem e38 (d : Nat) (l1 : List (Int × Int × Bool × ByteArray)) (n2 : Int) : g38 (d + 1) l1 n2 =
 iterP (l38_0 d l1 n2 (j38_0 d)) fuelN (0, n2) := by kernel_rfl

noncomputable def j72_0 (d : Nat)  (n3 : Int) : Option Int :=
 some n3
noncomputable def l72_0_b (d : Nat) (l1 : List (Int × Int × Bool × ByteArray)) (kx72_0_0 : Int → Option Int) (ag2 : (Int × Int) → Option Int) (n3 : Int) (n4 : Int) : Option Int :=
 oif (decide ((n4 : Int) < ((l1.length : Nat) : Int))) (
 obind (g38 d l1 n4) fun r5 =>
 obind (g73 d l1 n4) fun r6 =>
 ag2 ((IntKind.i64.wrap (n3 + r5)), r6)) (
 kx72_0_0 n3)
noncomputable def l72_0 (d : Nat) (l1 : List (Int × Int × Bool × ByteArray)) (kx72_0_0 : Int → Option Int) (ag2 : (Int × Int) → Option Int) (s : (Int × Int)) : Option Int := l72_0_b d l1 kx72_0_0 ag2 s.1 s.2
theorem e72 (d : Nat) (l1 : List (Int × Int × Bool × ByteArray)) : g72 (d + 1) l1 =
 iterP (l72_0 d l1 (j72_0 d)) fuelN (0, 0) := by kernel_rfl

theorem e32 (d : Nat) (l1 : List (Int × Int × Bool × ByteArray)) : g32 (d + 1) l1 =
 obind (g9 d l1) fun r2 =>
 oif r2 (
 obind (g72 d l1) fun r3 =>
 some (decide ((r3 : Int) ≤ 6000))) (
 some false) := by kernel_rfl

theorem e74 (d : Nat) (n1 : Int) : g74 (d + 1) n1 =
 some (strL [(IntKind.u8.wrap n1), (IntKind.u8.wrap (n1.fdiv (2 ^ (min (8 : Int).toNat IntKind.i64.bits))))]) := by kernel_rfl

noncomputable def j33_0 (d : Nat)  (l6 : List Int) : Option (List Int) :=
 some l6
noncomputable def j33_1 (d : Nat) (l2 : List (Int × Int × Bool × ByteArray)) (ag5 : ((List Int) × Int) → Option (List Int)) (n7 : Int) (n18 : Int) (n19 : Int) (l20 : List Int) : Option (List Int) :=
 obind (g73 d l2 n7) fun r21 =>
 ag5 (l20, r21)
noncomputable def l33_1_b (d : Nat)  (kx33_1_0 : Int → Int → (List Int) → Option (List Int)) (ag17 : List Int → Option (List Int)) (l18 : List Int) : Option (List Int) :=
 oif (((((l18.length : Nat) : Int).tmod 4) : Int) != 0) (
 oif (Nat.ble ((l18.length + [0].length) * 1) roomMax) (
 ag17 (l18 ++ [0])) none) (
 kx33_1_0 ((l18.length : Nat) : Int) (((l18.length : Nat) : Int).tmod 4) l18)
noncomputable def l33_1 (d : Nat)  (kx33_1_0 : Int → Int → (List Int) → Option (List Int)) (ag17 : List Int → Option (List Int)) (s : List Int) : Option (List Int) := l33_1_b d kx33_1_0 ag17 s
noncomputable def j33_2 (d : Nat) (l2 : List (Int × Int × Bool × ByteArray)) (ag5 : ((List Int) × Int) → Option (List Int)) (l6 : List Int) (n7 : Int) (b14 : Bool) (l15 : List Int) : Option (List Int) :=
 oif (decide (0 ≤ (((l6.length : Nat) : Int) : Int))) (
 oif (Nat.ble ((((l6.length : Nat) : Int) : Int).toNat) l15.length) (
 obind (g74 d (IntKind.i64.wrap (((l15.length : Nat) : Int) - ((l6.length : Nat) : Int)))) fun r16 =>
 iterP (l33_1 d (j33_1 d l2 ag5 n7)) fuelN (cpy l15 (0 + (((l6.length : Nat) : Int) : Int).toNat) (l15.length - (0 + (((l6.length : Nat) : Int) : Int).toNat)) (bytesL r16))) none) none
noncomputable def j33_3 (d : Nat) (l2 : List (Int × Int × Bool × ByteArray)) (ag5 : ((List Int) × Int) → Option (List Int)) (l6 : List Int) (n7 : Int) (n10 : Int) (b11 : Bool) : Option (List Int) :=
 obind (g74 d n10) fun r12 =>
 oif (Nat.ble (((⟨#[0, 0]⟩ : ByteArray) : ByteArray).size + (r12 : ByteArray).size) 9223372036854775807) (
 oif (Nat.ble ((l6.length + (bytesL (((⟨#[0, 0]⟩ : ByteArray) : ByteArray) ++ (r12 : ByteArray))).length) * 1) roomMax) (
 oif (decide (0 ≤ (n7 : Int))) (
 obind (l2[(n7 : Int).toNat]?) fun x13 =>
 oif x13.2.2.1 (
 obind (g73 d l2 n7) fun r14 =>
 obind (g33 d (l6 ++ (bytesL (((⟨#[0, 0]⟩ : ByteArray) : ByteArray) ++ (r12 : ByteArray)))) l2 (IntKind.i64.wrap (n7 + 1)) r14) fun r15 =>
 j33_2 d l2 ag5 l6 n7 true r15) (
 oif (decide (0 ≤ (n7 : Int))) (
 obind (l2[(n7 : Int).toNat]?) fun x16 =>
 oif (Nat.ble (((l6 ++ (bytesL (((⟨#[0, 0]⟩ : ByteArray) : ByteArray) ++ (r12 : ByteArray)))).length + (bytesL x16.2.2.2).length) * 1) roomMax) (
 j33_2 d l2 ag5 l6 n7 false ((l6 ++ (bytesL (((⟨#[0, 0]⟩ : ByteArray) : ByteArray) ++ (r12 : ByteArray)))) ++ (bytesL x16.2.2.2))) none) none)) none) none) none
noncomputable def l33_0_b (d : Nat) (l2 : List (Int × Int × Bool × ByteArray)) (n4 : Int) (kx33_0_0 : (List Int) → Option (List Int)) (ag5 : ((List Int) × Int) → Option (List Int)) (l6 : List Int) (n7 : Int) : Option (List Int) :=
 oif (decide ((n7 : Int) < n4)) (
 oif (decide (0 ≤ (n7 : Int))) (
 obind (l2[(n7 : Int).toNat]?) fun x8 =>
 oif (decide (0 ≤ (n7 : Int))) (
 obind (l2[(n7 : Int).toNat]?) fun x9 =>
 oif x9.2.2.1 (
 j33_3 d l2 ag5 l6 n7 (IntKind.i64.wrap (x8.2.1 + 32768)) true) (
 j33_3 d l2 ag5 l6 n7 x8.2.1 false)) none) none) (
 kx33_0_0 l6)
noncomputable def l33_0 (d : Nat) (l2 : List (Int × Int × Bool × ByteArray)) (n4 : Int) (kx33_0_0 : (List Int) → Option (List Int)) (ag5 : ((List Int) × Int) → Option (List Int)) (s : ((List Int) × Int)) : Option (List Int) := l33_0_b d l2 n4 kx33_0_0 ag5 s.1 s.2
theorem e33 (d : Nat) (l1 : List Int) (l2 : List (Int × Int × Bool × ByteArray)) (n3 : Int) (n4 : Int) : g33 (d + 1) l1 l2 n3 n4 =
 iterP (l33_0 d l2 n4 (j33_0 d)) fuelN (l1, n3) := by kernel_rfl

theorem e7 (d : Nat) (l1 : List (Int × Int × Bool × ByteArray)) : g7 (d + 1) l1 =
 obind (g32 d l1) fun r2 =>
 oif (!r2) (
 some ((⟨#[]⟩ : ByteArray), false)) (
 obind (g33 d [] l1 0 ((l1.length : Nat) : Int)) fun r3 =>
 some ((strL r3), true)) := by kernel_rfl

theorem e69 (d : Nat) (n1 : Int) (n2 : Int) (n3 : Int) : g69 (d + 1) n1 n2 n3 =
 oif (decide ((n1 : Int) ≥ n2)) (
 some (decide ((n1 : Int) ≤ n3))) (
 some false) := by kernel_rfl

noncomputable def j34_0 (d : Nat) (l1 : List (Int × Int × Bool × ByteArray)) (b3 : Bool) : Option Bool :=
 some (decide ((((l1.length : Nat) : Int) : Int) ≤ 400))
noncomputable def j34_1 (d : Nat) (ag2 : (Bool × Int) → Option Bool) (b3 : Bool) (n4 : Int) (n8 : Int) (b9 : Bool) (b10 : Bool) (b11 : Bool) (b12 : Bool) (b13 : Bool) (b14 : Bool) (b15 : Bool) (b16 : Bool) : Option Bool :=
 oif b16 (
 some false) (
 ag2 (b3, (IntKind.i64.wrap (n4 + 1))))
noncomputable def j34_2 (d : Nat) (ag2 : (Bool × Int) → Option Bool) (b3 : Bool) (n4 : Int) (x5 : (Int × Int × Bool × ByteArray)) (n6 : Int) (b7 : Bool) : Option Bool :=
 obind (g75 d n6 8) fun r8 =>
 obind (g69 d x5.1 1 r8) fun r9 =>
 oif (!r9) (
 j34_1 d ag2 b3 n4 r8 r9 (!r9) true true true true true true) (
 obind (g69 d x5.2.1 0 32767) fun r10 =>
 oif (!r10) (
 j34_1 d ag2 b3 n4 r8 r9 (!r9) false (!r10) true true true true) (
 oif (decide ((((x5.2.2.2 : ByteArray).size : Int) : Int) > 1000)) (
 j34_1 d ag2 b3 n4 r8 r9 (!r9) false (!r10) false (decide ((((x5.2.2.2 : ByteArray).size : Int) : Int) > 1000)) true true) (
 oif x5.2.2.1 (
 j34_1 d ag2 b3 n4 r8 r9 (!r9) false (!r10) false (decide ((((x5.2.2.2 : ByteArray).size : Int) : Int) > 1000)) false (!((x5.2.2.2 : ByteArray).toList == ((⟨#[]⟩ : ByteArray) : ByteArray).toList))) (
 j34_1 d ag2 b3 n4 r8 r9 (!r9) false (!r10) false (decide ((((x5.2.2.2 : ByteArray).size : Int) : Int) > 1000)) false false))))
noncomputable def l34_0_b (d : Nat) (l1 : List (Int × Int × Bool × ByteArray)) (kx34_0_0 : Bool → Option Bool) (ag2 : (Bool × Int) → Option Bool) (b3 : Bool) (n4 : Int) : Option Bool :=
 oif (decide ((n4 : Int) < ((l1.length : Nat) : Int))) (
 oif (decide (0 ≤ (n4 : Int))) (
 obind (l1[(n4 : Int).toNat]?) fun x5 =>
 oif (decide ((n4 : Int) > 0)) (
 oif (decide (0 ≤ ((IntKind.i64.wrap (n4 - 1)) : Int))) (
 obind (l1[((IntKind.i64.wrap (n4 - 1)) : Int).toNat]?) fun x6 =>
 oif (decide (0 ≤ ((IntKind.i64.wrap (n4 - 1)) : Int))) (
 obind (l1[((IntKind.i64.wrap (n4 - 1)) : Int).toNat]?) fun x7 =>
 oif x7.2.2.1 (
 j34_2 d ag2 b3 n4 x5 (IntKind.i64.wrap (x6.1 + 1)) true) (
 j34_2 d ag2 b3 n4 x5 x6.1 true)) none) none) (
 j34_2 d ag2 b3 n4 x5 1 false)) none) (
 kx34_0_0 b3)
noncomputable def l34_0 (d : Nat) (l1 : List (Int × Int × Bool × ByteArray)) (kx34_0_0 : Bool → Option Bool) (ag2 : (Bool × Int) → Option Bool) (s : (Bool × Int)) : Option Bool := l34_0_b d l1 kx34_0_0 ag2 s.1 s.2
theorem e34 (d : Nat) (l1 : List (Int × Int × Bool × ByteArray)) : g34 (d + 1) l1 =
 iterP (l34_0 d l1 (j34_0 d l1)) fuelN (false, 0) := by kernel_rfl

noncomputable def j78_0 (d : Nat)  (n4 : Int) : Option Int :=
 some n4
noncomputable def l78_0_b (d : Nat) (l1 : List (Int × Int × Bool × ByteArray)) (n2 : Int) (kx78_0_0 : Int → Option Int) (ag3 : Int → Option Int) (n4 : Int) : Option Int :=
 oif (decide ((n4 : Int) < ((l1.length : Nat) : Int))) (
 oif (decide (0 ≤ (n4 : Int))) (
 obind (l1[(n4 : Int).toNat]?) fun x5 =>
 oif (decide (0 ≤ (n2 : Int))) (
 obind (l1[(n2 : Int).toNat]?) fun x6 =>
 oif (decide ((x5.1 : Int) > x6.1)) (
 ag3 (IntKind.i64.wrap (n4 + 1))) (
 kx78_0_0 n4)) none) none) (
 kx78_0_0 n4)
noncomputable def l78_0 (d : Nat) (l1 : List (Int × Int × Bool × ByteArray)) (n2 : Int) (kx78_0_0 : Int → Option Int) (ag3 : Int → Option Int) (s : Int) : Option Int := l78_0_b d l1 n2 kx78_0_0 ag3 s
theorem e78 (d : Nat) (l1 : List (Int × Int × Bool × ByteArray)) (n2 : Int) : g78 (d + 1) l1 n2 =
 iterP (l78_0 d l1 n2 (j78_0 d)) fuelN (IntKind.i64.wrap (n2 + 1)) := by kernel_rfl

theorem e79 (d : Nat) (n1 : Int) : g79 (d + 1) n1 =
 some (IntKind.i64.wrap ((IntKind.i64.wrap ((IntKind.i64.wrap (n1 + 3)).tdiv 4)) * 4)) := by kernel_rfl

theorem e41 (d : Nat) (l1 : List (Int × Int × Bool × ByteArray)) (n2 : Int) : g41 (d + 1) l1 n2 =
 oif (decide (0 ≤ (n2 : Int))) (
 obind (l1[(n2 : Int).toNat]?) fun x3 =>
 oif x3.2.2.1 (
 obind (g78 d l1 n2) fun r4 =>
 obind (g40 d l1 (IntKind.i64.wrap (n2 + 1)) r4) fun r5 =>
 some (IntKind.i64.wrap ((4 : Int) + r5))) (
 oif (decide (0 ≤ (n2 : Int))) (
 obind (l1[(n2 : Int).toNat]?) fun x6 =>
 obind (g79 d (IntKind.i64.wrap ((4 : Int) + ((x6.2.2.2 : ByteArray).size : Int)))) fun r7 =>
 some r7) none)) none := by kernel_rfl

noncomputable def j40_0 (d : Nat)  (n5 : Int) : Option Int :=
 some n5
noncomputable def l40_0_b (d : Nat) (l1 : List (Int × Int × Bool × ByteArray)) (n3 : Int) (kx40_0_0 : Int → Option Int) (ag4 : (Int × Int) → Option Int) (n5 : Int) (n6 : Int) : Option Int :=
 oif (decide ((n6 : Int) < n3)) (
 obind (g41 d l1 n6) fun r7 =>
 obind (g78 d l1 n6) fun r8 =>
 ag4 ((IntKind.i64.wrap (n5 + r7)), r8)) (
 kx40_0_0 n5)
noncomputable def l40_0 (d : Nat) (l1 : List (Int × Int × Bool × ByteArray)) (n3 : Int) (kx40_0_0 : Int → Option Int) (ag4 : (Int × Int) → Option Int) (s : (Int × Int)) : Option Int := l40_0_b d l1 n3 kx40_0_0 ag4 s.1 s.2
theorem e40 (d : Nat) (l1 : List (Int × Int × Bool × ByteArray)) (n2 : Int) (n3 : Int) : g40 (d + 1) l1 n2 n3 =
 iterP (l40_0 d l1 n3 (j40_0 d)) fuelN (0, n2) := by kernel_rfl

theorem e49 (d : Nat) (n1 : Int) : g49 (d + 1) n1 =
 some (strL [(IntKind.u8.wrap (n1.tmod 256)), (IntKind.u8.wrap (IntKind.i64.wrap (n1.tdiv 256)))]) := by kernel_rfl

noncomputable def j82_0 (d : Nat)  (s11 : ByteArray) : Option ByteArray :=
 some s11
noncomputable def l82_0_b (d : Nat) (s6 : ByteArray) (kx82_0_0 : ByteArray → Option ByteArray) (ag10 : ByteArray → Option ByteArray) (s11 : ByteArray) : Option ByteArray :=
 obind (g79 d (IntKind.i64.wrap ((4 : Int) + ((s6 : ByteArray).size : Int)))) fun r12 =>
 oif (decide ((((s11 : ByteArray).size : Int) : Int) < r12)) (
 oif (Nat.ble ((s11 : ByteArray).size + ((⟨#[0]⟩ : ByteArray) : ByteArray).size) 9223372036854775807) (
 ag10 ((s11 : ByteArray) ++ ((⟨#[0]⟩ : ByteArray) : ByteArray))) none) (
 kx82_0_0 s11)
noncomputable def l82_0 (d : Nat) (s6 : ByteArray) (kx82_0_0 : ByteArray → Option ByteArray) (ag10 : ByteArray → Option ByteArray) (s : ByteArray) : Option ByteArray := l82_0_b d s6 kx82_0_0 ag10 s
noncomputable def j82_1 (d : Nat)  (s6 : ByteArray) (n7 : Int) : Option ByteArray :=
 obind (g49 d (IntKind.i64.wrap ((4 : Int) + ((s6 : ByteArray).size : Int)))) fun r8 =>
 obind (g49 d n7) fun r9 =>
 oif (Nat.ble ((r8 : ByteArray).size + (r9 : ByteArray).size) 9223372036854775807) (
 oif (Nat.ble ((((r8 : ByteArray) ++ (r9 : ByteArray)) : ByteArray).size + (s6 : ByteArray).size) 9223372036854775807) (
 iterP (l82_0 d s6 (j82_0 d)) fuelN ((((r8 : ByteArray) ++ (r9 : ByteArray)) : ByteArray) ++ (s6 : ByteArray))) none) none
theorem e82 (d : Nat) (l1 : List (Int × Int × Bool × ByteArray)) (n2 : Int) : g82 (d + 1) l1 n2 =
 oif (decide (0 ≤ (n2 : Int))) (
 obind (l1[(n2 : Int).toNat]?) fun x3 =>
 oif (decide (0 ≤ (n2 : Int))) (
 obind (l1[(n2 : Int).toNat]?) fun x4 =>
 oif (decide (0 ≤ (n2 : Int))) (
 obind (l1[(n2 : Int).toNat]?) fun x5 =>
 oif x5.2.2.1 (
 obind (g78 d l1 n2) fun r6 =>
 obind (g46 d l1 (IntKind.i64.wrap (n2 + 1)) r6) fun r7 =>
 j82_1 d r7 (IntKind.i64.wrap (x4.2.1 + 32768))) (
 j82_1 d x3.2.2.2 x4.2.1)) none) none) none := by kernel_rfl

noncomputable def j46_0 (d : Nat)  (s5 : ByteArray) : Option ByteArray :=
 some s5
noncomputable def l46_0_b (d : Nat) (l1 : List (Int × Int × Bool × ByteArray)) (n3 : Int) (kx46_0_0 : ByteArray → Option ByteArray) (ag4 : (ByteArray × Int) → Option ByteArray) (s5 : ByteArray) (n6 : Int) : Option ByteArray :=
 oif (decide ((n6 : Int) < n3)) (
 obind (g82 d l1 n6) fun r7 =>
 oif (Nat.ble ((s5 : ByteArray).size + (r7 : ByteArray).size) 9223372036854775807) (
 obind (g78 d l1 n6) fun r8 =>
 ag4 (((s5 : ByteArray) ++ (r7 : ByteArray)), r8)) none) (
 kx46_0_0 s5)
noncomputable def l46_0 (d : Nat) (l1 : List (Int × Int × Bool × ByteArray)) (n3 : Int) (kx46_0_0 : ByteArray → Option ByteArray) (ag4 : (ByteArray × Int) → Option ByteArray) (s : (ByteArray × Int)) : Option ByteArray := l46_0_b d l1 n3 kx46_0_0 ag4 s.1 s.2
theorem e46 (d : Nat) (l1 : List (Int × Int × Bool × ByteArray)) (n2 : Int) (n3 : Int) : g46 (d + 1) l1 n2 n3 =
 iterP (l46_0 d l1 n3 (j46_0 d)) fuelN ((⟨#[]⟩ : ByteArray), n2) := by kernel_rfl

theorem e35 (d : Nat) (l1 : List (Int × Int × Bool × ByteArray)) : g35 (d + 1) l1 =
 obind (g40 d l1 0 ((l1.length : Nat) : Int)) fun r2 =>
 oif (decide ((r2 : Int) > 6000)) (
 some ((⟨#[]⟩ : ByteArray), false)) (
 obind (g46 d l1 0 ((l1.length : Nat) : Int)) fun r3 =>
 some (r3, true)) := by kernel_rfl

theorem e8 (d : Nat) (l1 : List (Int × Int × Bool × ByteArray)) : g8 (d + 1) l1 =
 obind (g34 d l1) fun r2 =>
 oif (!r2) (
 some ((⟨#[]⟩ : ByteArray), false)) (
 obind (g35 d l1) fun r3 =>
 some (r3.1, r3.2)) := by kernel_rfl

theorem e10 (d : Nat) (l1 : List (Int × Int × Bool × ByteArray)) : g10 (d + 1) l1 =
 obind (g34 d l1) fun r2 =>
 some r2 := by kernel_rfl

theorem e76 (d : Nat) (x1 : (ByteArray × (List (Int × Int × Bool × ByteArray)) × Int × Int)) (n2 : Int) (n3 : Int) : g76 (d + 1) x1 n2 n3 =
 some (false, (x1.1, x1.2.1, n2, n3)) := by kernel_rfl

theorem e77 (d : Nat) (x1 : (ByteArray × (List (Int × Int × Bool × ByteArray)) × Int × Int)) (n2 : Int) : g77 (d + 1) x1 n2 =
 oif (decide (0 ≤ (n2 : Int))) (
 obind ((x1.1 : ByteArray).data.toList[(n2 : Int).toNat]?) fun c3 =>
 oif (decide (0 ≤ ((IntKind.i64.wrap (n2 + 1)) : Int))) (
 obind ((x1.1 : ByteArray).data.toList[((IntKind.i64.wrap (n2 + 1)) : Int).toNat]?) fun c4 =>
 some ((IntKind.i64.wrap ((BitVec.ofInt IntKind.i64.bits (IntKind.i64.wrap (c3.toNat : Int)) ||| BitVec.ofInt IntKind.i64.bits (IntKind.i64.wrap ((IntKind.i64.wrap (c4.toNat : Int)) * 2 ^ (min (8 : Int).toNat IntKind.i64.bits)))).toNat : Int)), x1)) none) none := by kernel_rfl

noncomputable def j36_0 (d : Nat)  (b6 : Bool) (s7 : ByteArray) (n8 : Int) (n9 : Int) (l10 : List (Int × Int × Bool × ByteArray)) : Option (Bool × (ByteArray × (List (Int × Int × Bool × ByteArray)) × Int × Int)) :=
 some (true, (s7, l10, n8, n9))
noncomputable def j36_1 (d : Nat) (ag5 : (Int × Bool × (ByteArray × (List (Int × Int × Bool × ByteArray)) × Int × Int)) → Option (Bool × (ByteArray × (List (Int × Int × Bool × ByteArray)) × Int × Int))) (n6 : Int) (r12 : (Int × (ByteArray × (List (Int × Int × Bool × ByteArray)) × Int × Int))) (b20 : Bool) (b25 : Bool) (b26 : Bool) (s27 : ByteArray) (n28 : Int) (n29 : Int) (l30 : List (Int × Int × Bool × ByteArray)) : Option (Bool × (ByteArray × (List (Int × Int × Bool × ByteArray)) × Int × Int)) :=
 oif b26 (
 some (false, (s27, l30, n28, n29))) (
 ag5 ((IntKind.i64.wrap (n6 + (IntKind.i64.wrap ((IntKind.i64.wrap ((IntKind.i64.wrap (r12.1 + 3)).tdiv 4)) * 4)))), b20, (s27, l30, n28, n29)))
noncomputable def j36_2 (d : Nat) (n4 : Int) (ag5 : (Int × Bool × (ByteArray × (List (Int × Int × Bool × ByteArray)) × Int × Int)) → Option (Bool × (ByteArray × (List (Int × Int × Bool × ByteArray)) × Int × Int))) (n6 : Int) (r12 : (Int × (ByteArray × (List (Int × Int × Bool × ByteArray)) × Int × Int))) (r15 : (Int × (ByteArray × (List (Int × Int × Bool × ByteArray)) × Int × Int))) (b20 : Bool) (b23 : Bool) (s24 : ByteArray) : Option (Bool × (ByteArray × (List (Int × Int × Bool × ByteArray)) × Int × Int)) :=
 oif (Nat.ble ((r15.2.2.1.length + [(n4, (IntKind.i64.wrap ((BitVec.ofInt IntKind.i64.bits r15.1 &&& BitVec.ofInt IntKind.i64.bits 32767).toNat : Int)), (decide ((r15.1 : Int) > 32767)), s24)].length) * 40) roomMax) (
 oif (decide ((r15.1 : Int) > 32767)) (
 obind (g36 d (r15.2.1, (r15.2.2.1 ++ [(n4, (IntKind.i64.wrap ((BitVec.ofInt IntKind.i64.bits r15.1 &&& BitVec.ofInt IntKind.i64.bits 32767).toNat : Int)), (decide ((r15.1 : Int) > 32767)), s24)]), r15.2.2.2) (IntKind.i64.wrap (n6 + 4)) (IntKind.i64.wrap (n6 + r12.1)) (IntKind.i64.wrap (n4 + 1))) fun r25 =>
 j36_1 d ag5 n6 r12 b20 true (!r25.1) r25.2.1 r25.2.2.2.1 r25.2.2.2.2 r25.2.2.1) (
 j36_1 d ag5 n6 r12 b20 false false r15.2.1 r15.2.2.2.1 r15.2.2.2.2 (r15.2.2.1 ++ [(n4, (IntKind.i64.wrap ((BitVec.ofInt IntKind.i64.bits r15.1 &&& BitVec.ofInt IntKind.i64.bits 32767).toNat : Int)), (decide ((r15.1 : Int) > 32767)), s24)]))) none
noncomputable def j36_3 (d : Nat) (n4 : Int) (ag5 : (Int × Bool × (ByteArray × (List (Int × Int × Bool × ByteArray)) × Int × Int)) → Option (Bool × (ByteArray × (List (Int × Int × Bool × ByteArray)) × Int × Int))) (n6 : Int) (r12 : (Int × (ByteArray × (List (Int × Int × Bool × ByteArray)) × Int × Int))) (r15 : (Int × (ByteArray × (List (Int × Int × Bool × ByteArray)) × Int × Int))) (b20 : Bool) (n21 : Int) (n22 : Int) : Option (Bool × (ByteArray × (List (Int × Int × Bool × ByteArray)) × Int × Int)) :=
 oif (!(decide ((r15.1 : Int) > 32767))) (
 oif (decide (0 ≤ ((IntKind.i64.wrap (n6 + r12.1)) : Int))) (
 oif (decide (0 ≤ ((IntKind.i64.wrap (n6 + 4)) : Int))) (
 oif (Nat.ble (((IntKind.i64.wrap (n6 + 4)) : Int).toNat) (((IntKind.i64.wrap (n6 + r12.1)) : Int).toNat) && Nat.ble (((IntKind.i64.wrap (n6 + r12.1)) : Int).toNat) (r15.2.1 : ByteArray).size) (
 j36_2 d n4 ag5 n6 r12 r15 b20 true ((r15.2.1 : ByteArray).extract (((IntKind.i64.wrap (n6 + 4)) : Int).toNat) (((IntKind.i64.wrap (n6 + r12.1)) : Int).toNat))) none) none) none) (
 j36_2 d n4 ag5 n6 r12 r15 b20 false (⟨#[]⟩ : ByteArray))
noncomputable def l36_1_b (d : Nat) (n6 : Int) (r12 : (Int × (ByteArray × (List (Int × Int × Bool × ByteArray)) × Int × Int))) (r15 : (Int × (ByteArray × (List (Int × Int × Bool × ByteArray)) × Int × Int))) (kx36_1_0 : Bool → Int → Int → Option (Bool × (ByteArray × (List (Int × Int × Bool × ByteArray)) × Int × Int))) (ag19 : (Bool × Int) → Option (Bool × (ByteArray × (List (Int × Int × Bool × ByteArray)) × Int × Int))) (b20 : Bool) (n21 : Int) : Option (Bool × (ByteArray × (List (Int × Int × Bool × ByteArray)) × Int × Int)) :=
 oif (decide ((n21 : Int) < (IntKind.i64.wrap (n6 + (IntKind.i64.wrap ((IntKind.i64.wrap ((IntKind.i64.wrap (r12.1 + 3)).tdiv 4)) * 4)))))) (
 oif (decide (0 ≤ (n21 : Int))) (
 obind ((r15.2.1 : ByteArray).data.toList[(n21 : Int).toNat]?) fun c22 =>
 oif (((c22.toNat : Int) : Int) != 0) (
 obind (g76 d r15.2 1 n21) fun r23 =>
 some (r23.1, r23.2)) (
 ag19 (b20, (IntKind.i64.wrap (n21 + 1))))) none) (
 kx36_1_0 b20 n21 n21)
noncomputable def l36_1 (d : Nat) (n6 : Int) (r12 : (Int × (ByteArray × (List (Int × Int × Bool × ByteArray)) × Int × Int))) (r15 : (Int × (ByteArray × (List (Int × Int × Bool × ByteArray)) × Int × Int))) (kx36_1_0 : Bool → Int → Int → Option (Bool × (ByteArray × (List (Int × Int × Bool × ByteArray)) × Int × Int))) (ag19 : (Bool × Int) → Option (Bool × (ByteArray × (List (Int × Int × Bool × ByteArray)) × Int × Int))) (s : (Bool × Int)) : Option (Bool × (ByteArray × (List (Int × Int × Bool × ByteArray)) × Int × Int)) := l36_1_b d n6 r12 r15 kx36_1_0 ag19 s.1 s.2
noncomputable def j36_4 (d : Nat) (n4 : Int) (ag5 : (Int × Bool × (ByteArray × (List (Int × Int × Bool × ByteArray)) × Int × Int)) → Option (Bool × (ByteArray × (List (Int × Int × Bool × ByteArray)) × Int × Int))) (n6 : Int) (b7 : Bool) (r12 : (Int × (ByteArray × (List (Int × Int × Bool × ByteArray)) × Int × Int))) (r15 : (Int × (ByteArray × (List (Int × Int × Bool × ByteArray)) × Int × Int))) (b16 : Bool) (b17 : Bool) : Option (Bool × (ByteArray × (List (Int × Int × Bool × ByteArray)) × Int × Int)) :=
 oif b17 (
 obind (g76 d r15.2 5 n6) fun r18 =>
 some (r18.1, r18.2)) (
 iterP (l36_1 d n6 r12 r15 (j36_3 d n4 ag5 n6 r12 r15)) fuelN (b7, (IntKind.i64.wrap (n6 + r12.1))))
noncomputable def l36_0_b (d : Nat) (n3 : Int) (n4 : Int) (kx36_0_0 : Bool → ByteArray → Int → Int → (List (Int × Int × Bool × ByteArray)) → Option (Bool × (ByteArray × (List (Int × Int × Bool × ByteArray)) × Int × Int))) (ag5 : (Int × Bool × (ByteArray × (List (Int × Int × Bool × ByteArray)) × Int × Int)) → Option (Bool × (ByteArray × (List (Int × Int × Bool × ByteArray)) × Int × Int))) (n6 : Int) (b7 : Bool) (x8 : (ByteArray × (List (Int × Int × Bool × ByteArray)) × Int × Int)) : Option (Bool × (ByteArray × (List (Int × Int × Bool × ByteArray)) × Int × Int)) :=
 oif (decide ((n6 : Int) < n3)) (
 oif (decide ((n4 : Int) > 8)) (
 obind (g76 d x8 4 n6) fun r9 =>
 some (r9.1, r9.2)) (
 oif ((((x8.2.1.length : Nat) : Int) : Int) == 400) (
 obind (g76 d x8 5 n6) fun r10 =>
 some (r10.1, r10.2)) (
 oif (decide (((IntKind.i64.wrap (n3 - n6)) : Int) < 4)) (
 obind (g76 d x8 6 n6) fun r11 =>
 some (r11.1, r11.2)) (
 obind (g77 d x8 n6) fun r12 =>
 oif (decide ((r12.1 : Int) < 4)) (
 obind (g76 d r12.2 3 n6) fun r13 =>
 some (r13.1, r13.2)) (
 oif (decide (((IntKind.i64.wrap ((IntKind.i64.wrap ((IntKind.i64.wrap (r12.1 + 3)).tdiv 4)) * 4)) : Int) > (IntKind.i64.wrap (n3 - n6)))) (
 obind (g76 d r12.2 6 n6) fun r14 =>
 some (r14.1, r14.2)) (
 obind (g77 d r12.2 (IntKind.i64.wrap (n6 + 2))) fun r15 =>
 oif (!(decide ((r15.1 : Int) > 32767))) (
 j36_4 d n4 ag5 n6 b7 r12 r15 true (decide (((IntKind.i64.wrap (r12.1 - 4)) : Int) > 1000))) (
 j36_4 d n4 ag5 n6 b7 r12 r15 false false))))))) (
 kx36_0_0 b7 x8.1 x8.2.2.1 x8.2.2.2 x8.2.1)
noncomputable def l36_0 (d : Nat) (n3 : Int) (n4 : Int) (kx36_0_0 : Bool → ByteArray → Int → Int → (List (Int × Int × Bool × ByteArray)) → Option (Bool × (ByteArray × (List (Int × Int × Bool × ByteArray)) × Int × Int))) (ag5 : (Int × Bool × (ByteArray × (List (Int × Int × Bool × ByteArray)) × Int × Int)) → Option (Bool × (ByteArray × (List (Int × Int × Bool × ByteArray)) × Int × Int))) (s : (Int × Bool × (ByteArray × (List (Int × Int × Bool × ByteArray)) × Int × Int))) : Option (Bool × (ByteArray × (List (Int × Int × Bool × ByteArray)) × Int × Int)) := l36_0_b d n3 n4 kx36_0_0 ag5 s.1 s.2.1 s.2.2
theorem e36 (d : Nat) (x1 : (ByteArray × (List (Int × Int × Bool × ByteArray)) × Int × Int)) (n2 : Int) (n3 : Int) (n4 : Int) : g36 (d + 1) x1 n2 n3 n4 =
 iterP (l36_0 d n3 n4 (j36_0 d)) fuelN (n2, false, x1) := by kernel_rfl

theorem e11 (d : Nat) (s1 : ByteArray) : g11 (d + 1) s1 =
 oif (decide ((((s1 : ByteArray).size : Int) : Int) > 6000)) (
 some ([], (5, 0), false)) (
 obind (g36 d (s1, [], 0, 0) 0 ((s1 : ByteArray).size : Int) 1) fun r2 =>
 oif (!r2.1) (
 some ([], r2.2.2.2, false)) (
 some (r2.2.2.1, (0, 0), true))) := by kernel_rfl

noncomputable def j12_0 (d : Nat)  (b4 : Bool) : Option Bool :=
 some true
noncomputable def l12_0_b (d : Nat) (l1 : List (Int × Int × Bool × ByteArray)) (l2 : List (Int × Int × Bool × ByteArray)) (kx12_0_0 : Bool → Option Bool) (ag3 : (Bool × Int) → Option Bool) (b4 : Bool) (n5 : Int) : Option Bool :=
 oif (decide ((n5 : Int) < ((l1.length : Nat) : Int))) (
 oif (decide (0 ≤ (n5 : Int))) (
 obind (l1[(n5 : Int).toNat]?) fun x6 =>
 oif (decide (0 ≤ (n5 : Int))) (
 obind (l2[(n5 : Int).toNat]?) fun x7 =>
 oif (!(((x6.1 : Int) == x7.1) && (((x6.2.1 : Int) == x7.2.1) && ((x6.2.2.1 == x7.2.2.1) && (((x6.2.2.2 : ByteArray).toList == (x7.2.2.2 : ByteArray).toList) && true))))) (
 some false) (
 ag3 (b4, (IntKind.i64.wrap (n5 + 1))))) none) none) (
 kx12_0_0 b4)
noncomputable def l12_0 (d : Nat) (l1 : List (Int × Int × Bool × ByteArray)) (l2 : List (Int × Int × Bool × ByteArray)) (kx12_0_0 : Bool → Option Bool) (ag3 : (Bool × Int) → Option Bool) (s : (Bool × Int)) : Option Bool := l12_0_b d l1 l2 kx12_0_0 ag3 s.1 s.2
theorem e12 (d : Nat) (l1 : List (Int × Int × Bool × ByteArray)) (l2 : List (Int × Int × Bool × ByteArray)) : g12 (d + 1) l1 l2 =
 oif ((((l1.length : Nat) : Int) : Int) != ((l2.length : Nat) : Int)) (
 some false) (
 iterP (l12_0 d l1 l2 (j12_0 d)) fuelN (false, 0)) := by kernel_rfl

theorem e37 (d : Nat) (l1 : List (Int × Int × Bool × ByteArray)) (n2 : Int) : g37 (d + 1) l1 n2 =
 obind (g9 d l1) fun r3 =>
 oif r3 (
 oif (decide ((n2 : Int) ≥ 0)) (
 some (decide ((n2 : Int) < ((l1.length : Nat) : Int)))) (
 some false)) (
 some false) := by kernel_rfl

theorem e13 (d : Nat) (l1 : List (Int × Int × Bool × ByteArray)) (n2 : Int) : g13 (d + 1) l1 n2 =
 obind (g37 d l1 n2) fun r3 =>
 oif (!r3) (
 some (0, false)) (
 obind (g32 d l1) fun r4 =>
 oif (!r4) (
 some (0, false)) (
 obind (g38 d l1 n2) fun r5 =>
 some (r5, true))) := by kernel_rfl

theorem e39 (d : Nat) (l1 : List (Int × Int × Bool × ByteArray)) (n2 : Int) : g39 (d + 1) l1 n2 =
 obind (g34 d l1) fun r3 =>
 oif r3 (
 obind (g69 d n2 0 (IntKind.i64.wrap (((l1.length : Nat) : Int) - 1))) fun r4 =>
 some r4) (
 some false) := by kernel_rfl

theorem e14 (d : Nat) (l1 : List (Int × Int × Bool × ByteArray)) (n2 : Int) : g14 (d + 1) l1 n2 =
 obind (g39 d l1 n2) fun r3 =>
 oif (!r3) (
 some (0, false)) (
 obind (g40 d l1 0 ((l1.length : Nat) : Int)) fun r4 =>
 oif (decide ((r4 : Int) > 6000)) (
 some (0, false)) (
 obind (g41 d l1 n2) fun r5 =>
 some (r5, true))) := by kernel_rfl

noncomputable def j15_0 (d : Nat)  (n5 : Int) : Option (Int × Bool) :=
 some (n5, true)
noncomputable def l15_0_b (d : Nat) (l1 : List (Int × Int × Bool × ByteArray)) (n2 : Int) (kx15_0_0 : Int → Option (Int × Bool)) (ag4 : (Int × Int) → Option (Int × Bool)) (n5 : Int) (n6 : Int) : Option (Int × Bool) :=
 oif (decide ((n6 : Int) < n2)) (
 oif (decide (0 ≤ (n6 : Int))) (
 obind (l1[(n6 : Int).toNat]?) fun x7 =>
 ag4 ((IntKind.i64.wrap (n5 + (IntKind.i64.wrap ((4 : Int) + (IntKind.i64.wrap ((IntKind.i64.wrap ((IntKind.i64.wrap (((x7.2.2.2 : ByteArray).size : Int) + 3)).tdiv 4)) * 4)))))), (IntKind.i64.wrap (n6 + 1)))) none) (
 kx15_0_0 n5)
noncomputable def l15_0 (d : Nat) (l1 : List (Int × Int × Bool × ByteArray)) (n2 : Int) (kx15_0_0 : Int → Option (Int × Bool)) (ag4 : (Int × Int) → Option (Int × Bool)) (s : (Int × Int)) : Option (Int × Bool) := l15_0_b d l1 n2 kx15_0_0 ag4 s.1 s.2
noncomputable def j15_1 (d : Nat) (l1 : List (Int × Int × Bool × ByteArray)) (n2 : Int) (b3 : Bool) : Option (Int × Bool) :=
 oif b3 (
 some (0, false)) (
 iterP (l15_0 d l1 n2 (j15_0 d)) fuelN (0, 0))
theorem e15 (d : Nat) (l1 : List (Int × Int × Bool × ByteArray)) (n2 : Int) : g15 (d + 1) l1 n2 =
 obind (g37 d l1 n2) fun r3 =>
 oif (!r3) (
 j15_1 d l1 n2 true) (
 obind (g32 d l1) fun r4 =>
 j15_1 d l1 n2 (!r4)) := by kernel_rfl

noncomputable def j80_0 (d : Nat)  (n4 : Int) : Option Int :=
 some n4
noncomputable def l80_0_b (d : Nat) (l1 : List (Int × Int × Bool × ByteArray)) (n2 : Int) (kx80_0_0 : Int → Option Int) (ag3 : Int → Option Int) (n4 : Int) : Option Int :=
 oif (decide ((n4 : Int) ≥ 0)) (
 oif (decide (0 ≤ (n4 : Int))) (
 obind (l1[(n4 : Int).toNat]?) fun x5 =>
 oif (decide (0 ≤ (n2 : Int))) (
 obind (l1[(n2 : Int).toNat]?) fun x6 =>
 oif (decide ((x5.1 : Int) ≥ x6.1)) (
 ag3 (IntKind.i64.wrap (n4 - 1))) (
 kx80_0_0 n4)) none) none) (
 kx80_0_0 n4)
noncomputable def l80_0 (d : Nat) (l1 : List (Int × Int × Bool × ByteArray)) (n2 : Int) (kx80_0_0 : Int → Option Int) (ag3 : Int → Option Int) (s : Int) : Option Int := l80_0_b d l1 n2 kx80_0_0 ag3 s
theorem e80 (d : Nat) (l1 : List (Int × Int × Bool × ByteArray)) (n2 : Int) : g80 (d + 1) l1 n2 =
 iterP (l80_0 d l1 n2 (j80_0 d)) fuelN (IntKind.i64.wrap (n2 - 1)) := by kernel_rfl

theorem e42 (d : Nat) (l1 : List (Int × Int × Bool × ByteArray)) (n2 : Int) : g42 (d + 1) l1 n2 =
 obind (g80 d l1 n2) fun r3 =>
 oif (decide ((r3 : Int) < 0)) (
 obind (g40 d l1 0 n2) fun r4 =>
 some r4) (
 obind (g42 d l1 r3) fun r5 =>
 obind (g40 d l1 (IntKind.i64.wrap (r3 + 1)) n2) fun r6 =>
 some (IntKind.i64.wrap ((IntKind.i64.wrap (r5 + 4)) + r6))) := by kernel_rfl

theorem e16 (d : Nat) (l1 : List (Int × Int × Bool × ByteArray)) (n2 : Int) : g16 (d + 1) l1 n2 =
 obind (g39 d l1 n2) fun r3 =>
 oif (!r3) (
 some (0, false)) (
 obind (g40 d l1 0 ((l1.length : Nat) : Int)) fun r4 =>
 oif (decide ((r4 : Int) > 6000)) (
 some (0, false)) (
 obind (g42 d l1 n2) fun r5 =>
 some (r5, true))) := by kernel_rfl

noncomputable def j47_0 (d : Nat)  (l4 : List (Int × Int × Bool × ByteArray)) : Option (List (Int × Int × Bool × ByteArray)) :=
 some l4
noncomputable def l47_0_b (d : Nat) (l2 : List (Int × Int × Bool × ByteArray)) (kx47_0_0 : (List (Int × Int × Bool × ByteArray)) → Option (List (Int × Int × Bool × ByteArray))) (ag3 : ((List (Int × Int × Bool × ByteArray)) × Int) → Option (List (Int × Int × Bool × ByteArray))) (l4 : List (Int × Int × Bool × ByteArray)) (n5 : Int) : Option (List (Int × Int × Bool × ByteArray)) :=
 oif (decide ((n5 : Int) < ((l2.length : Nat) : Int))) (
 oif (decide (0 ≤ (n5 : Int))) (
 obind (l2[(n5 : Int).toNat]?) fun x6 =>
 oif (Nat.ble ((l4.length + [((IntKind.i64.wrap (x6.1 + 1)), x6.2)].length) * 40) roomMax) (
 ag3 ((l4 ++ [((IntKind.i64.wrap (x6.1 + 1)), x6.2)]), (IntKind.i64.wrap (n5 + 1)))) none) none) (
 kx47_0_0 l4)
noncomputable def l47_0 (d : Nat) (l2 : List (Int × Int × Bool × ByteArray)) (kx47_0_0 : (List (Int × Int × Bool × ByteArray)) → Option (List (Int × Int × Bool × ByteArray))) (ag3 : ((List (Int × Int × Bool × ByteArray)) × Int) → Option (List (Int × Int × Bool × ByteArray))) (s : ((List (Int × Int × Bool × ByteArray)) × Int)) : Option (List (Int × Int × Bool × ByteArray)) := l47_0_b d l2 kx47_0_0 ag3 s.1 s.2
theorem e47 (d : Nat) (n1 : Int) (l2 : List (Int × Int × Bool × ByteArray)) : g47 (d + 1) n1 l2 =
 iterP (l47_0 d l2 (j47_0 d)) fuelN ([(1, n1, true, (⟨#[]⟩ : ByteArray))], 0) := by kernel_rfl

theorem e51 (d : Nat) (x1 : ((List Int) × Int × Int)) (s2 : ByteArray) : g51 (d + 1) x1 s2 =
 oif ((((s2 : ByteArray).size : Int) : Int) == 0) (
 obind (g81 d x1 [(⟨#[]⟩ : ByteArray), (⟨#[0, 0, 0]⟩ : ByteArray), (⟨#[3, 0, 3, 0]⟩ : ByteArray), (⟨#[4, 0, 0, 0]⟩ : ByteArray), (⟨#[5, 0, 0, 0, 97, 0, 0, 1]⟩ : ByteArray)]) fun r3 =>
 some (r3.1, r3.2)) (
 obind (g48 d x1 6) fun r4 =>
 oif ((r4.1 : Int) == 0) (
 obind (g48 d r4.2 ((s2 : ByteArray).size : Int)) fun r5 =>
 oif (decide (0 ≤ (r5.1 : Int))) (
 oif (Nat.ble 0 ((r5.1 : Int).toNat) && Nat.ble ((r5.1 : Int).toNat) (s2 : ByteArray).size) (
 obind (g48 d r5.2 12) fun r6 =>
 oif (Nat.ble ((((s2 : ByteArray).extract 0 ((r5.1 : Int).toNat)) : ByteArray).size + ((strL [(IntKind.u8.wrap r6.1)]) : ByteArray).size) 9223372036854775807) (
 oif (decide (0 ≤ ((IntKind.i64.wrap (r5.1 + 1)) : Int))) (
 oif (Nat.ble (((IntKind.i64.wrap (r5.1 + 1)) : Int).toNat) ((s2 : ByteArray).size) && Nat.ble ((s2 : ByteArray).size) (s2 : ByteArray).size) (
 oif (Nat.ble ((((((s2 : ByteArray).extract 0 ((r5.1 : Int).toNat)) : ByteArray) ++ ((strL [(IntKind.u8.wrap r6.1)]) : ByteArray)) : ByteArray).size + (((s2 : ByteArray).extract (((IntKind.i64.wrap (r5.1 + 1)) : Int).toNat) ((s2 : ByteArray).size)) : ByteArray).size) 9223372036854775807) (
 some (((((((s2 : ByteArray).extract 0 ((r5.1 : Int).toNat)) : ByteArray) ++ ((strL [(IntKind.u8.wrap r6.1)]) : ByteArray)) : ByteArray) ++ (((s2 : ByteArray).extract (((IntKind.i64.wrap (r5.1 + 1)) : Int).toNat) ((s2 : ByteArray).size)) : ByteArray)), r6.2)) none) none) none) none) none) none) (
 oif ((r4.1 : Int) == 1) (
 obind (g48 d r4.2 ((s2 : ByteArray).size : Int)) fun r7 =>
 oif (decide (0 ≤ (r7.1 : Int))) (
 oif (Nat.ble 0 ((r7.1 : Int).toNat) && Nat.ble ((r7.1 : Int).toNat) (s2 : ByteArray).size) (
 some (((s2 : ByteArray).extract 0 ((r7.1 : Int).toNat)), r7.2)) none) none) (
 oif ((r4.1 : Int) == 2) (
 obind (g81 d r4.2 [(⟨#[0]⟩ : ByteArray), (⟨#[4, 0, 0, 128]⟩ : ByteArray), (⟨#[0, 0, 0, 0]⟩ : ByteArray), (⟨#[8, 0, 0, 128, 3, 0, 0, 0]⟩ : ByteArray)]) fun r8 =>
 oif (Nat.ble ((s2 : ByteArray).size + (r8.1 : ByteArray).size) 9223372036854775807) (
 some (((s2 : ByteArray) ++ (r8.1 : ByteArray)), r8.2)) none) (
 some (s2, r4.2))))) := by kernel_rfl

noncomputable def j17_0 (d : Nat)  (s19 : ByteArray) : Option ByteArray :=
 some s19
noncomputable def l17_0_b (d : Nat)  (kx17_0_0 : ByteArray → Option ByteArray) (ag18 : (ByteArray × Int) → Option ByteArray) (s19 : ByteArray) (n20 : Int) : Option ByteArray :=
 oif (decide ((n20 : Int) > 0)) (
 oif (Nat.ble ((s19 : ByteArray).size + ((⟨#[4, 0, 0, 0]⟩ : ByteArray) : ByteArray).size) 9223372036854775807) (
 ag18 (((s19 : ByteArray) ++ ((⟨#[4, 0, 0, 0]⟩ : ByteArray) : ByteArray)), (IntKind.i64.wrap (n20 - 1)))) none) (
 kx17_0_0 s19)
noncomputable def l17_0 (d : Nat)  (kx17_0_0 : ByteArray → Option ByteArray) (ag18 : (ByteArray × Int) → Option ByteArray) (s : (ByteArray × Int)) : Option ByteArray := l17_0_b d kx17_0_0 ag18 s.1 s.2
noncomputable def j17_1 (d : Nat)  (s27 : ByteArray) : Option ByteArray :=
 some s27
noncomputable def l17_1_b (d : Nat)  (kx17_1_0 : ByteArray → Option ByteArray) (ag26 : ByteArray → Option ByteArray) (s27 : ByteArray) : Option ByteArray :=
 oif (((((s27 : ByteArray).size : Int).tmod 4) : Int) != 0) (
 oif (Nat.ble ((s27 : ByteArray).size + ((⟨#[0]⟩ : ByteArray) : ByteArray).size) 9223372036854775807) (
 ag26 ((s27 : ByteArray) ++ ((⟨#[0]⟩ : ByteArray) : ByteArray))) none) (
 kx17_1_0 s27)
noncomputable def l17_1 (d : Nat)  (kx17_1_0 : ByteArray → Option ByteArray) (ag26 : ByteArray → Option ByteArray) (s : ByteArray) : Option ByteArray := l17_1_b d kx17_1_0 ag26 s
noncomputable def j17_2 (d : Nat)  (l4 : List Int) (n5 : Int) (n6 : Int) (l7 : List (Int × Int × Bool × ByteArray)) : Option ByteArray :=
 obind (g34 d l7) fun r8 =>
 oif (!r8) (
 some (⟨#[4, 0]⟩ : ByteArray)) (
 obind (g46 d l7 0 ((l7.length : Nat) : Int)) fun r9 =>
 obind (g44 d (l4, n5, n6) 24) fun r10 =>
 oif r10.1 (
 obind (g47 d 1 l7) fun r11 =>
 obind (g47 d 1 r11) fun r12 =>
 obind (g47 d 1 r12) fun r13 =>
 obind (g47 d 1 r13) fun r14 =>
 obind (g46 d r14 0 (IntKind.i64.wrap (((l7.length : Nat) : Int) + 4))) fun r15 =>
 some r15) (
 obind (g44 d r10.2 24) fun r16 =>
 oif r16.1 (
 obind (g48 d r16.2 2) fun r17 =>
 iterP (l17_0 d (j17_0 d)) fuelN ((⟨#[]⟩ : ByteArray), (IntKind.i64.wrap ((400 : Int) + r17.1)))) (
 obind (g44 d r16.2 24) fun r21 =>
 oif r21.1 (
 obind (g48 d r21.2 2) fun r22 =>
 obind (g49 d (IntKind.i64.wrap ((4 : Int) + (IntKind.i64.wrap ((1000 : Int) + r22.1))))) fun r23 =>
 obind (g49 d 0) fun r24 =>
 oif (Nat.ble ((r23 : ByteArray).size + (r24 : ByteArray).size) 9223372036854775807) (
 obind (g50 d r22.2 (IntKind.i64.wrap ((1000 : Int) + r22.1))) fun r25 =>
 oif (Nat.ble ((((r23 : ByteArray) ++ (r24 : ByteArray)) : ByteArray).size + (r25.1 : ByteArray).size) 9223372036854775807) (
 iterP (l17_1 d (j17_1 d)) fuelN ((((r23 : ByteArray) ++ (r24 : ByteArray)) : ByteArray) ++ (r25.1 : ByteArray))) none) none) (
 obind (g51 d r21.2 r9) fun r28 =>
 some r28.1))))
theorem e17 (d : Nat) (l1 : List Int) : g17 (d + 1) l1 =
 obind (g43 d (l1, 0, 0)) fun r2 =>
 obind (g44 d r2.2 8) fun r3 =>
 oif r3.1 (
 obind (g45 d r3.2) fun r4 =>
 j17_2 d r4.2.1 r4.2.2.1 r4.2.2.2 r4.1) (
 j17_2 d r3.2.1 r3.2.2.1 r3.2.2.2 r2.1) := by kernel_rfl

theorem e84 (d : Nat) (n1 : Int) (n2 : Int) : g84 (d + 1) n1 n2 =
 some (n1, n2) := by kernel_rfl

theorem e96 (d : Nat) (s1 : ByteArray) (n2 : Int) : g96 (d + 1) s1 n2 =
 oif (decide (0 ≤ (n2 : Int))) (
 obind ((s1 : ByteArray).data.toList[(n2 : Int).toNat]?) fun c3 =>
 oif (decide (0 ≤ ((IntKind.i64.wrap (n2 + 1)) : Int))) (
 obind ((s1 : ByteArray).data.toList[((IntKind.i64.wrap (n2 + 1)) : Int).toNat]?) fun c4 =>
 some (IntKind.i64.wrap ((IntKind.i64.wrap (c3.toNat : Int)) + (IntKind.i64.wrap ((256 : Int) * (IntKind.i64.wrap (c4.toNat : Int))))))) none) none := by kernel_rfl

noncomputable def j95_0 (d : Nat) (x1 : (ByteArray × (List (Int × Int × Bool × ByteArray))))  : Option ((Int × Int) × (ByteArray × (List (Int × Int × Bool × ByteArray)))) :=
 some ((0, 0), x1)
noncomputable def l95_0_b (d : Nat) (x1 : (ByteArray × (List (Int × Int × Bool × ByteArray)))) (n3 : Int) (r8 : Int) (kx95_0_0 : Option ((Int × Int) × (ByteArray × (List (Int × Int × Bool × ByteArray))))) (ag9 : Int → Option ((Int × Int) × (ByteArray × (List (Int × Int × Bool × ByteArray))))) (n10 : Int) : Option ((Int × Int) × (ByteArray × (List (Int × Int × Bool × ByteArray)))) :=
 obind (g79 d r8) fun r11 =>
 oif (decide ((n10 : Int) < (IntKind.i64.wrap (n3 + r11)))) (
 oif (decide (0 ≤ (n10 : Int))) (
 obind ((x1.1 : ByteArray).data.toList[(n10 : Int).toNat]?) fun c12 =>
 oif (((c12.toNat : Int) : Int) != 0) (
 obind (g84 d 1 n10) fun r13 =>
 some (r13, x1)) (
 ag9 (IntKind.i64.wrap (n10 + 1)))) none) (
 kx95_0_0)
noncomputable def l95_0 (d : Nat) (x1 : (ByteArray × (List (Int × Int × Bool × ByteArray)))) (n3 : Int) (r8 : Int) (kx95_0_0 : Option ((Int × Int) × (ByteArray × (List (Int × Int × Bool × ByteArray))))) (ag9 : Int → Option ((Int × Int) × (ByteArray × (List (Int × Int × Bool × ByteArray))))) (s : Int) : Option ((Int × Int) × (ByteArray × (List (Int × Int × Bool × ByteArray)))) := l95_0_b d x1 n3 r8 kx95_0_0 ag9 s
noncomputable def j95_1 (d : Nat) (x1 : (ByteArray × (List (Int × Int × Bool × ByteArray)))) (n3 : Int) (r8 : Int)  : Option ((Int × Int) × (ByteArray × (List (Int × Int × Bool × ByteArray)))) :=
 iterP (l95_0 d x1 n3 r8 (j95_0 d x1)) fuelN (IntKind.i64.wrap (n3 + r8))
theorem e95 (d : Nat) (x1 : (ByteArray × (List (Int × Int × Bool × ByteArray)))) (n2 : Int) (n3 : Int) (n4 : Int) : g95 (d + 1) x1 n2 n3 n4 =
 oif (decide ((n2 : Int) > 8)) (
 obind (g84 d 4 n3) fun r5 =>
 some (r5, x1)) (
 oif (decide ((((x1.2.length : Nat) : Int) : Int) ≥ 400)) (
 obind (g84 d 5 n3) fun r6 =>
 some (r6, x1)) (
 oif (decide (((IntKind.i64.wrap (n4 - n3)) : Int) < 4)) (
 obind (g84 d 6 n3) fun r7 =>
 some (r7, x1)) (
 obind (g96 d x1.1 n3) fun r8 =>
 oif (decide ((r8 : Int) < 4)) (
 obind (g84 d 3 n3) fun r9 =>
 some (r9, x1)) (
 obind (g79 d r8) fun r10 =>
 oif (decide (((IntKind.i64.wrap (n3 + r10)) : Int) > n4)) (
 obind (g84 d 6 n3) fun r11 =>
 some (r11, x1)) (
 obind (g96 d x1.1 (IntKind.i64.wrap (n3 + 2))) fun r12 =>
 oif (decide ((r12 : Int) < 32768)) (
 oif (decide ((r8 : Int) > 1004)) (
 obind (g84 d 5 n3) fun r13 =>
 some (r13, x1)) (
 j95_1 d x1 n3 r8)) (
 j95_1 d x1 n3 r8)))))) := by kernel_rfl

noncomputable def j85_0 (d : Nat)  (s6 : ByteArray) (l7 : List (Int × Int × Bool × ByteArray)) : Option ((Int × Int) × (ByteArray × (List (Int × Int × Bool × ByteArray)))) :=
 some ((0, 0), (s6, l7))
noncomputable def l85_0_b (d : Nat) (n2 : Int) (n4 : Int) (kx85_0_0 : ByteArray → (List (Int × Int × Bool × ByteArray)) → Option ((Int × Int) × (ByteArray × (List (Int × Int × Bool × ByteArray))))) (ag5 : (Int × (ByteArray × (List (Int × Int × Bool × ByteArray)))) → Option ((Int × Int) × (ByteArray × (List (Int × Int × Bool × ByteArray))))) (n6 : Int) (x7 : (ByteArray × (List (Int × Int × Bool × ByteArray)))) : Option ((Int × Int) × (ByteArray × (List (Int × Int × Bool × ByteArray)))) :=
 oif (decide ((n6 : Int) < n4)) (
 obind (g95 d x7 n2 n6 n4) fun r8 =>
 oif (decide ((r8.1.1 : Int) > 0)) (
 some (r8.1, r8.2)) (
 obind (g96 d r8.2.1 n6) fun r9 =>
 obind (g96 d r8.2.1 (IntKind.i64.wrap (n6 + 2))) fun r10 =>
 oif (decide ((r10 : Int) < 32768)) (
 oif (decide (0 ≤ ((IntKind.i64.wrap (n6 + r9)) : Int))) (
 oif (decide (0 ≤ ((IntKind.i64.wrap (n6 + 4)) : Int))) (
 oif (Nat.ble (((IntKind.i64.wrap (n6 + 4)) : Int).toNat) (((IntKind.i64.wrap (n6 + r9)) : Int).toNat) && Nat.ble (((IntKind.i64.wrap (n6 + r9)) : Int).toNat) (r8.2.1 : ByteArray).size) (
 oif (Nat.ble ((r8.2.2.length + [(n2, r10, false, ((r8.2.1 : ByteArray).extract (((IntKind.i64.wrap (n6 + 4)) : Int).toNat) (((IntKind.i64.wrap (n6 + r9)) : Int).toNat)))].length) * 40) roomMax) (
 obind (g79 d r9) fun r11 =>
 ag5 ((IntKind.i64.wrap (n6 + r11)), (r8.2.1, (r8.2.2 ++ [(n2, r10, false, ((r8.2.1 : ByteArray).extract (((IntKind.i64.wrap (n6 + 4)) : Int).toNat) (((IntKind.i64.wrap (n6 + r9)) : Int).toNat)))])))) none) none) none) none) (
 oif (Nat.ble ((r8.2.2.length + [(n2, (IntKind.i64.wrap (r10 - 32768)), true, (⟨#[]⟩ : ByteArray))].length) * 40) roomMax) (
 obind (g85 d (r8.2.1, (r8.2.2 ++ [(n2, (IntKind.i64.wrap (r10 - 32768)), true, (⟨#[]⟩ : ByteArray))])) (IntKind.i64.wrap (n2 + 1)) (IntKind.i64.wrap (n6 + 4)) (IntKind.i64.wrap (n6 + r9))) fun r12 =>
 oif (decide ((r12.1.1 : Int) > 0)) (
 some (r12.1, r12.2)) (
 obind (g79 d r9) fun r13 =>
 ag5 ((IntKind.i64.wrap (n6 + r13)), r12.2))) none))) (
 kx85_0_0 x7.1 x7.2)
noncomputable def l85_0 (d : Nat) (n2 : Int) (n4 : Int) (kx85_0_0 : ByteArray → (List (Int × Int × Bool × ByteArray)) → Option ((Int × Int) × (ByteArray × (List (Int × Int × Bool × ByteArray))))) (ag5 : (Int × (ByteArray × (List (Int × Int × Bool × ByteArray)))) → Option ((Int × Int) × (ByteArray × (List (Int × Int × Bool × ByteArray))))) (s : (Int × (ByteArray × (List (Int × Int × Bool × ByteArray))))) : Option ((Int × Int) × (ByteArray × (List (Int × Int × Bool × ByteArray)))) := l85_0_b d n2 n4 kx85_0_0 ag5 s.1 s.2
theorem e85 (d : Nat) (x1 : (ByteArray × (List (Int × Int × Bool × ByteArray)))) (n2 : Int) (n3 : Int) (n4 : Int) : g85 (d + 1) x1 n2 n3 n4 =
 iterP (l85_0 d n2 n4 (j85_0 d)) fuelN (n3, x1) := by kernel_rfl

theorem e52 (d : Nat) (s1 : ByteArray) : g52 (d + 1) s1 =
 oif (decide ((((s1 : ByteArray).size : Int) : Int) > 6000)) (
 obind (g84 d 5 0) fun r2 =>
 some ([], r2)) (
 obind (g85 d (s1, []) 1 0 ((s1 : ByteArray).size : Int)) fun r3 =>
 oif (decide ((r3.1.1 : Int) > 0)) (
 some ([], r3.1)) (
 some (r3.2.2, r3.1))) := by kernel_rfl

theorem e18 (d : Nat) (s1 : ByteArray) : g18 (d + 1) s1 =
 obind (g52 d s1) fun r2 =>
 some (r2.1, r2.2, ((r2.2.1 : Int) == 0)) := by kernel_rfl

noncomputable def j3_0 (d : Nat) (r9 : ByteArray) (r10 : ((List (Int × Int × Bool × ByteArray)) × (Int × Int) × Bool)) (b12 : Bool) : Option Bool :=
 oif b12 (
 some false) (
 oif r10.2.2 (
 obind (g7 d r10.1) fun r13 =>
 oif r13.2 (
 some ((r13.1 : ByteArray).toList == (r9 : ByteArray).toList)) (
 some false)) (
 some true))
noncomputable def j3_1 (d : Nat) (l2 : List Int) (b8 : Bool) : Option Bool :=
 obind (g17 d l2) fun r9 =>
 obind (g11 d r9) fun r10 =>
 obind (g18 d r9) fun r11 =>
 oif (!(r10.2.2 == r11.2.2)) (
 j3_0 d r9 r10 true) (
 oif (!(((r10.2.1.1 : Int) == r11.2.1.1) && (((r10.2.1.2 : Int) == r11.2.1.2) && true))) (
 j3_0 d r9 r10 true) (
 obind (g12 d r10.1 r11.1) fun r12 =>
 oif (!r12) (
 j3_0 d r9 r10 true) (
 oif (!r10.2.2) (
 j3_0 d r9 r10 (decide ((r11.2.1.2 : Int) > ((r9 : ByteArray).size : Int)))) (
 j3_0 d r9 r10 false))))
noncomputable def j3_2 (d : Nat) (l2 : List Int) (r4 : List (Int × Int × Bool × ByteArray)) (r6 : (ByteArray × Bool)) (b11 : Bool) (n12 : Int) : Option Bool :=
 oif (decide ((((r4.length : Nat) : Int) : Int) ≤ 40)) (
 oif ((n12 : Int) != ((r6.1 : ByteArray).size : Int)) (
 some false) (
 j3_1 d l2 b11)) (
 j3_1 d l2 b11)
noncomputable def j3_3 (d : Nat) (kx3_0_0 : Bool → Int → Option Bool) (ag10 : (Bool × Int × Int) → Option Bool) (b11 : Bool) (n12 : Int) (n13 : Int) (x14 : (Int × Int × Bool × ByteArray)) (r15 : (Int × Bool)) (r17 : (Int × Bool)) (b19 : Bool) (b20 : Bool) (b21 : Bool) (b22 : Bool) (b23 : Bool) (b24 : Bool) : Option Bool :=
 oif b24 (
 some false) (
 oif ((x14.1 : Int) == 1) (
 oif ((r17.1 : Int) != n12) (
 some false) (
 oif (decide ((n13 : Int) > 40)) (
 kx3_0_0 b11 (IntKind.i64.wrap (n12 + r15.1))) (
 ag10 (b11, (IntKind.i64.wrap (n12 + r15.1)), (IntKind.i64.wrap (n13 + 1)))))) (
 oif (decide ((n13 : Int) > 40)) (
 kx3_0_0 b11 n12) (
 ag10 (b11, n12, (IntKind.i64.wrap (n13 + 1))))))
noncomputable def l3_0_b (d : Nat) (r4 : List (Int × Int × Bool × ByteArray)) (kx3_0_0 : Bool → Int → Option Bool) (ag10 : (Bool × Int × Int) → Option Bool) (b11 : Bool) (n12 : Int) (n13 : Int) : Option Bool :=
 oif (decide ((n13 : Int) < ((r4.length : Nat) : Int))) (
 oif (decide (0 ≤ (n13 : Int))) (
 oif (Nat.blt ((n13 : Int).toNat) r4.length) (
 obind (r4[(n13 : Int).toNat]?) fun x14 =>
 obind (g13 d r4 n13) fun r15 =>
 obind (g14 d r4 n13) fun r16 =>
 obind (g15 d r4 n13) fun r17 =>
 obind (g16 d r4 n13) fun r18 =>
 oif (!r15.2) (
 j3_3 d kx3_0_0 ag10 b11 n12 n13 x14 r15 r17 true true true true true true) (
 oif ((r15.1 : Int) != r16.1) (
 j3_3 d kx3_0_0 ag10 b11 n12 n13 x14 r15 r17 false ((r15.1 : Int) != r16.1) true true true true) (
 oif (!r17.2) (
 j3_3 d kx3_0_0 ag10 b11 n12 n13 x14 r15 r17 false ((r15.1 : Int) != r16.1) false (!r17.2) true true) (
 j3_3 d kx3_0_0 ag10 b11 n12 n13 x14 r15 r17 false ((r15.1 : Int) != r16.1) false (!r17.2) false ((r17.1 : Int) != r18.1))))) none) none) (
 kx3_0_0 b11 n12)
noncomputable def l3_0 (d : Nat) (r4 : List (Int × Int × Bool × ByteArray)) (kx3_0_0 : Bool → Int → Option Bool) (ag10 : (Bool × Int × Int) → Option Bool) (s : (Bool × Int × Int)) : Option Bool := l3_0_b d r4 kx3_0_0 ag10 s.1 s.2.1 s.2.2
noncomputable def j3_4 (d : Nat) (l2 : List Int) (r4 : List (Int × Int × Bool × ByteArray)) (r6 : (ByteArray × Bool)) (b9 : Bool) : Option Bool :=
 oif b9 (
 some false) (
 iterP (l3_0 d r4 (j3_2 d l2 r4 r6)) fuelN (false, 0, 0))
noncomputable def j3_5 (d : Nat) (l2 : List Int) (r4 : List (Int × Int × Bool × ByteArray)) (r5 : (ByteArray × Bool)) (r6 : (ByteArray × Bool)) (b7 : Bool) : Option Bool :=
 oif b7 (
 some false) (
 oif r5.2 (
 obind (g11 d r5.1) fun r8 =>
 oif (!r8.2.2) (
 j3_4 d l2 r4 r6 true) (
 oif (!(((r8.2.1.1 : Int) == 0) && (((r8.2.1.2 : Int) == 0) && true))) (
 j3_4 d l2 r4 r6 true) (
 obind (g12 d r8.1 r4) fun r9 =>
 oif (!r9) (
 j3_4 d l2 r4 r6 true) (
 j3_4 d l2 r4 r6 (((((r6.1 : ByteArray).size : Int).tmod 4) : Int) != 0))))) (
 j3_1 d l2 false))
theorem e3 (d : Nat) (l1 : List Int) (l2 : List Int) : g3 (d + 1) l1 l2 =
 obind (g5 d l1 l2) fun r3 =>
 oif r3 (
 some true) (
 obind (g6 d l1) fun r4 =>
 obind (g7 d r4) fun r5 =>
 obind (g8 d r4) fun r6 =>
 oif (!(r5.2 == r6.2)) (
 j3_5 d l2 r4 r5 r6 true) (
 oif (!((r5.1 : ByteArray).toList == (r6.1 : ByteArray).toList)) (
 j3_5 d l2 r4 r5 r6 true) (
 obind (g9 d r4) fun r7 =>
 obind (g10 d r4) fun r8 =>
 j3_5 d l2 r4 r5 r6 (!(r7 == r8))))) := by kernel_rfl

end Go.Proofs.Ytpjlbjkeekobnaa
