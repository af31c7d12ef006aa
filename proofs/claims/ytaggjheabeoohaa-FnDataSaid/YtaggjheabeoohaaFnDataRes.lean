/-
  The residual forms of the program's functions under the interpreter by value, printed by program (wip/pv/gen2.py); each equation is checked by the kernel.
  Conditions: none.
-/
import Derived.Test.YtaggjheabeoohaaVDef
import Derived.Test.YtaggjheabeoohaaProg
import Derived.KernelRfl
set_option linter.all false
set_option maxRecDepth 1000000
namespace Go.Proofs.Ytaggjheabeoohaa
open Go.Ev Go.Pv

theorem fuel_is : ∃ n : Nat, n = 4194304 := ⟨_, rfl⟩
noncomputable def fuelN : Nat := Classical.choose fuel_is
theorem fuelN_eq : fuelN = 4194304 := Classical.choose_spec fuel_is
def pvSig : FuncId → Sig
  | 6 => ⟨[(.ro, (.sl (.int .u8))), (.ro, (.sl (.int .u8)))], [(false, .bool)]⟩
  | 53 => ⟨[(.ro, (.sl (.int .u8))), (.ro, (.sl (.int .u8)))], [(false, .bool)]⟩
  | 54 => ⟨[(.ro, (.sl (.int .u8)))], [(false, (.int .i64))]⟩
  | 55 => ⟨[(.ro, (.int .i64))], [(false, .str), (false, .bool)]⟩
  | 56 => ⟨[(.ro, (.int .i64))], [(false, .str), (false, .bool)]⟩
  | 57 => ⟨[(.ro, .str)], [(false, (.int .i64)), (false, .bool)]⟩
  | 58 => ⟨[(.ro, (.sl (.int .u8)))], [(false, .str)]⟩
  | 59 => ⟨[(.ro, .str)], [(false, (.int .i64)), (false, .bool)]⟩
  | 60 => ⟨[(.ro, (.sl (.int .u8)))], [(false, (.pair (.int .i64) (.pair (.int .i64) (.pair (.int .i64) (.pair (.int .i64) (.pair (.int .i64) (.pair (.int .i64) (.pair (.int .i64) (.int .i64)))))))))]⟩
  | 61 => ⟨[(.ro, (.pair (.int .i64) (.pair (.int .i64) (.pair (.int .i64) (.pair (.int .i64) (.pair (.int .i64) (.pair (.int .i64) (.pair (.int .i64) (.int .i64)))))))))], [(true, (.sl (.pair (.int .i64) (.pair (.int .i64) (.pair .bool .str))))), (false, .bool)]⟩
  | 62 => ⟨[(.ro, (.pair (.int .i64) (.pair (.int .i64) (.pair (.int .i64) (.pair (.int .i64) (.pair (.int .i64) (.pair (.int .i64) (.pair (.int .i64) (.int .i64)))))))))], [(true, (.sl (.pair (.int .i64) (.pair (.int .i64) (.pair .bool .str))))), (false, .bool)]⟩
  | 63 => ⟨[(.ro, (.sl (.int .u8)))], [(false, (.pair (.int .i64) (.pair (.int .i64) (.pair (.int .i64) (.pair (.int .i64) (.int .i64))))))]⟩
  | 64 => ⟨[(.ro, (.pair (.int .i64) (.pair (.int .i64) (.pair (.int .i64) (.pair (.int .i64) (.int .i64))))))], [(true, (.sl (.pair (.int .i64) (.pair (.int .i64) (.pair .bool .str))))), (false, .bool)]⟩
  | 65 => ⟨[(.ro, (.pair (.int .i64) (.pair (.int .i64) (.pair (.int .i64) (.pair (.int .i64) (.int .i64))))))], [(true, (.sl (.pair (.int .i64) (.pair (.int .i64) (.pair .bool .str))))), (false, .bool)]⟩
  | 66 => ⟨[(.ro, (.sl (.pair (.int .i64) (.pair (.int .i64) (.pair .bool .str))))), (.ro, (.sl (.pair (.int .i64) (.pair (.int .i64) (.pair .bool .str)))))], [(false, .bool)]⟩
  | 67 => ⟨[(.ro, (.sl (.int .u8)))], [(false, .str), (false, .str)]⟩
  | 68 => ⟨[(.ro, .str), (.ro, .str)], [(false, (.int .i64)), (false, .bool)]⟩
  | 69 => ⟨[(.ro, .str), (.ro, .str)], [(false, (.int .i64)), (false, .bool)]⟩
  | 124 => ⟨[(.ps, (.pair (.sl (.int .u8)) (.pair (.int .i64) (.int .u64)))), (.ro, (.int .i64))], [(false, (.int .i64))]⟩
  | 125 => ⟨[(.ps, (.pair (.sl (.int .u8)) (.pair (.int .i64) (.int .u64)))), (.ro, (.int .i64))], [(false, .bool)]⟩
  | 141 => ⟨[(.ps, (.pair (.sl (.int .u8)) (.pair (.int .i64) (.int .u64)))), (.ro, (.sl (.int .i64)))], [(false, (.int .i64))]⟩
  | 142 => ⟨[(.ro, (.int .i64)), (.ro, (.int .i64)), (.ro, (.int .i64))], [(false, .bool)]⟩
  | 143 => ⟨[(.ro, (.int .i64)), (.ro, (.int .i64))], [(false, (.int .i64))]⟩
  | 170 => ⟨[(.ps, (.pair (.sl (.int .u8)) (.pair (.int .i64) (.int .u64))))], [(false, (.int .i64))]⟩
  | 171 => ⟨[(.ro, (.int .i64))], [(false, .bool)]⟩
  | 172 => ⟨[(.ro, (.int .i64))], [(false, .str)]⟩
  | 173 => ⟨[(.ro, (.int .i64))], [(false, .bool)]⟩
  | 174 => ⟨[(.ro, (.int .i64))], [(false, .str)]⟩
  | 175 => ⟨[(.ps, (.pair (.sl (.int .u8)) (.pair (.int .i64) (.int .u64)))), (.ro, (.sl .str))], [(false, .str)]⟩
  | 176 => ⟨[(.ro, .str)], [(false, (.int .i64))]⟩
  | 177 => ⟨[(.ps, (.pair (.sl (.int .u8)) (.pair (.int .i64) (.int .u64))))], [(false, (.pair .str (.pair (.os (.pair (.int .i64) (.pair (.int .i64) (.pair (.int .i64) (.pair (.int .i64) (.pair (.int .i64) (.pair (.int .i64) (.pair (.int .i64) (.int .i64))))))))) (.pair (.os (.pair (.int .i64) (.pair (.int .i64) (.pair (.int .i64) (.pair (.int .i64) (.int .i64)))))) (.int .i64)))))]⟩
  | 178 => ⟨[(.ro, (.sl (.int .i64)))], [(false, .bool)]⟩
  | 179 => ⟨[(.ro, (.pair (.int .i64) (.pair (.int .i64) (.pair (.int .i64) (.pair (.int .i64) (.pair (.int .i64) (.pair (.int .i64) (.pair (.int .i64) (.int .i64)))))))))], [(true, (.sl (.int .i64)))]⟩
  | 180 => ⟨[(.ro, (.int .i64)), (.ro, (.sl (.int .i64)))], [(true, (.sl (.pair (.int .i64) (.pair (.int .i64) (.pair .bool .str)))))]⟩
  | 181 => ⟨[(.ro, (.sl (.int .i64)))], [(false, .bool)]⟩
  | 182 => ⟨[(.ro, (.pair (.int .i64) (.pair (.int .i64) (.pair (.int .i64) (.pair (.int .i64) (.pair (.int .i64) (.pair (.int .i64) (.pair (.int .i64) (.int .i64)))))))))], [(true, (.sl (.int .i64)))]⟩
  | 183 => ⟨[(.ro, (.int .i64)), (.ro, (.sl (.int .i64)))], [(true, (.sl (.pair (.int .i64) (.pair (.int .i64) (.pair .bool .str)))))]⟩
  | 184 => ⟨[(.ro, (.pair (.int .i64) (.pair (.int .i64) (.pair (.int .i64) (.pair (.int .i64) (.int .i64))))))], [(true, (.sl (.int .i64)))]⟩
  | 185 => ⟨[(.ro, (.pair (.int .i64) (.pair (.int .i64) (.pair (.int .i64) (.pair (.int .i64) (.int .i64))))))], [(true, (.sl (.int .i64)))]⟩
  | 186 => ⟨[(.ro, (.pair .str (.pair (.sl (.pair (.int .i64) (.pair (.int .i64) (.pair (.int .i64) (.pair (.int .i64) (.pair (.int .i64) (.pair (.int .i64) (.pair (.int .i64) (.int .i64))))))))) (.pair (.sl (.pair (.int .i64) (.pair (.int .i64) (.pair (.int .i64) (.pair (.int .i64) (.int .i64)))))) (.int .i64)))))], [(false, .str)]⟩
  | 187 => ⟨[(.ps, (.pair (.sl (.int .u8)) (.pair (.int .i64) (.int .u64)))), (.ro, .str)], [(false, .str)]⟩
  | 188 => ⟨[(.ps, (.pair (.sl (.int .u8)) (.pair (.int .i64) (.int .u64)))), (.ro, (.int .i64))], [(false, .str)]⟩
  | 246 => ⟨[(.ro, (.sl (.pair (.int .i64) (.pair (.int .i64) (.pair .bool .str))))), (.ro, (.int .i64)), (.ro, (.int .i64))], [(false, .str)]⟩
  | 248 => ⟨[(.ro, (.int .i64))], [(false, .str)]⟩
  | 260 => ⟨[(.ps, (.pair (.sl (.int .u8)) (.pair (.int .i64) (.int .u64))))], [(false, (.int .i64))]⟩
  | 264 => ⟨[(.ro, (.sl (.int .i64))), (.ro, (.int .i64)), (.ro, (.int .i64))], [(false, .bool)]⟩
  | 265 => ⟨[(.ro, (.int .i64)), (.ro, (.int .i64))], [(false, (.int .i64))]⟩
  | 276 => ⟨[(.ro, (.int .i64))], [(false, .str)]⟩
  | 277 => ⟨[(.ro, .str), (.ro, (.int .i64))], [(false, (.int .i64))]⟩
  | 278 => ⟨[(.ps, (.pair (.sl (.int .u8)) (.pair (.int .i64) (.int .u64)))), (.ro, (.int .i64)), (.ro, .bool)], [(true, (.sl (.pair (.int .i64) (.pair (.int .i64) (.pair (.int .i64) (.pair (.int .i64) (.pair (.int .i64) (.pair (.int .i64) (.pair (.int .i64) (.int .i64))))))))))]⟩
  | 279 => ⟨[(.ro, (.sl (.pair (.int .i64) (.pair (.int .i64) (.pair (.int .i64) (.pair (.int .i64) (.pair (.int .i64) (.pair (.int .i64) (.pair (.int .i64) (.int .i64)))))))))), (.ro, (.pair (.int .i64) (.pair (.int .i64) (.pair (.int .i64) (.pair (.int .i64) (.pair (.int .i64) (.pair (.int .i64) (.pair (.int .i64) (.int .i64)))))))))], [(true, (.sl (.pair (.int .i64) (.pair (.int .i64) (.pair (.int .i64) (.pair (.int .i64) (.pair (.int .i64) (.pair (.int .i64) (.pair (.int .i64) (.int .i64))))))))))]⟩
  | 280 => ⟨[(.ro, (.pair .str (.pair (.sl (.pair (.int .i64) (.pair (.int .i64) (.pair (.int .i64) (.pair (.int .i64) (.pair (.int .i64) (.pair (.int .i64) (.pair (.int .i64) (.int .i64))))))))) (.pair (.sl (.pair (.int .i64) (.pair (.int .i64) (.pair (.int .i64) (.pair (.int .i64) (.int .i64)))))) (.int .i64)))))], [(true, (.sl (.int .i64)))]⟩
  | 281 => ⟨[(.ro, (.pair .str (.pair (.sl (.pair (.int .i64) (.pair (.int .i64) (.pair (.int .i64) (.pair (.int .i64) (.pair (.int .i64) (.pair (.int .i64) (.pair (.int .i64) (.int .i64))))))))) (.pair (.sl (.pair (.int .i64) (.pair (.int .i64) (.pair (.int .i64) (.pair (.int .i64) (.int .i64)))))) (.int .i64)))))], [(true, (.sl (.pair (.int .i64) (.pair (.int .i64) (.pair .bool .str)))))]⟩
  | 305 => ⟨[(.ro, (.sl (.pair (.int .i64) (.pair (.int .i64) (.pair .bool .str))))), (.ro, (.int .i64))], [(false, (.int .i64))]⟩
  | 306 => ⟨[(.ro, (.int .i64))], [(false, (.int .i64))]⟩
  | 308 => ⟨[(.ro, (.sl (.pair (.int .i64) (.pair (.int .i64) (.pair .bool .str))))), (.ro, (.int .i64))], [(false, .str)]⟩
  | 335 => ⟨[(.ro, (.pair .str (.pair (.sl (.pair (.int .i64) (.pair (.int .i64) (.pair (.int .i64) (.pair (.int .i64) (.pair (.int .i64) (.pair (.int .i64) (.pair (.int .i64) (.int .i64))))))))) (.pair (.sl (.pair (.int .i64) (.pair (.int .i64) (.pair (.int .i64) (.pair (.int .i64) (.int .i64)))))) (.int .i64))))), (.ro, (.int .i64))], [(false, .bool)]⟩
  | 352 => ⟨[(.ro, (.pair .str (.pair (.sl (.pair (.int .i64) (.pair (.int .i64) (.pair (.int .i64) (.pair (.int .i64) (.pair (.int .i64) (.pair (.int .i64) (.pair (.int .i64) (.int .i64))))))))) (.pair (.sl (.pair (.int .i64) (.pair (.int .i64) (.pair (.int .i64) (.pair (.int .i64) (.int .i64)))))) (.int .i64))))), (.ro, (.int .i64))], [(true, (.sl (.int .i64)))]⟩
  | _ => ⟨[], []⟩
def pvLoops : FuncId → Nat → LoopA
  | 66, 0 => ⟨[(4, false, .bool), (13, false, (.int .i64))], [], [], []⟩
  | 68, 0 => ⟨[(6, false, (.int .i64))], [], [], []⟩
  | 69, 0 => ⟨[(6, false, (.int .i64))], [], [], []⟩
  | 177, 0 => ⟨[(32, false, (.int .i64))], [(3, (.pair .str (.pair (.os (.pair (.int .i64) (.pair (.int .i64) (.pair (.int .i64) (.pair (.int .i64) (.pair (.int .i64) (.pair (.int .i64) (.pair (.int .i64) (.int .i64))))))))) (.pair (.os (.pair (.int .i64) (.pair (.int .i64) (.pair (.int .i64) (.pair (.int .i64) (.int .i64)))))) (.int .i64)))))], [], []⟩
  | 177, 1 => ⟨[(46, false, (.int .i64))], [(0, (.pair (.sl (.int .u8)) (.pair (.int .i64) (.int .u64)))), (3, (.pair .str (.pair (.os (.pair (.int .i64) (.pair (.int .i64) (.pair (.int .i64) (.pair (.int .i64) (.pair (.int .i64) (.pair (.int .i64) (.pair (.int .i64) (.int .i64))))))))) (.pair (.os (.pair (.int .i64) (.pair (.int .i64) (.pair (.int .i64) (.pair (.int .i64) (.int .i64)))))) (.int .i64)))))], [], []⟩
  | 177, 2 => ⟨[(11, false, (.int .i64)), (12, false, (.int .i64))], [(0, (.pair (.sl (.int .u8)) (.pair (.int .i64) (.int .u64)))), (3, (.pair .str (.pair (.os (.pair (.int .i64) (.pair (.int .i64) (.pair (.int .i64) (.pair (.int .i64) (.pair (.int .i64) (.pair (.int .i64) (.pair (.int .i64) (.int .i64))))))))) (.pair (.os (.pair (.int .i64) (.pair (.int .i64) (.pair (.int .i64) (.pair (.int .i64) (.int .i64)))))) (.int .i64)))))], [], []⟩
  | 177, 3 => ⟨[(11, false, (.int .i64)), (14, false, (.int .i64))], [(3, (.pair .str (.pair (.os (.pair (.int .i64) (.pair (.int .i64) (.pair (.int .i64) (.pair (.int .i64) (.pair (.int .i64) (.pair (.int .i64) (.pair (.int .i64) (.int .i64))))))))) (.pair (.os (.pair (.int .i64) (.pair (.int .i64) (.pair (.int .i64) (.pair (.int .i64) (.int .i64)))))) (.int .i64)))))], [], []⟩
  | 178, 0 => ⟨[(2, false, .bool), (7, false, (.int .i64))], [], [], []⟩
  | 180, 0 => ⟨[(5, true, (.sl (.pair (.int .i64) (.pair (.int .i64) (.pair .bool .str))))), (13, false, (.int .i64))], [], [], []⟩
  | 183, 0 => ⟨[(5, true, (.sl (.pair (.int .i64) (.pair (.int .i64) (.pair .bool .str))))), (13, false, (.int .i64))], [], [], []⟩
  | 188, 0 => ⟨[(5, false, .str)], [], [], []⟩
  | 246, 0 => ⟨[(7, false, .str), (8, false, (.int .i64))], [], [], []⟩
  | 264, 0 => ⟨[(6, false, .bool), (11, false, (.int .i64))], [], [], []⟩
  | 278, 0 => ⟨[(7, true, (.sl (.pair (.int .i64) (.pair (.int .i64) (.pair (.int .i64) (.pair (.int .i64) (.pair (.int .i64) (.pair (.int .i64) (.pair (.int .i64) (.int .i64)))))))))), (8, true, (.sl (.int .i64))), (9, true, (.sl (.int .i64)))], [(0, (.pair (.sl (.int .u8)) (.pair (.int .i64) (.int .u64))))], [], []⟩
  | 278, 1 => ⟨[(11, false, (.int .i64)), (50, false, (.int .i64))], [], [], []⟩
  | 278, 2 => ⟨[(107, false, (.int .i64))], [(0, (.pair (.sl (.int .u8)) (.pair (.int .i64) (.int .u64))))], [(7, (.pair (.int .i64) (.pair (.int .i64) (.pair (.int .i64) (.pair (.int .i64) (.pair (.int .i64) (.pair (.int .i64) (.pair (.int .i64) (.int .i64)))))))))], []⟩
  | 278, 3 => ⟨[(133, false, (.int .i64))], [(0, (.pair (.sl (.int .u8)) (.pair (.int .i64) (.int .u64))))], [(7, (.pair (.int .i64) (.pair (.int .i64) (.pair (.int .i64) (.pair (.int .i64) (.pair (.int .i64) (.pair (.int .i64) (.pair (.int .i64) (.int .i64)))))))))], []⟩
  | 279, 0 => ⟨[(5, false, (.int .i64))], [], [], []⟩
  | 280, 0 => ⟨[(3, true, (.sl (.int .i64))), (8, false, (.int .i64))], [], [], []⟩
  | 281, 0 => ⟨[(3, true, (.sl (.pair (.int .i64) (.pair (.int .i64) (.pair .bool .str))))), (20, false, (.int .i64))], [], [], []⟩
  | 281, 1 => ⟨[(3, true, (.sl (.pair (.int .i64) (.pair (.int .i64) (.pair .bool .str))))), (33, false, (.int .i64))], [], [], []⟩
  | 305, 0 => ⟨[(5, false, (.int .i64))], [], [], []⟩
  | 308, 0 => ⟨[(8, false, .str)], [], [], []⟩
  | 352, 0 => ⟨[(5, true, (.sl (.int .i64))), (11, false, (.int .i64))], [], [], []⟩
  | _, _ => ⟨[], [], [], []⟩
def pvEloops : FuncId → Nat → List (Nat × Value)
  | 66, 0 => [(0, (.slice none 0 0)), (1, (.slice none 0 0)), (4, (.bool false)), (12, (.int .i64 0)), (13, (.int .i64 0))]
  | 68, 0 => [(0, (.string ⟨#[]⟩)), (1, (.string ⟨#[]⟩)), (4, (.int .i64 0)), (5, (.bool false)), (6, (.int .i64 0))]
  | 69, 0 => [(0, (.string ⟨#[]⟩)), (1, (.string ⟨#[]⟩)), (4, (.int .i64 0)), (5, (.bool false)), (6, (.int .i64 0))]
  | 177, 0 => [(0, (.pointer (some ⟨0, 0, none⟩))), (2, (.pointer (some ⟨0, 0, none⟩))), (3, (.pointer (some ⟨0, 0, none⟩))), (30, (.slice none 0 0)), (31, (.int .i64 0)), (32, (.int .i64 0))]
  | 177, 1 => [(0, (.pointer (some ⟨0, 0, none⟩))), (2, (.pointer (some ⟨0, 0, none⟩))), (3, (.pointer (some ⟨0, 0, none⟩))), (8, (.slice none 0 0)), (44, (.slice none 0 0)), (45, (.int .i64 0)), (46, (.int .i64 0))]
  | 177, 2 => [(0, (.pointer (some ⟨0, 0, none⟩))), (2, (.pointer (some ⟨0, 0, none⟩))), (3, (.pointer (some ⟨0, 0, none⟩))), (8, (.slice none 0 0)), (11, (.int .i64 0)), (12, (.int .i64 0))]
  | 177, 3 => [(0, (.pointer (some ⟨0, 0, none⟩))), (2, (.pointer (some ⟨0, 0, none⟩))), (3, (.pointer (some ⟨0, 0, none⟩))), (8, (.slice none 0 0)), (11, (.int .i64 0)), (14, (.int .i64 0))]
  | 178, 0 => [(2, (.bool false)), (5, (.slice none 0 0)), (6, (.int .i64 0)), (7, (.int .i64 0))]
  | 180, 0 => [(4, (.slice none 0 0)), (5, (.slice none 0 0)), (11, (.slice none 0 0)), (12, (.int .i64 0)), (13, (.int .i64 0))]
  | 183, 0 => [(4, (.slice none 0 0)), (5, (.slice none 0 0)), (11, (.slice none 0 0)), (12, (.int .i64 0)), (13, (.int .i64 0))]
  | 188, 0 => [(1, (.int .i64 0)), (4, (.string ⟨#[]⟩)), (5, (.string ⟨#[]⟩))]
  | 246, 0 => [(0, (.slice none 0 0)), (2, (.int .i64 0)), (6, (.string ⟨#[]⟩)), (7, (.string ⟨#[]⟩)), (8, (.int .i64 0))]
  | 264, 0 => [(1, (.int .i64 0)), (2, (.int .i64 0)), (6, (.bool false)), (9, (.slice none 0 0)), (10, (.int .i64 0)), (11, (.int .i64 0))]
  | 278, 0 => [(0, (.pointer (some ⟨0, 0, none⟩))), (1, (.int .i64 0)), (2, (.bool false)), (6, (.slice none 0 0)), (7, (.slice none 0 0)), (8, (.slice none 0 0)), (9, (.slice none 0 0))]
  | 278, 1 => [(0, (.pointer (some ⟨0, 0, none⟩))), (1, (.int .i64 0)), (2, (.bool false)), (6, (.slice none 0 0)), (7, (.slice none 0 0)), (8, (.slice none 0 0)), (9, (.slice none 0 0)), (10, (.int .i64 0)), (11, (.int .i64 0)), (26, (.slice none 0 0)), (27, (.int .i64 0)), (28, (.int .i64 0)), (29, (.bool false)), (30, (.pointer (some ⟨0, 0, none⟩))), (31, (.slice none 0 0)), (32, (.int .i64 0)), (33, (.int .i64 0)), (34, (.bool false)), (38, (.slice none 0 0)), (39, (.int .i64 0)), (40, (.pointer (some ⟨0, 0, none⟩))), (41, (.int .i64 0)), (42, (.bool false)), (43, (.slice none 0 0)), (44, (.int .i64 0)), (45, (.pointer (some ⟨0, 0, none⟩))), (46, (.pointer (some ⟨0, 0, none⟩))), (47, (.int .i64 0)), (48, (.slice none 0 0)), (49, (.int .i64 0)), (50, (.int .i64 0))]
  | 278, 2 => [(0, (.pointer (some ⟨0, 0, none⟩))), (6, (.slice none 0 0)), (7, (.slice none 0 0)), (8, (.slice none 0 0)), (15, (.int .i64 0)), (16, (.int .i64 0)), (106, (.int .i64 0)), (107, (.int .i64 0))]
  | 278, 3 => [(0, (.pointer (some ⟨0, 0, none⟩))), (6, (.slice none 0 0)), (7, (.slice none 0 0)), (8, (.slice none 0 0)), (132, (.int .i64 0)), (133, (.int .i64 0))]
  | 279, 0 => [(0, (.slice none 0 0)), (3, (.pointer (some ⟨0, 0, none⟩))), (4, (.slice none 0 0)), (5, (.int .i64 0))]
  | 280, 0 => [(1, (.pointer (some ⟨0, 0, none⟩))), (2, (.slice none 0 0)), (3, (.slice none 0 0)), (7, (.int .i64 0)), (8, (.int .i64 0))]
  | 281, 0 => [(1, (.pointer (some ⟨0, 0, none⟩))), (2, (.slice none 0 0)), (3, (.slice none 0 0)), (18, (.slice none 0 0)), (19, (.int .i64 0)), (20, (.int .i64 0))]
  | 281, 1 => [(2, (.slice none 0 0)), (3, (.slice none 0 0)), (31, (.slice none 0 0)), (32, (.int .i64 0)), (33, (.int .i64 0))]
  | 305, 0 => [(0, (.slice none 0 0)), (1, (.int .i64 0)), (4, (.int .i64 0)), (5, (.int .i64 0))]
  | 308, 0 => [(4, (.string ⟨#[]⟩)), (7, (.int .i64 0)), (8, (.string ⟨#[]⟩))]
  | 352, 0 => [(1, (.int .i64 0)), (2, (.pointer (some ⟨0, 0, none⟩))), (4, (.slice none 0 0)), (5, (.slice none 0 0)), (9, (.slice none 0 0)), (10, (.int .i64 0)), (11, (.int .i64 0))]
  | _, _ => []
def pvInline : FuncId → Bool
  | 131 => true
  | 132 => true
  | 263 => true
  | 292 => true
  | 293 => true
  | 298 => true
  | 318 => true
  | 319 => true
  | 336 => true
  | 337 => true
  | 338 => true
  | 339 => true
  | 342 => true
  | 353 => true
  | 354 => true
  | _ => false
noncomputable def pvAnn : AnnV := ⟨fuelN, pvSig, pvLoops, pvEloops, pvInline⟩

/-- loop.example/g00838/laws.big -/
noncomputable def g53 (d : Nat) (l1 : List Int) (l2 : List Int) : Option Bool := (lev Try.prog pvAnn d).call 53 (l1, l2)
/-- (*loop.example/g00838/spec.l1Cur).next -/
noncomputable def g260 (d : Nat) (x1 : ((List Int) × Int × Int)) : Option (Int × ((List Int) × Int × Int)) := (lev Try.prog pvAnn d).call 260 (x1)
/-- (*loop.example/g00838/spec.l1Cur).pick -/
noncomputable def g124 (d : Nat) (x1 : ((List Int) × Int × Int)) (n2 : Int) : Option (Int × ((List Int) × Int × Int)) := (lev Try.prog pvAnn d).call 124 (x1, n2)
/-- (*loop.example/g00838/spec.l1Cur).among -/
noncomputable def g141 (d : Nat) (x1 : ((List Int) × Int × Int)) (l2 : List Int) : Option (Int × ((List Int) × Int × Int)) := (lev Try.prog pvAnn d).call 141 (x1, l2)
/-- (*loop.example/g00838/spec.l1Cur).value -/
noncomputable def g170 (d : Nat) (x1 : ((List Int) × Int × Int)) : Option (Int × ((List Int) × Int × Int)) := (lev Try.prog pvAnn d).call 170 (x1)
/-- loop.example/g00838/spec.DrawNumberData -/
noncomputable def g54 (d : Nat) (l1 : List Int) : Option Int := (lev Try.prog pvAnn d).call 54 (l1)
/-- loop.example/g00838/impl.isValue -/
noncomputable def g171 (d : Nat) (n1 : Int) : Option Bool := (lev Try.prog pvAnn d).call 171 (n1)
/-- loop.example/g00838/impl.littleBytes -/
noncomputable def g276 (d : Nat) (n1 : Int) : Option ByteArray := (lev Try.prog pvAnn d).call 276 (n1)
/-- loop.example/g00838/impl.numberData -/
noncomputable def g172 (d : Nat) (n1 : Int) : Option ByteArray := (lev Try.prog pvAnn d).call 172 (n1)
/-- loop.example/g00838/impl.NumberData -/
noncomputable def g55 (d : Nat) (n1 : Int) : Option (ByteArray × Bool) := (lev Try.prog pvAnn d).call 55 (n1)
/-- loop.example/g00838/spec.l1In -/
noncomputable def g142 (d : Nat) (n1 : Int) (n2 : Int) (n3 : Int) : Option Bool := (lev Try.prog pvAnn d).call 142 (n1, n2, n3)
/-- loop.example/g00838/spec.nuValue -/
noncomputable def g173 (d : Nat) (n1 : Int) : Option Bool := (lev Try.prog pvAnn d).call 173 (n1)
/-- loop.example/g00838/spec.tvWord -/
noncomputable def g248 (d : Nat) (n1 : Int) : Option ByteArray := (lev Try.prog pvAnn d).call 248 (n1)
/-- loop.example/g00838/spec.enData -/
noncomputable def g174 (d : Nat) (n1 : Int) : Option ByteArray := (lev Try.prog pvAnn d).call 174 (n1)
/-- loop.example/g00838/spec.NumberData -/
noncomputable def g56 (d : Nat) (n1 : Int) : Option (ByteArray × Bool) := (lev Try.prog pvAnn d).call 56 (n1)
/-- loop.example/g00838/impl.ReadData -/
noncomputable def g57 (d : Nat) (s1 : ByteArray) : Option (Int × Bool) := (lev Try.prog pvAnn d).call 57 (s1)
/-- loop.example/g00838/spec.l1Most -/
noncomputable def g143 (d : Nat) (n1 : Int) (n2 : Int) : Option Int := (lev Try.prog pvAnn d).call 143 (n1, n2)
/-- (*loop.example/g00838/spec.l1Cur).of -/
noncomputable def g175 (d : Nat) (x1 : ((List Int) × Int × Int)) (l2 : List ByteArray) : Option (ByteArray × ((List Int) × Int × Int)) := (lev Try.prog pvAnn d).call 175 (x1, l2)
/-- loop.example/g00838/spec.DrawReadData -/
noncomputable def g58 (d : Nat) (l1 : List Int) : Option ByteArray := (lev Try.prog pvAnn d).call 58 (l1)
/-- loop.example/g00838/spec.tvRead -/
noncomputable def g277 (d : Nat) (s1 : ByteArray) (n2 : Int) : Option Int := (lev Try.prog pvAnn d).call 277 (s1, n2)
/-- loop.example/g00838/spec.enRead -/
noncomputable def g176 (d : Nat) (s1 : ByteArray) : Option Int := (lev Try.prog pvAnn d).call 176 (s1)
/-- loop.example/g00838/spec.ReadData -/
noncomputable def g59 (d : Nat) (s1 : ByteArray) : Option (Int × Bool) := (lev Try.prog pvAnn d).call 59 (s1)
/-- (*loop.example/g00838/spec.l1Cur).one -/
noncomputable def g125 (d : Nat) (x1 : ((List Int) × Int × Int)) (n2 : Int) : Option (Bool × ((List Int) × Int × Int)) := (lev Try.prog pvAnn d).call 125 (x1, n2)
/-- loop.example/g00838/spec.l1Least -/
noncomputable def g265 (d : Nat) (n1 : Int) (n2 : Int) : Option Int := (lev Try.prog pvAnn d).call 265 (n1, n2)
/-- (*loop.example/g00838/spec.l1Cur).classes -/
noncomputable def g278 (d : Nat) (x1 : ((List Int) × Int × Int)) (n2 : Int) (b3 : Bool) : Option ((List (Int × Int × Int × Int × Int × Int × Int × Int)) × ((List Int) × Int × Int)) := (lev Try.prog pvAnn d).call 278 (x1, n2, b3)
/-- loop.example/g00838/spec.cfPut -/
noncomputable def g279 (d : Nat) (l1 : List (Int × Int × Int × Int × Int × Int × Int × Int)) (x2 : (Int × Int × Int × Int × Int × Int × Int × Int)) : Option (List (Int × Int × Int × Int × Int × Int × Int × Int)) := (lev Try.prog pvAnn d).call 279 (l1, x2)
/-- loop.example/g00838/spec.cfKids -/
noncomputable def g352 (d : Nat) (x1 : (ByteArray × (List (Int × Int × Int × Int × Int × Int × Int × Int)) × (List (Int × Int × Int × Int × Int)) × Int)) (n2 : Int) : Option (List Int) := (lev Try.prog pvAnn d).call 352 (x1, n2)
/-- loop.example/g00838/spec.cfLeaf -/
noncomputable def g335 (d : Nat) (x1 : (ByteArray × (List (Int × Int × Int × Int × Int × Int × Int × Int)) × (List (Int × Int × Int × Int × Int)) × Int)) (n2 : Int) : Option Bool := (lev Try.prog pvAnn d).call 335 (x1, n2)
/-- loop.example/g00838/spec.cfLeaves -/
noncomputable def g280 (d : Nat) (x1 : (ByteArray × (List (Int × Int × Int × Int × Int × Int × Int × Int)) × (List (Int × Int × Int × Int × Int)) × Int)) : Option (List Int) := (lev Try.prog pvAnn d).call 280 (x1)
/-- (*loop.example/g00838/spec.l1Cur).config -/
noncomputable def g177 (d : Nat) (x1 : ((List Int) × Int × Int)) : Option ((ByteArray × (List (Int × Int × Int × Int × Int × Int × Int × Int)) × (List (Int × Int × Int × Int × Int)) × Int) × ((List Int) × Int × Int)) := (lev Try.prog pvAnn d).call 177 (x1)
/-- loop.example/g00838/spec.DrawClassAttrs -/
noncomputable def g60 (d : Nat) (l1 : List Int) : Option (Int × Int × Int × Int × Int × Int × Int × Int) := (lev Try.prog pvAnn d).call 60 (l1)
/-- loop.example/g00838/impl.areValues -/
noncomputable def g178 (d : Nat) (l1 : List Int) : Option Bool := (lev Try.prog pvAnn d).call 178 (l1)
/-- loop.example/g00838/impl.classNumbers -/
noncomputable def g179 (d : Nat) (x1 : (Int × Int × Int × Int × Int × Int × Int × Int)) : Option (List Int) := (lev Try.prog pvAnn d).call 179 (x1)
/-- loop.example/g00838/impl.partAttrs -/
noncomputable def g180 (d : Nat) (n1 : Int) (l2 : List Int) : Option (List (Int × Int × Bool × ByteArray)) := (lev Try.prog pvAnn d).call 180 (n1, l2)
/-- loop.example/g00838/impl.ClassAttrs -/
noncomputable def g61 (d : Nat) (x1 : (Int × Int × Int × Int × Int × Int × Int × Int)) : Option ((List (Int × Int × Bool × ByteArray)) × Bool) := (lev Try.prog pvAnn d).call 61 (x1)
/-- loop.example/g00838/spec.l1All -/
noncomputable def g264 (d : Nat) (l1 : List Int) (n2 : Int) (n3 : Int) : Option Bool := (lev Try.prog pvAnn d).call 264 (l1, n2, n3)
/-- loop.example/g00838/spec.enValues -/
noncomputable def g181 (d : Nat) (l1 : List Int) : Option Bool := (lev Try.prog pvAnn d).call 181 (l1)
/-- loop.example/g00838/spec.enNumbers -/
noncomputable def g182 (d : Nat) (x1 : (Int × Int × Int × Int × Int × Int × Int × Int)) : Option (List Int) := (lev Try.prog pvAnn d).call 182 (x1)
/-- loop.example/g00838/spec.enItem -/
noncomputable def g183 (d : Nat) (n1 : Int) (l2 : List Int) : Option (List (Int × Int × Bool × ByteArray)) := (lev Try.prog pvAnn d).call 183 (n1, l2)
/-- loop.example/g00838/spec.ClassAttrs -/
noncomputable def g62 (d : Nat) (x1 : (Int × Int × Int × Int × Int × Int × Int × Int)) : Option ((List (Int × Int × Bool × ByteArray)) × Bool) := (lev Try.prog pvAnn d).call 62 (x1)
/-- loop.example/g00838/spec.DrawFilterAttrs -/
noncomputable def g63 (d : Nat) (l1 : List Int) : Option (Int × Int × Int × Int × Int) := (lev Try.prog pvAnn d).call 63 (l1)
/-- loop.example/g00838/impl.filterNumbers -/
noncomputable def g184 (d : Nat) (x1 : (Int × Int × Int × Int × Int)) : Option (List Int) := (lev Try.prog pvAnn d).call 184 (x1)
/-- loop.example/g00838/impl.FilterAttrs -/
noncomputable def g64 (d : Nat) (x1 : (Int × Int × Int × Int × Int)) : Option ((List (Int × Int × Bool × ByteArray)) × Bool) := (lev Try.prog pvAnn d).call 64 (x1)
/-- loop.example/g00838/spec.enFilter -/
noncomputable def g185 (d : Nat) (x1 : (Int × Int × Int × Int × Int)) : Option (List Int) := (lev Try.prog pvAnn d).call 185 (x1)
/-- loop.example/g00838/spec.FilterAttrs -/
noncomputable def g65 (d : Nat) (x1 : (Int × Int × Int × Int × Int)) : Option ((List (Int × Int × Bool × ByteArray)) × Bool) := (lev Try.prog pvAnn d).call 65 (x1)
/-- loop.example/g00838/laws.pSameAttrs -/
noncomputable def g66 (d : Nat) (l1 : List (Int × Int × Bool × ByteArray)) (l2 : List (Int × Int × Bool × ByteArray)) : Option Bool := (lev Try.prog pvAnn d).call 66 (l1, l2)
/-- loop.example/g00838/spec.tvEnd -/
noncomputable def g305 (d : Nat) (l1 : List (Int × Int × Bool × ByteArray)) (n2 : Int) : Option Int := (lev Try.prog pvAnn d).call 305 (l1, n2)
/-- loop.example/g00838/spec.tvPad -/
noncomputable def g306 (d : Nat) (n1 : Int) : Option Int := (lev Try.prog pvAnn d).call 306 (n1)
/-- loop.example/g00838/spec.tvOne -/
noncomputable def g308 (d : Nat) (l1 : List (Int × Int × Bool × ByteArray)) (n2 : Int) : Option ByteArray := (lev Try.prog pvAnn d).call 308 (l1, n2)
/-- loop.example/g00838/spec.tvAll -/
noncomputable def g246 (d : Nat) (l1 : List (Int × Int × Bool × ByteArray)) (n2 : Int) (n3 : Int) : Option ByteArray := (lev Try.prog pvAnn d).call 246 (l1, n2, n3)
/-- loop.example/g00838/spec.enAttrs -/
noncomputable def g281 (d : Nat) (x1 : (ByteArray × (List (Int × Int × Int × Int × Int × Int × Int × Int)) × (List (Int × Int × Int × Int × Int)) × Int)) : Option (List (Int × Int × Bool × ByteArray)) := (lev Try.prog pvAnn d).call 281 (x1)
/-- loop.example/g00838/spec.enText -/
noncomputable def g186 (d : Nat) (x1 : (ByteArray × (List (Int × Int × Int × Int × Int × Int × Int × Int)) × (List (Int × Int × Int × Int × Int)) × Int)) : Option ByteArray := (lev Try.prog pvAnn d).call 186 (x1)
/-- (*loop.example/g00838/spec.l1Cur).bent -/
noncomputable def g187 (d : Nat) (x1 : ((List Int) × Int × Int)) (s2 : ByteArray) : Option (ByteArray × ((List Int) × Int × Int)) := (lev Try.prog pvAnn d).call 187 (x1, s2)
/-- (*loop.example/g00838/spec.l1Cur).long -/
noncomputable def g188 (d : Nat) (x1 : ((List Int) × Int × Int)) (n2 : Int) : Option (ByteArray × ((List Int) × Int × Int)) := (lev Try.prog pvAnn d).call 188 (x1, n2)
/-- loop.example/g00838/spec.DrawFirstByteApart -/
noncomputable def g67 (d : Nat) (l1 : List Int) : Option (ByteArray × ByteArray) := (lev Try.prog pvAnn d).call 67 (l1)
/-- loop.example/g00838/impl.FirstByteApart -/
noncomputable def g68 (d : Nat) (s1 : ByteArray) (s2 : ByteArray) : Option (Int × Bool) := (lev Try.prog pvAnn d).call 68 (s1, s2)
/-- loop.example/g00838/spec.FirstByteApart -/
noncomputable def g69 (d : Nat) (s1 : ByteArray) (s2 : ByteArray) : Option (Int × Bool) := (lev Try.prog pvAnn d).call 69 (s1, s2)
/-- loop.example/g00838/laws.FnData -/
noncomputable def g6 (d : Nat) (l1 : List Int) (l2 : List Int) : Option Bool := (lev Try.prog pvAnn d).call 6 (l1, l2)

theorem e53 (d : Nat) (l1 : List Int) (l2 : List Int) : g53 (d + 1) l1 l2 =
 oif (decide ((((l1.length : Nat) : Int) : Int) > 1048576)) (
 some true) (
 some (decide ((((l2.length : Nat) : Int) : Int) > (IntKind.i64.wrap ((1048576 : Int) - ((l1.length : Nat) : Int)))))) := by kernel_rfl

noncomputable def j260_0 (d : Nat) (x1 : ((List Int) × Int × Int)) (n2 : Int) : Option (Int × ((List Int) × Int × Int)) :=
 oif (decide (((IntKind.i64.wrap (x1.2.1 + 1)) : Int) ≤ ((x1.1.length : Nat) : Int))) (
 some (n2, (x1.1, (IntKind.i64.wrap (x1.2.1 + 1)), (IntKind.u64.wrap ((IntKind.u64.wrap ((IntKind.u64.wrap (x1.2.2 * 6364136223846793005)) + (IntKind.u64.wrap n2))) + 1442695040888963407))))) (
 some ((IntKind.i64.wrap (IntKind.u64.wrap ((BitVec.ofInt IntKind.u64.bits ((IntKind.u64.wrap ((IntKind.u64.wrap ((IntKind.u64.wrap (x1.2.2 * 6364136223846793005)) + (IntKind.u64.wrap n2))) + 1442695040888963407)).fdiv (2 ^ (min (40 : Int).toNat IntKind.u64.bits))) &&& BitVec.ofInt IntKind.u64.bits 255).toNat : Int))), (x1.1, (IntKind.i64.wrap (x1.2.1 + 1)), (IntKind.u64.wrap ((IntKind.u64.wrap ((IntKind.u64.wrap (x1.2.2 * 6364136223846793005)) + (IntKind.u64.wrap n2))) + 1442695040888963407)))))
theorem e260 (d : Nat) (x1 : ((List Int) × Int × Int)) : g260 (d + 1) x1 =
 oif (decide ((x1.2.1 : Int) < ((x1.1.length : Nat) : Int))) (
 oif (decide (0 ≤ (x1.2.1 : Int))) (
 obind (x1.1[(x1.2.1 : Int).toNat]?) fun n2 =>
 j260_0 d x1 (IntKind.i64.wrap n2)) none) (
 j260_0 d x1 0) := by kernel_rfl

theorem e124 (d : Nat) (x1 : ((List Int) × Int × Int)) (n2 : Int) : g124 (d + 1) x1 n2 =
 oif (decide ((n2 : Int) ≤ 1)) (
 some (0, x1)) (
 obind (g260 d x1) fun r3 =>
 oif (decide ((n2 : Int) > 200)) (
 obind (g260 d r3.2) fun r4 =>
 oif ((n2 : Int) == 0) none (
 some (((IntKind.i64.wrap ((IntKind.i64.wrap (r3.1 * 256)) + r4.1)).tmod n2), r4.2))) (
 oif ((n2 : Int) == 0) none (
 some ((r3.1.tmod n2), r3.2)))) := by kernel_rfl

theorem e141 (d : Nat) (x1 : ((List Int) × Int × Int)) (l2 : List Int) : g141 (d + 1) x1 l2 =
 obind (g124 d x1 ((l2.length : Nat) : Int)) fun r3 =>
 oif (decide (0 ≤ (r3.1 : Int))) (
 obind (l2[(r3.1 : Int).toNat]?) fun n4 =>
 some (n4, r3.2)) none := by kernel_rfl

theorem e170 (d : Nat) (x1 : ((List Int) × Int × Int)) : g170 (d + 1) x1 =
 obind (g124 d x1 400) fun r2 =>
 obind (g124 d r2.2 60000) fun r3 =>
 obind (g124 d r3.2 400) fun r4 =>
 obind (g141 d r4.2 [1000000001, (-1)]) fun r5 =>
 obind (g141 d r5.2 [0, 1, 5, 999, 1000, 1500, 64000, 1000000, 2500000, 999999999, 1000000000, r2.1, r3.1, (IntKind.i64.wrap ((1000 : Int) * r4.1)), r5.1]) fun r6 =>
 some (r6.1, r6.2) := by kernel_rfl

theorem e54 (d : Nat) (l1 : List Int) : g54 (d + 1) l1 =
 obind (g170 d (l1, 0, 0)) fun r2 =>
 some r2.1 := by kernel_rfl

theorem e171 (d : Nat) (n1 : Int) : g171 (d + 1) n1 =
 oif (decide ((n1 : Int) ≥ 0)) (
 some (decide ((n1 : Int) ≤ 1000000000))) (
 some false) := by kernel_rfl

theorem e276 (d : Nat) (n1 : Int) : g276 (d + 1) n1 =
 some (strL [(IntKind.u8.wrap n1), (IntKind.u8.wrap (n1.fdiv (2 ^ (min (8 : Int).toNat IntKind.i64.bits))))]) := by kernel_rfl

theorem e172 (d : Nat) (n1 : Int) : g172 (d + 1) n1 =
 obind (g276 d n1) fun r2 =>
 obind (g276 d (n1.fdiv (2 ^ (min (16 : Int).toNat IntKind.i64.bits)))) fun r3 =>
 oif (Nat.ble ((r2 : ByteArray).size + (r3 : ByteArray).size) 9223372036854775807) (
 some ((r2 : ByteArray) ++ (r3 : ByteArray))) none := by kernel_rfl

theorem e55 (d : Nat) (n1 : Int) : g55 (d + 1) n1 =
 obind (g171 d n1) fun r2 =>
 oif (!r2) (
 some ((⟨#[]⟩ : ByteArray), false)) (
 obind (g172 d n1) fun r3 =>
 some (r3, true)) := by kernel_rfl

theorem e142 (d : Nat) (n1 : Int) (n2 : Int) (n3 : Int) : g142 (d + 1) n1 n2 n3 =
 oif (decide ((n1 : Int) ≥ n2)) (
 some (decide ((n1 : Int) ≤ n3))) (
 some false) := by kernel_rfl

theorem e173 (d : Nat) (n1 : Int) : g173 (d + 1) n1 =
 obind (g142 d n1 0 1000000000) fun r2 =>
 some r2 := by kernel_rfl

theorem e248 (d : Nat) (n1 : Int) : g248 (d + 1) n1 =
 some (strL [(IntKind.u8.wrap (n1.tmod 256)), (IntKind.u8.wrap (IntKind.i64.wrap (n1.tdiv 256)))]) := by kernel_rfl

theorem e174 (d : Nat) (n1 : Int) : g174 (d + 1) n1 =
 obind (g248 d (n1.tmod 65536)) fun r2 =>
 obind (g248 d (IntKind.i64.wrap (n1.tdiv 65536))) fun r3 =>
 oif (Nat.ble ((r2 : ByteArray).size + (r3 : ByteArray).size) 9223372036854775807) (
 some ((r2 : ByteArray) ++ (r3 : ByteArray))) none := by kernel_rfl

theorem e56 (d : Nat) (n1 : Int) : g56 (d + 1) n1 =
 obind (g173 d n1) fun r2 =>
 oif (!r2) (
 some ((⟨#[]⟩ : ByteArray), false)) (
 obind (g174 d n1) fun r3 =>
 some (r3, true)) := by kernel_rfl

theorem e57 (d : Nat) (s1 : ByteArray) : g57 (d + 1) s1 =
 oif ((((s1 : ByteArray).size : Int) : Int) != 4) (
 some (0, false)) (
 obind ((s1 : ByteArray).data.toList[0]?) fun c2 =>
 obind ((s1 : ByteArray).data.toList[1]?) fun c3 =>
 obind ((s1 : ByteArray).data.toList[2]?) fun c4 =>
 obind ((s1 : ByteArray).data.toList[3]?) fun c5 =>
 oif (decide (((IntKind.i64.wrap ((BitVec.ofInt IntKind.i64.bits (IntKind.i64.wrap ((BitVec.ofInt IntKind.i64.bits (IntKind.i64.wrap ((BitVec.ofInt IntKind.i64.bits (IntKind.i64.wrap (c2.toNat : Int)) ||| BitVec.ofInt IntKind.i64.bits (IntKind.i64.wrap ((IntKind.i64.wrap (c3.toNat : Int)) * 2 ^ (min (8 : Int).toNat IntKind.i64.bits)))).toNat : Int)) ||| BitVec.ofInt IntKind.i64.bits (IntKind.i64.wrap ((IntKind.i64.wrap (c4.toNat : Int)) * 2 ^ (min (16 : Int).toNat IntKind.i64.bits)))).toNat : Int)) ||| BitVec.ofInt IntKind.i64.bits (IntKind.i64.wrap ((IntKind.i64.wrap (c5.toNat : Int)) * 2 ^ (min (24 : Int).toNat IntKind.i64.bits)))).toNat : Int)) : Int) > 1000000000)) (
 some (0, false)) (
 some ((IntKind.i64.wrap ((BitVec.ofInt IntKind.i64.bits (IntKind.i64.wrap ((BitVec.ofInt IntKind.i64.bits (IntKind.i64.wrap ((BitVec.ofInt IntKind.i64.bits (IntKind.i64.wrap (c2.toNat : Int)) ||| BitVec.ofInt IntKind.i64.bits (IntKind.i64.wrap ((IntKind.i64.wrap (c3.toNat : Int)) * 2 ^ (min (8 : Int).toNat IntKind.i64.bits)))).toNat : Int)) ||| BitVec.ofInt IntKind.i64.bits (IntKind.i64.wrap ((IntKind.i64.wrap (c4.toNat : Int)) * 2 ^ (min (16 : Int).toNat IntKind.i64.bits)))).toNat : Int)) ||| BitVec.ofInt IntKind.i64.bits (IntKind.i64.wrap ((IntKind.i64.wrap (c5.toNat : Int)) * 2 ^ (min (24 : Int).toNat IntKind.i64.bits)))).toNat : Int)), true))) := by kernel_rfl

theorem e143 (d : Nat) (n1 : Int) (n2 : Int) : g143 (d + 1) n1 n2 =
 oif (decide ((n1 : Int) > n2)) (
 some n1) (
 some n2) := by kernel_rfl

theorem e175 (d : Nat) (x1 : ((List Int) × Int × Int)) (l2 : List ByteArray) : g175 (d + 1) x1 l2 =
 obind (g124 d x1 ((l2.length : Nat) : Int)) fun r3 =>
 oif (decide (0 ≤ (r3.1 : Int))) (
 obind (l2[(r3.1 : Int).toNat]?) fun s4 =>
 some (s4, r3.2)) none := by kernel_rfl

theorem e58 (d : Nat) (l1 : List Int) : g58 (d + 1) l1 =
 obind (g170 d (l1, 0, 0)) fun r2 =>
 obind (g143 d r2.1 0) fun r3 =>
 obind (g174 d r3) fun r4 =>
 obind (g124 d r2.2 6) fun r5 =>
 oif ((r5.1 : Int) == 0) (
 obind (g124 d r5.2 4) fun r6 =>
 oif (decide (0 ≤ (r6.1 : Int))) (
 oif (Nat.ble 0 ((r6.1 : Int).toNat) && Nat.ble ((r6.1 : Int).toNat) (r4 : ByteArray).size) (
 some ((r4 : ByteArray).extract 0 ((r6.1 : Int).toNat))) none) none) (
 oif ((r5.1 : Int) == 1) (
 oif (Nat.ble ((r4 : ByteArray).size + ((⟨#[0]⟩ : ByteArray) : ByteArray).size) 9223372036854775807) (
 some ((r4 : ByteArray) ++ ((⟨#[0]⟩ : ByteArray) : ByteArray))) none) (
 oif ((r5.1 : Int) == 2) (
 obind (g175 d r5.2 [(⟨#[255, 255, 255, 255]⟩ : ByteArray), (⟨#[1, 202, 154, 59]⟩ : ByteArray), (⟨#[0, 202, 154, 59]⟩ : ByteArray)]) fun r7 =>
 some r7.1) (
 some r4))) := by kernel_rfl

theorem e277 (d : Nat) (s1 : ByteArray) (n2 : Int) : g277 (d + 1) s1 n2 =
 oif (decide (0 ≤ (n2 : Int))) (
 obind ((s1 : ByteArray).data.toList[(n2 : Int).toNat]?) fun c3 =>
 oif (decide (0 ≤ ((IntKind.i64.wrap (n2 + 1)) : Int))) (
 obind ((s1 : ByteArray).data.toList[((IntKind.i64.wrap (n2 + 1)) : Int).toNat]?) fun c4 =>
 some (IntKind.i64.wrap ((IntKind.i64.wrap (c3.toNat : Int)) + (IntKind.i64.wrap ((256 : Int) * (IntKind.i64.wrap (c4.toNat : Int))))))) none) none := by kernel_rfl

theorem e176 (d : Nat) (s1 : ByteArray) : g176 (d + 1) s1 =
 oif ((((s1 : ByteArray).size : Int) : Int) != 4) (
 some (-1)) (
 obind (g277 d s1 0) fun r2 =>
 obind (g277 d s1 2) fun r3 =>
 obind (g173 d (IntKind.i64.wrap (r2 + (IntKind.i64.wrap ((65536 : Int) * r3))))) fun r4 =>
 oif (!r4) (
 some (-1)) (
 some (IntKind.i64.wrap (r2 + (IntKind.i64.wrap ((65536 : Int) * r3)))))) := by kernel_rfl

theorem e59 (d : Nat) (s1 : ByteArray) : g59 (d + 1) s1 =
 obind (g176 d s1) fun r2 =>
 oif (decide ((r2 : Int) < 0)) (
 some (0, false)) (
 obind (g176 d s1) fun r3 =>
 some (r3, true)) := by kernel_rfl

theorem e125 (d : Nat) (x1 : ((List Int) × Int × Int)) (n2 : Int) : g125 (d + 1) x1 n2 =
 obind (g124 d x1 n2) fun r3 =>
 some (((r3.1 : Int) == 0), r3.2) := by kernel_rfl

theorem e265 (d : Nat) (n1 : Int) (n2 : Int) : g265 (d + 1) n1 n2 =
 oif (decide ((n1 : Int) < n2)) (
 some n1) (
 some n2) := by kernel_rfl

noncomputable def j278_0 (d : Nat)  (l19 : List (Int × Int × Int × Int × Int × Int × Int × Int)) (l20 : List Int) (n21 : Int) (n22 : Int) : Option ((List (Int × Int × Int × Int × Int × Int × Int × Int)) × ((List Int) × Int × Int)) :=
 some (l19, (l20, n21, n22))
noncomputable def j278_1 (d : Nat) (ag18 : (Int × ((List Int) × Int × Int) × (List (Int × Int × Int × Int × Int × Int × Int × Int))) → Option ((List (Int × Int × Int × Int × Int × Int × Int × Int)) × ((List Int) × Int × Int))) (n19 : Int) (x20 : ((List Int) × Int × Int)) (b23 : Bool) (l24 : List (Int × Int × Int × Int × Int × Int × Int × Int)) : Option ((List (Int × Int × Int × Int × Int × Int × Int × Int)) × ((List Int) × Int × Int)) :=
 oif (decide (0 ≤ (n19 : Int))) (
 oif (Nat.blt ((n19 : Int).toNat) l24.length) (
 obind (l24[(n19 : Int).toNat]?) fun x25 =>
 obind (g141 d x20 [0, 0, 10, 500, 5000]) fun r26 =>
 obind (g265 d 100000 (IntKind.i64.wrap (x25.2.2.1 + r26.1))) fun r27 =>
 oif (decide (0 ≤ (n19 : Int))) (
 oif (Nat.blt ((n19 : Int).toNat) l24.length) (
 obind (l24[(n19 : Int).toNat]?) fun x28 =>
 obind (g141 d r26.2 [1500, 2000, 6000, 1000000]) fun r29 =>
 oif (decide (0 ≤ (n19 : Int))) (
 oif (Nat.blt ((n19 : Int).toNat) ((l24.set ((n19 : Int).toNat) (x28.1, x28.2.1, x28.2.2.1, r27, x28.2.2.2.2)).length)) (
 obind ((l24.set ((n19 : Int).toNat) (x28.1, x28.2.1, x28.2.2.1, r27, x28.2.2.2.2))[(n19 : Int).toNat]?) fun x30 =>
 obind (g141 d r29.2 [1500, 1600, 3000, 20000]) fun r31 =>
 oif (decide (0 ≤ (n19 : Int))) (
 oif (Nat.blt ((n19 : Int).toNat) (((l24.set ((n19 : Int).toNat) (x28.1, x28.2.1, x28.2.2.1, r27, x28.2.2.2.2)).set ((n19 : Int).toNat) (x30.1, x30.2.1, x30.2.2.1, x30.2.2.2.1, r29.1, x30.2.2.2.2.2)).length)) (
 obind (((l24.set ((n19 : Int).toNat) (x28.1, x28.2.1, x28.2.2.1, r27, x28.2.2.2.2)).set ((n19 : Int).toNat) (x30.1, x30.2.1, x30.2.2.1, x30.2.2.2.1, r29.1, x30.2.2.2.2.2))[(n19 : Int).toNat]?) fun x32 =>
 obind (g124 d r31.2 8) fun r33 =>
 oif (decide (0 ≤ (n19 : Int))) (
 oif (Nat.blt ((n19 : Int).toNat) ((((l24.set ((n19 : Int).toNat) (x28.1, x28.2.1, x28.2.2.1, r27, x28.2.2.2.2)).set ((n19 : Int).toNat) (x30.1, x30.2.1, x30.2.2.1, x30.2.2.2.1, r29.1, x30.2.2.2.2.2)).set ((n19 : Int).toNat) (x32.1, x32.2.1, x32.2.2.1, x32.2.2.2.1, x32.2.2.2.2.1, r31.1, x32.2.2.2.2.2.2)).length)) (
 obind ((((l24.set ((n19 : Int).toNat) (x28.1, x28.2.1, x28.2.2.1, r27, x28.2.2.2.2)).set ((n19 : Int).toNat) (x30.1, x30.2.1, x30.2.2.1, x30.2.2.2.1, r29.1, x30.2.2.2.2.2)).set ((n19 : Int).toNat) (x32.1, x32.2.1, x32.2.2.1, x32.2.2.2.1, x32.2.2.2.2.1, r31.1, x32.2.2.2.2.2.2))[(n19 : Int).toNat]?) fun x34 =>
 ag18 ((IntKind.i64.wrap (n19 + 1)), r33.2, ((((l24.set ((n19 : Int).toNat) (x28.1, x28.2.1, x28.2.2.1, r27, x28.2.2.2.2)).set ((n19 : Int).toNat) (x30.1, x30.2.1, x30.2.2.1, x30.2.2.2.1, r29.1, x30.2.2.2.2.2)).set ((n19 : Int).toNat) (x32.1, x32.2.1, x32.2.2.1, x32.2.2.2.1, x32.2.2.2.2.1, r31.1, x32.2.2.2.2.2.2)).set ((n19 : Int).toNat) (x34.1, x34.2.1, x34.2.2.1, x34.2.2.2.1, x34.2.2.2.2.1, x34.2.2.2.2.2.1, r33.1, x34.2.2.2.2.2.2.2)))) none) none) none) none) none) none) none) none) none) none
noncomputable def l278_3_b (d : Nat) (l10 : List Int) (l17 : List (Int × Int × Int × Int × Int × Int × Int × Int)) (kx278_3_0 : (List (Int × Int × Int × Int × Int × Int × Int × Int)) → (List Int) → Int → Int → Option ((List (Int × Int × Int × Int × Int × Int × Int × Int)) × ((List Int) × Int × Int))) (ag18 : (Int × ((List Int) × Int × Int) × (List (Int × Int × Int × Int × Int × Int × Int × Int))) → Option ((List (Int × Int × Int × Int × Int × Int × Int × Int)) × ((List Int) × Int × Int))) (n19 : Int) (x20 : ((List Int) × Int × Int)) (l21 : List (Int × Int × Int × Int × Int × Int × Int × Int)) : Option ((List (Int × Int × Int × Int × Int × Int × Int × Int)) × ((List Int) × Int × Int)) :=
 oif (decide ((n19 : Int) < ((l17.length : Nat) : Int))) (
 oif (decide (0 ≤ (n19 : Int))) (
 oif (Nat.blt ((n19 : Int).toNat) l10.length) (
 obind (l10[(n19 : Int).toNat]?) fun n22 =>
 oif (decide ((n22 : Int) ≥ 0)) (
 oif (decide (0 ≤ (n19 : Int))) (
 oif (Nat.blt ((n19 : Int).toNat) l10.length) (
 obind (l10[(n19 : Int).toNat]?) fun n23 =>
 oif (decide (0 ≤ (n23 : Int))) (
 oif (Nat.blt ((n23 : Int).toNat) l21.length) (
 obind (l21[(n23 : Int).toNat]?) fun x24 =>
 oif (decide (0 ≤ (n19 : Int))) (
 oif (Nat.blt ((n19 : Int).toNat) l21.length) (
 obind (l21[(n19 : Int).toNat]?) fun x25 =>
 j278_1 d ag18 n19 x20 true (l21.set ((n19 : Int).toNat) (x25.1, x24.1, x25.2.2))) none) none) none) none) none) none) (
 j278_1 d ag18 n19 x20 false l21)) none) none) (
 kx278_3_0 l21 x20.1 x20.2.1 x20.2.2)
noncomputable def l278_3 (d : Nat) (l10 : List Int) (l17 : List (Int × Int × Int × Int × Int × Int × Int × Int)) (kx278_3_0 : (List (Int × Int × Int × Int × Int × Int × Int × Int)) → (List Int) → Int → Int → Option ((List (Int × Int × Int × Int × Int × Int × Int × Int)) × ((List Int) × Int × Int))) (ag18 : (Int × ((List Int) × Int × Int) × (List (Int × Int × Int × Int × Int × Int × Int × Int))) → Option ((List (Int × Int × Int × Int × Int × Int × Int × Int)) × ((List Int) × Int × Int))) (s : (Int × ((List Int) × Int × Int) × (List (Int × Int × Int × Int × Int × Int × Int × Int)))) : Option ((List (Int × Int × Int × Int × Int × Int × Int × Int)) × ((List Int) × Int × Int)) := l278_3_b d l10 l17 kx278_3_0 ag18 s.1 s.2.1 s.2.2
noncomputable def j278_2 (d : Nat) (l10 : List Int) (l14 : List Int) (n15 : Int) (n16 : Int) (l17 : List (Int × Int × Int × Int × Int × Int × Int × Int)) : Option ((List (Int × Int × Int × Int × Int × Int × Int × Int)) × ((List Int) × Int × Int)) :=
 iterP (l278_3 d l10 l17 (j278_0 d)) fuelN (0, (l14, n15, n16), l17)
noncomputable def l278_2_b (d : Nat) (l9 : List (Int × Int × Int × Int × Int × Int × Int × Int)) (r11 : (Int × ((List Int) × Int × Int))) (r12 : (Int × ((List Int) × Int × Int))) (kx278_2_0 : (List Int) → Int → Int → (List (Int × Int × Int × Int × Int × Int × Int × Int)) → Option ((List (Int × Int × Int × Int × Int × Int × Int × Int)) × ((List Int) × Int × Int))) (ag13 : (Int × ((List Int) × Int × Int) × (List (Int × Int × Int × Int × Int × Int × Int × Int))) → Option ((List (Int × Int × Int × Int × Int × Int × Int × Int)) × ((List Int) × Int × Int))) (n14 : Int) (x15 : ((List Int) × Int × Int)) (l16 : List (Int × Int × Int × Int × Int × Int × Int × Int)) : Option ((List (Int × Int × Int × Int × Int × Int × Int × Int)) × ((List Int) × Int × Int)) :=
 oif (decide ((n14 : Int) < ((l9.length : Nat) : Int))) (
 oif ((((l16.length : Nat) : Int) : Int) == 0) none (
 obind (g124 d x15 2) fun r17 =>
 oif (decide (0 ≤ (n14 : Int))) (
 oif (Nat.blt ((n14 : Int).toNat) l16.length) (
 obind (l16[(n14 : Int).toNat]?) fun x18 =>
 ag13 ((IntKind.i64.wrap (n14 + 1)), r17.2, (l16.set ((n14 : Int).toNat) ((IntKind.i64.wrap ((IntKind.i64.wrap ((1 : Int) + (IntKind.i64.wrap ((IntKind.i64.wrap ((1 : Int) + r12.1)) * ((IntKind.i64.wrap (n14 + r11.1)).tmod ((l16.length : Nat) : Int)))))) + (IntKind.i64.wrap ((IntKind.i64.wrap (r17.1 * (IntKind.i64.wrap ((IntKind.i64.wrap ((1 : Int) + r12.1)) - 1)))).tdiv 2)))), x18.2)))) none) none)) (
 kx278_2_0 x15.1 x15.2.1 x15.2.2 l16)
noncomputable def l278_2 (d : Nat) (l9 : List (Int × Int × Int × Int × Int × Int × Int × Int)) (r11 : (Int × ((List Int) × Int × Int))) (r12 : (Int × ((List Int) × Int × Int))) (kx278_2_0 : (List Int) → Int → Int → (List (Int × Int × Int × Int × Int × Int × Int × Int)) → Option ((List (Int × Int × Int × Int × Int × Int × Int × Int)) × ((List Int) × Int × Int))) (ag13 : (Int × ((List Int) × Int × Int) × (List (Int × Int × Int × Int × Int × Int × Int × Int))) → Option ((List (Int × Int × Int × Int × Int × Int × Int × Int)) × ((List Int) × Int × Int))) (s : (Int × ((List Int) × Int × Int) × (List (Int × Int × Int × Int × Int × Int × Int × Int)))) : Option ((List (Int × Int × Int × Int × Int × Int × Int × Int)) × ((List Int) × Int × Int)) := l278_2_b d l9 r11 r12 kx278_2_0 ag13 s.1 s.2.1 s.2.2
noncomputable def j278_3 (d : Nat)  (l6 : List Int) (n7 : Int) (n8 : Int) (l9 : List (Int × Int × Int × Int × Int × Int × Int × Int)) (l10 : List Int) : Option ((List (Int × Int × Int × Int × Int × Int × Int × Int)) × ((List Int) × Int × Int)) :=
 obind (g124 d (l6, n7, n8) ((l9.length : Nat) : Int)) fun r11 =>
 obind (g124 d r11.2 9) fun r12 =>
 iterP (l278_2 d l9 r11 r12 (j278_2 d l10)) fuelN (0, r12.2, l9)
noncomputable def j278_4 (d : Nat) (ag5 : ((List (Int × Int × Int × Int × Int × Int × Int × Int)) × (List Int) × (List Int) × ((List Int) × Int × Int)) → Option ((List (Int × Int × Int × Int × Int × Int × Int × Int)) × ((List Int) × Int × Int))) (l6 : List (Int × Int × Int × Int × Int × Int × Int × Int)) (l7 : List Int) (l8 : List Int) (n14 : Int) (l24 : List Int) (n25 : Int) (n26 : Int) (n27 : Int) (b28 : Bool) : Option ((List (Int × Int × Int × Int × Int × Int × Int × Int)) × ((List Int) × Int × Int)) :=
 oif (Nat.ble ((l6.length + [(0, 0, n27, 0, 0, 0, 0, 0)].length) * 64) roomMax) (
 oif (Nat.ble ((l7.length + [n14].length) * 8) roomMax) (
 oif (decide (0 ≤ (n14 : Int))) (
 oif (Nat.blt ((n14 : Int).toNat) l8.length) (
 obind (l8[(n14 : Int).toNat]?) fun n29 =>
 oif (Nat.ble ((l8.length + [(IntKind.i64.wrap (n29 + 1))].length) * 8) roomMax) (
 ag5 ((l6 ++ [(0, 0, n27, 0, 0, 0, 0, 0)]), (l7 ++ [n14]), (l8 ++ [(IntKind.i64.wrap (n29 + 1))]), (l24, n25, n26))) none) none) none) none) none
noncomputable def j278_5 (d : Nat) (ag5 : ((List (Int × Int × Int × Int × Int × Int × Int × Int)) × (List Int) × (List Int) × ((List Int) × Int × Int)) → Option ((List (Int × Int × Int × Int × Int × Int × Int × Int)) × ((List Int) × Int × Int))) (l6 : List (Int × Int × Int × Int × Int × Int × Int × Int)) (l7 : List Int) (l8 : List Int) (n14 : Int) (n18 : Int) (r21 : (Int × ((List Int) × Int × Int))) (b22 : Bool) (b23 : Bool) (l24 : List Int) (n25 : Int) (n26 : Int) : Option ((List (Int × Int × Int × Int × Int × Int × Int × Int)) × ((List Int) × Int × Int)) :=
 oif b23 (
 obind (g143 d 1 (IntKind.i64.wrap (n18.tdiv 2))) fun r27 =>
 j278_4 d ag5 l6 l7 l8 n14 l24 n25 n26 r27 true) (
 j278_4 d ag5 l6 l7 l8 n14 l24 n25 n26 (IntKind.i64.wrap ((1 : Int) + r21.1)) false)
noncomputable def j278_6 (d : Nat) (kx278_0_0 : (List Int) → Int → Int → (List (Int × Int × Int × Int × Int × Int × Int × Int)) → (List Int) → Option ((List (Int × Int × Int × Int × Int × Int × Int × Int)) × ((List Int) × Int × Int))) (b3 : Bool) (ag5 : ((List (Int × Int × Int × Int × Int × Int × Int × Int)) × (List Int) × (List Int) × ((List Int) × Int × Int)) → Option ((List (Int × Int × Int × Int × Int × Int × Int × Int)) × ((List Int) × Int × Int))) (l6 : List (Int × Int × Int × Int × Int × Int × Int × Int)) (l7 : List Int) (l8 : List Int) (r10 : (Int × ((List Int) × Int × Int))) (n14 : Int) (n18 : Int) (n19 : Int) : Option ((List (Int × Int × Int × Int × Int × Int × Int × Int)) × ((List Int) × Int × Int)) :=
 oif (decide ((n18 : Int) < 1)) (
 kx278_0_0 r10.2.1 r10.2.2.1 r10.2.2.2 l6 l7) (
 obind (g265 d n18 30000) fun r20 =>
 obind (g124 d r10.2 r20) fun r21 =>
 oif b3 (
 j278_5 d ag5 l6 l7 l8 n14 n18 r21 true true r21.2.1 r21.2.2.1 r21.2.2.2) (
 obind (g125 d r21.2 3) fun r22 =>
 j278_5 d ag5 l6 l7 l8 n14 n18 r21 false r22.1 r22.2.1 r22.2.2.1 r22.2.2.2))
noncomputable def l278_1_b (d : Nat) (l6 : List (Int × Int × Int × Int × Int × Int × Int × Int)) (l7 : List Int) (n14 : Int) (kx278_1_0 : Int → Int → Option ((List (Int × Int × Int × Int × Int × Int × Int × Int)) × ((List Int) × Int × Int))) (ag17 : (Int × Int) → Option ((List (Int × Int × Int × Int × Int × Int × Int × Int)) × ((List Int) × Int × Int))) (n18 : Int) (n19 : Int) : Option ((List (Int × Int × Int × Int × Int × Int × Int × Int)) × ((List Int) × Int × Int)) :=
 oif (decide ((n19 : Int) < ((l7.length : Nat) : Int))) (
 oif (decide (0 ≤ (n19 : Int))) (
 oif (Nat.blt ((n19 : Int).toNat) l7.length) (
 obind (l7[(n19 : Int).toNat]?) fun n20 =>
 oif ((n20 : Int) == n14) (
 oif (decide (0 ≤ (n19 : Int))) (
 oif (Nat.blt ((n19 : Int).toNat) l6.length) (
 obind (l6[(n19 : Int).toNat]?) fun x21 =>
 ag17 ((IntKind.i64.wrap (n18 - x21.2.2.1)), (IntKind.i64.wrap (n19 + 1)))) none) none) (
 ag17 (n18, (IntKind.i64.wrap (n19 + 1))))) none) none) (
 kx278_1_0 n18 n19)
noncomputable def l278_1 (d : Nat) (l6 : List (Int × Int × Int × Int × Int × Int × Int × Int)) (l7 : List Int) (n14 : Int) (kx278_1_0 : Int → Int → Option ((List (Int × Int × Int × Int × Int × Int × Int × Int)) × ((List Int) × Int × Int))) (ag17 : (Int × Int) → Option ((List (Int × Int × Int × Int × Int × Int × Int × Int)) × ((List Int) × Int × Int))) (s : (Int × Int)) : Option ((List (Int × Int × Int × Int × Int × Int × Int × Int)) × ((List Int) × Int × Int)) := l278_1_b d l6 l7 n14 kx278_1_0 ag17 s.1 s.2
noncomputable def j278_7 (d : Nat) (kx278_0_0 : (List Int) → Int → Int → (List (Int × Int × Int × Int × Int × Int × Int × Int)) → (List Int) → Option ((List (Int × Int × Int × Int × Int × Int × Int × Int)) × ((List Int) × Int × Int))) (b3 : Bool) (ag5 : ((List (Int × Int × Int × Int × Int × Int × Int × Int)) × (List Int) × (List Int) × ((List Int) × Int × Int)) → Option ((List (Int × Int × Int × Int × Int × Int × Int × Int)) × ((List Int) × Int × Int))) (l6 : List (Int × Int × Int × Int × Int × Int × Int × Int)) (l7 : List Int) (l8 : List Int) (r10 : (Int × ((List Int) × Int × Int))) (n14 : Int) (b15 : Bool) : Option ((List (Int × Int × Int × Int × Int × Int × Int × Int)) × ((List Int) × Int × Int)) :=
 oif (decide (0 ≤ (n14 : Int))) (
 oif (Nat.blt ((n14 : Int).toNat) l6.length) (
 obind (l6[(n14 : Int).toNat]?) fun x16 =>
 iterP (l278_1 d l6 l7 n14 (j278_6 d kx278_0_0 b3 ag5 l6 l7 l8 r10 n14)) fuelN (x16.2.2.1, 0)) none) none
noncomputable def j278_8 (d : Nat) (kx278_0_0 : (List Int) → Int → Int → (List (Int × Int × Int × Int × Int × Int × Int × Int)) → (List Int) → Option ((List (Int × Int × Int × Int × Int × Int × Int × Int)) × ((List Int) × Int × Int))) (b3 : Bool) (ag5 : ((List (Int × Int × Int × Int × Int × Int × Int × Int)) × (List Int) × (List Int) × ((List Int) × Int × Int)) → Option ((List (Int × Int × Int × Int × Int × Int × Int × Int)) × ((List Int) × Int × Int))) (l6 : List (Int × Int × Int × Int × Int × Int × Int × Int)) (l7 : List Int) (l8 : List Int) (r10 : (Int × ((List Int) × Int × Int))) (n11 : Int) (b12 : Bool) : Option ((List (Int × Int × Int × Int × Int × Int × Int × Int)) × ((List Int) × Int × Int)) :=
 oif (decide (0 ≤ (n11 : Int))) (
 oif (Nat.blt ((n11 : Int).toNat) l8.length) (
 obind (l8[(n11 : Int).toNat]?) fun n13 =>
 oif ((n13 : Int) == 8) (
 j278_7 d kx278_0_0 b3 ag5 l6 l7 l8 r10 0 true) (
 j278_7 d kx278_0_0 b3 ag5 l6 l7 l8 r10 n11 false)) none) none
noncomputable def l278_0_b (d : Nat) (n2 : Int) (b3 : Bool) (kx278_0_0 : (List Int) → Int → Int → (List (Int × Int × Int × Int × Int × Int × Int × Int)) → (List Int) → Option ((List (Int × Int × Int × Int × Int × Int × Int × Int)) × ((List Int) × Int × Int))) (ag5 : ((List (Int × Int × Int × Int × Int × Int × Int × Int)) × (List Int) × (List Int) × ((List Int) × Int × Int)) → Option ((List (Int × Int × Int × Int × Int × Int × Int × Int)) × ((List Int) × Int × Int))) (l6 : List (Int × Int × Int × Int × Int × Int × Int × Int)) (l7 : List Int) (l8 : List Int) (x9 : ((List Int) × Int × Int)) : Option ((List (Int × Int × Int × Int × Int × Int × Int × Int)) × ((List Int) × Int × Int)) :=
 oif (decide ((((l6.length : Nat) : Int) : Int) < n2)) (
 obind (g124 d x9 ((l6.length : Nat) : Int)) fun r10 =>
 oif b3 (
 j278_8 d kx278_0_0 b3 ag5 l6 l7 l8 r10 (IntKind.i64.wrap (((l6.length : Nat) : Int) - 1)) true) (
 j278_8 d kx278_0_0 b3 ag5 l6 l7 l8 r10 r10.1 false)) (
 kx278_0_0 x9.1 x9.2.1 x9.2.2 l6 l7)
noncomputable def l278_0 (d : Nat) (n2 : Int) (b3 : Bool) (kx278_0_0 : (List Int) → Int → Int → (List (Int × Int × Int × Int × Int × Int × Int × Int)) → (List Int) → Option ((List (Int × Int × Int × Int × Int × Int × Int × Int)) × ((List Int) × Int × Int))) (ag5 : ((List (Int × Int × Int × Int × Int × Int × Int × Int)) × (List Int) × (List Int) × ((List Int) × Int × Int)) → Option ((List (Int × Int × Int × Int × Int × Int × Int × Int)) × ((List Int) × Int × Int))) (s : ((List (Int × Int × Int × Int × Int × Int × Int × Int)) × (List Int) × (List Int) × ((List Int) × Int × Int))) : Option ((List (Int × Int × Int × Int × Int × Int × Int × Int)) × ((List Int) × Int × Int)) := l278_0_b d n2 b3 kx278_0_0 ag5 s.1 s.2.1 s.2.2.1 s.2.2.2
theorem e278 (d : Nat) (x1 : ((List Int) × Int × Int)) (n2 : Int) (b3 : Bool) : g278 (d + 1) x1 n2 b3 =
 obind (g141 d x1 [400, 9000, 40000, 100000]) fun r4 =>
 iterP (l278_0 d n2 b3 (j278_3 d)) fuelN ([(0, 0, r4.1, 0, 0, 0, 0, 0)], [(-1)], [1], r4.2) := by kernel_rfl

noncomputable def j279_0 (d : Nat) (l1 : List (Int × Int × Int × Int × Int × Int × Int × Int)) (x2 : (Int × Int × Int × Int × Int × Int × Int × Int)) (n4 : Int) : Option (List (Int × Int × Int × Int × Int × Int × Int × Int)) :=
 oif (decide (0 ≤ (n4 : Int))) (
 oif (Nat.ble ((n4 : Int).toNat) l1.length) (
 oif (Nat.ble ((([] : List (Int × Int × Int × Int × Int × Int × Int × Int)).length + (l1.take ((n4 : Int).toNat)).length) * 64) roomMax) (
 oif (Nat.ble (((([] : List (Int × Int × Int × Int × Int × Int × Int × Int)) ++ (l1.take ((n4 : Int).toNat))).length + [x2].length) * 64) roomMax) (
 oif (decide (0 ≤ (n4 : Int))) (
 oif (Nat.ble ((n4 : Int).toNat) l1.length) (
 oif (Nat.ble ((((([] : List (Int × Int × Int × Int × Int × Int × Int × Int)) ++ (l1.take ((n4 : Int).toNat))) ++ [x2]).length + (l1.drop ((n4 : Int).toNat)).length) * 64) roomMax) (
 some (((([] : List (Int × Int × Int × Int × Int × Int × Int × Int)) ++ (l1.take ((n4 : Int).toNat))) ++ [x2]) ++ (l1.drop ((n4 : Int).toNat)))) none) none) none) none) none) none) none
noncomputable def l279_0_b (d : Nat) (l1 : List (Int × Int × Int × Int × Int × Int × Int × Int)) (x2 : (Int × Int × Int × Int × Int × Int × Int × Int)) (kx279_0_0 : Int → Option (List (Int × Int × Int × Int × Int × Int × Int × Int))) (ag3 : Int → Option (List (Int × Int × Int × Int × Int × Int × Int × Int))) (n4 : Int) : Option (List (Int × Int × Int × Int × Int × Int × Int × Int)) :=
 oif (decide ((n4 : Int) < ((l1.length : Nat) : Int))) (
 oif (decide (0 ≤ (n4 : Int))) (
 obind (l1[(n4 : Int).toNat]?) fun x5 =>
 oif (decide ((x5.1 : Int) < x2.1)) (
 ag3 (IntKind.i64.wrap (n4 + 1))) (
 kx279_0_0 n4)) none) (
 kx279_0_0 n4)
noncomputable def l279_0 (d : Nat) (l1 : List (Int × Int × Int × Int × Int × Int × Int × Int)) (x2 : (Int × Int × Int × Int × Int × Int × Int × Int)) (kx279_0_0 : Int → Option (List (Int × Int × Int × Int × Int × Int × Int × Int))) (ag3 : Int → Option (List (Int × Int × Int × Int × Int × Int × Int × Int))) (s : Int) : Option (List (Int × Int × Int × Int × Int × Int × Int × Int)) := l279_0_b d l1 x2 kx279_0_0 ag3 s
theorem e279 (d : Nat) (l1 : List (Int × Int × Int × Int × Int × Int × Int × Int)) (x2 : (Int × Int × Int × Int × Int × Int × Int × Int)) : g279 (d + 1) l1 x2 =
 iterP (l279_0 d l1 x2 (j279_0 d l1 x2)) fuelN 0 := by kernel_rfl

noncomputable def j352_0 (d : Nat)  (l4 : List Int) : Option (List Int) :=
 some l4
noncomputable def l352_0_b (d : Nat) (x1 : (ByteArray × (List (Int × Int × Int × Int × Int × Int × Int × Int)) × (List (Int × Int × Int × Int × Int)) × Int)) (n2 : Int) (kx352_0_0 : (List Int) → Option (List Int)) (ag3 : ((List Int) × Int) → Option (List Int)) (l4 : List Int) (n5 : Int) : Option (List Int) :=
 oif (decide ((n5 : Int) < ((x1.2.1.length : Nat) : Int))) (
 oif (decide (0 ≤ (n5 : Int))) (
 obind (x1.2.1[(n5 : Int).toNat]?) fun x6 =>
 oif (decide (0 ≤ (n2 : Int))) (
 obind (x1.2.1[(n2 : Int).toNat]?) fun x7 =>
 oif ((x6.2.1 : Int) == x7.1) (
 oif (Nat.ble ((l4.length + [n5].length) * 8) roomMax) (
 ag3 ((l4 ++ [n5]), (IntKind.i64.wrap (n5 + 1)))) none) (
 ag3 (l4, (IntKind.i64.wrap (n5 + 1))))) none) none) (
 kx352_0_0 l4)
noncomputable def l352_0 (d : Nat) (x1 : (ByteArray × (List (Int × Int × Int × Int × Int × Int × Int × Int)) × (List (Int × Int × Int × Int × Int)) × Int)) (n2 : Int) (kx352_0_0 : (List Int) → Option (List Int)) (ag3 : ((List Int) × Int) → Option (List Int)) (s : ((List Int) × Int)) : Option (List Int) := l352_0_b d x1 n2 kx352_0_0 ag3 s.1 s.2
theorem e352 (d : Nat) (x1 : (ByteArray × (List (Int × Int × Int × Int × Int × Int × Int × Int)) × (List (Int × Int × Int × Int × Int)) × Int)) (n2 : Int) : g352 (d + 1) x1 n2 =
 iterP (l352_0 d x1 n2 (j352_0 d)) fuelN ([], 0) := by kernel_rfl

theorem e335 (d : Nat) (x1 : (ByteArray × (List (Int × Int × Int × Int × Int × Int × Int × Int)) × (List (Int × Int × Int × Int × Int)) × Int)) (n2 : Int) : g335 (d + 1) x1 n2 =
 obind (g352 d x1 n2) fun r3 =>
 some ((((r3.length : Nat) : Int) : Int) == 0) := by kernel_rfl

noncomputable def j280_0 (d : Nat)  (l3 : List Int) : Option (List Int) :=
 some l3
noncomputable def l280_0_b (d : Nat) (x1 : (ByteArray × (List (Int × Int × Int × Int × Int × Int × Int × Int)) × (List (Int × Int × Int × Int × Int)) × Int)) (kx280_0_0 : (List Int) → Option (List Int)) (ag2 : ((List Int) × Int) → Option (List Int)) (l3 : List Int) (n4 : Int) : Option (List Int) :=
 oif (decide ((n4 : Int) < ((x1.2.1.length : Nat) : Int))) (
 obind (g335 d x1 n4) fun r5 =>
 oif r5 (
 oif (Nat.ble ((l3.length + [n4].length) * 8) roomMax) (
 ag2 ((l3 ++ [n4]), (IntKind.i64.wrap (n4 + 1)))) none) (
 ag2 (l3, (IntKind.i64.wrap (n4 + 1))))) (
 kx280_0_0 l3)
noncomputable def l280_0 (d : Nat) (x1 : (ByteArray × (List (Int × Int × Int × Int × Int × Int × Int × Int)) × (List (Int × Int × Int × Int × Int)) × Int)) (kx280_0_0 : (List Int) → Option (List Int)) (ag2 : ((List Int) × Int) → Option (List Int)) (s : ((List Int) × Int)) : Option (List Int) := l280_0_b d x1 kx280_0_0 ag2 s.1 s.2
theorem e280 (d : Nat) (x1 : (ByteArray × (List (Int × Int × Int × Int × Int × Int × Int × Int)) × (List (Int × Int × Int × Int × Int)) × Int)) : g280 (d + 1) x1 =
 iterP (l280_0 d x1 (j280_0 d)) fuelN ([], 0) := by kernel_rfl

noncomputable def j177_0 (d : Nat) (r15 : List Int) (r34 : (Bool × ((List Int) × Int × Int))) (s35 : ByteArray) (n36 : Int) (l37 : List (Int × Int × Int × Int × Int × Int × Int × Int)) (l38 : List (Int × Int × Int × Int × Int)) : Option ((ByteArray × (List (Int × Int × Int × Int × Int × Int × Int × Int)) × (List (Int × Int × Int × Int × Int)) × Int) × ((List Int) × Int × Int)) :=
 obind (g125 d r34.2 3) fun r39 =>
 oif (!r39.1) (
 obind (g124 d r39.2 ((r15.length : Nat) : Int)) fun r40 =>
 oif (decide (0 ≤ (r40.1 : Int))) (
 oif (Nat.blt ((r40.1 : Int).toNat) r15.length) (
 obind (r15[(r40.1 : Int).toNat]?) fun n41 =>
 oif (decide (0 ≤ (n41 : Int))) (
 oif (Nat.blt ((n41 : Int).toNat) l37.length) (
 obind (l37[(n41 : Int).toNat]?) fun x42 =>
 some ((s35, l37, l38, x42.1), r40.2)) none) none) none) none) (
 some ((s35, l37, l38, n36), r39.2))
noncomputable def j177_1 (d : Nat) (r15 : List Int) (r34 : (Bool × ((List Int) × Int × Int))) (s36 : ByteArray) (n37 : Int) (l38 : List (Int × Int × Int × Int × Int × Int × Int × Int)) (l39 : List (Int × Int × Int × Int × Int)) : Option ((ByteArray × (List (Int × Int × Int × Int × Int × Int × Int × Int)) × (List (Int × Int × Int × Int × Int)) × Int) × ((List Int) × Int × Int)) :=
 j177_0 d r15 r34 s36 n37 l38 l39
noncomputable def l177_3_b (d : Nat) (r15 : List Int) (kx177_3_0 : ByteArray → Int → (List (Int × Int × Int × Int × Int × Int × Int × Int)) → (List (Int × Int × Int × Int × Int)) → Option ((ByteArray × (List (Int × Int × Int × Int × Int × Int × Int × Int)) × (List (Int × Int × Int × Int × Int)) × Int) × ((List Int) × Int × Int))) (ag35 : (Int × Int × (ByteArray × (List (Int × Int × Int × Int × Int × Int × Int × Int)) × (List (Int × Int × Int × Int × Int)) × Int)) → Option ((ByteArray × (List (Int × Int × Int × Int × Int × Int × Int × Int)) × (List (Int × Int × Int × Int × Int)) × Int) × ((List Int) × Int × Int))) (n36 : Int) (n37 : Int) (x38 : (ByteArray × (List (Int × Int × Int × Int × Int × Int × Int × Int)) × (List (Int × Int × Int × Int × Int)) × Int)) : Option ((ByteArray × (List (Int × Int × Int × Int × Int × Int × Int × Int)) × (List (Int × Int × Int × Int × Int)) × Int) × ((List Int) × Int × Int)) :=
 oif (decide ((n37 : Int) < 16)) (
 oif (Nat.blt 0 r15.length) (
 obind (r15[0]?) fun n39 =>
 oif (decide (0 ≤ (n39 : Int))) (
 oif (Nat.blt ((n39 : Int).toNat) x38.2.1.length) (
 obind (x38.2.1[(n39 : Int).toNat]?) fun x40 =>
 oif (Nat.ble ((x38.2.2.1.length + [((IntKind.i64.wrap (n36 + 1)), 0, 65535, n37, x40.1)].length) * 40) roomMax) (
 ag35 ((IntKind.i64.wrap (n36 + 1)), (IntKind.i64.wrap (n37 + 1)), (x38.1, x38.2.1, (x38.2.2.1 ++ [((IntKind.i64.wrap (n36 + 1)), 0, 65535, n37, x40.1)]), x38.2.2.2))) none) none) none) none) (
 kx177_3_0 x38.1 x38.2.2.2 x38.2.1 x38.2.2.1)
noncomputable def l177_3 (d : Nat) (r15 : List Int) (kx177_3_0 : ByteArray → Int → (List (Int × Int × Int × Int × Int × Int × Int × Int)) → (List (Int × Int × Int × Int × Int)) → Option ((ByteArray × (List (Int × Int × Int × Int × Int × Int × Int × Int)) × (List (Int × Int × Int × Int × Int)) × Int) × ((List Int) × Int × Int))) (ag35 : (Int × Int × (ByteArray × (List (Int × Int × Int × Int × Int × Int × Int × Int)) × (List (Int × Int × Int × Int × Int)) × Int)) → Option ((ByteArray × (List (Int × Int × Int × Int × Int × Int × Int × Int)) × (List (Int × Int × Int × Int × Int)) × Int) × ((List Int) × Int × Int))) (s : (Int × Int × (ByteArray × (List (Int × Int × Int × Int × Int × Int × Int × Int)) × (List (Int × Int × Int × Int × Int)) × Int))) : Option ((ByteArray × (List (Int × Int × Int × Int × Int × Int × Int × Int)) × (List (Int × Int × Int × Int × Int)) × Int) × ((List Int) × Int × Int)) := l177_3_b d r15 kx177_3_0 ag35 s.1 s.2.1 s.2.2
noncomputable def j177_2 (d : Nat) (r15 : List Int) (n26 : Int) (l27 : List Int) (n28 : Int) (n29 : Int) (s30 : ByteArray) (n31 : Int) (l32 : List (Int × Int × Int × Int × Int × Int × Int × Int)) (l33 : List (Int × Int × Int × Int × Int)) : Option ((ByteArray × (List (Int × Int × Int × Int × Int × Int × Int × Int)) × (List (Int × Int × Int × Int × Int)) × Int) × ((List Int) × Int × Int)) :=
 obind (g125 d (l27, n28, n29) 24) fun r34 =>
 oif r34.1 (
 iterP (l177_3 d r15 (j177_1 d r15 r34)) fuelN (n26, ((l33.length : Nat) : Int), (s30, l32, l33, n31))) (
 j177_0 d r15 r34 s30 n31 l32 l33)
noncomputable def l177_2_b (d : Nat) (r15 : List Int) (kx177_2_0 : Int → (List Int) → Int → Int → ByteArray → Int → (List (Int × Int × Int × Int × Int × Int × Int × Int)) → (List (Int × Int × Int × Int × Int)) → Option ((ByteArray × (List (Int × Int × Int × Int × Int × Int × Int × Int)) × (List (Int × Int × Int × Int × Int)) × Int) × ((List Int) × Int × Int))) (ag25 : (Int × Int × ((List Int) × Int × Int) × (ByteArray × (List (Int × Int × Int × Int × Int × Int × Int × Int)) × (List (Int × Int × Int × Int × Int)) × Int)) → Option ((ByteArray × (List (Int × Int × Int × Int × Int × Int × Int × Int)) × (List (Int × Int × Int × Int × Int)) × Int) × ((List Int) × Int × Int))) (n26 : Int) (n27 : Int) (x28 : ((List Int) × Int × Int)) (x29 : (ByteArray × (List (Int × Int × Int × Int × Int × Int × Int × Int)) × (List (Int × Int × Int × Int × Int)) × Int)) : Option ((ByteArray × (List (Int × Int × Int × Int × Int × Int × Int × Int)) × (List (Int × Int × Int × Int × Int)) × Int) × ((List Int) × Int × Int)) :=
 oif (decide ((n27 : Int) > 0)) (
 obind (g124 d x28 9) fun r30 =>
 obind (g141 d r30.2 [0, 1, 255, 65280, 65535, 3]) fun r31 =>
 obind (g124 d r31.2 4) fun r32 =>
 obind (g141 d r32.2 [0, 1, 2, 5, 80, 443, 4096]) fun r33 =>
 obind (g124 d r33.2 ((r15.length : Nat) : Int)) fun r34 =>
 oif (decide (0 ≤ (r34.1 : Int))) (
 oif (Nat.blt ((r34.1 : Int).toNat) r15.length) (
 obind (r15[(r34.1 : Int).toNat]?) fun n35 =>
 oif (decide (0 ≤ (n35 : Int))) (
 oif (Nat.blt ((n35 : Int).toNat) x29.2.1.length) (
 obind (x29.2.1[(n35 : Int).toNat]?) fun x36 =>
 oif (Nat.ble ((x29.2.2.1.length + [((IntKind.i64.wrap (n26 + (IntKind.i64.wrap ((1 : Int) + r30.1)))), r32.1, r31.1, (IntKind.i64.wrap ((BitVec.ofInt IntKind.i64.bits r33.1 &&& BitVec.ofInt IntKind.i64.bits r31.1).toNat : Int)), x36.1)].length) * 40) roomMax) (
 ag25 ((IntKind.i64.wrap (n26 + (IntKind.i64.wrap ((1 : Int) + r30.1)))), (IntKind.i64.wrap (n27 - 1)), r34.2, (x29.1, x29.2.1, (x29.2.2.1 ++ [((IntKind.i64.wrap (n26 + (IntKind.i64.wrap ((1 : Int) + r30.1)))), r32.1, r31.1, (IntKind.i64.wrap ((BitVec.ofInt IntKind.i64.bits r33.1 &&& BitVec.ofInt IntKind.i64.bits r31.1).toNat : Int)), x36.1)]), x29.2.2.2))) none) none) none) none) none) (
 kx177_2_0 n26 x28.1 x28.2.1 x28.2.2 x29.1 x29.2.2.2 x29.2.1 x29.2.2.1)
noncomputable def l177_2 (d : Nat) (r15 : List Int) (kx177_2_0 : Int → (List Int) → Int → Int → ByteArray → Int → (List (Int × Int × Int × Int × Int × Int × Int × Int)) → (List (Int × Int × Int × Int × Int)) → Option ((ByteArray × (List (Int × Int × Int × Int × Int × Int × Int × Int)) × (List (Int × Int × Int × Int × Int)) × Int) × ((List Int) × Int × Int))) (ag25 : (Int × Int × ((List Int) × Int × Int) × (ByteArray × (List (Int × Int × Int × Int × Int × Int × Int × Int)) × (List (Int × Int × Int × Int × Int)) × Int)) → Option ((ByteArray × (List (Int × Int × Int × Int × Int × Int × Int × Int)) × (List (Int × Int × Int × Int × Int)) × Int) × ((List Int) × Int × Int))) (s : (Int × Int × ((List Int) × Int × Int) × (ByteArray × (List (Int × Int × Int × Int × Int × Int × Int × Int)) × (List (Int × Int × Int × Int × Int)) × Int))) : Option ((ByteArray × (List (Int × Int × Int × Int × Int × Int × Int × Int)) × (List (Int × Int × Int × Int × Int)) × Int) × ((List Int) × Int × Int)) := l177_2_b d r15 kx177_2_0 ag25 s.1 s.2.1 s.2.2.1 s.2.2.2
noncomputable def j177_3 (d : Nat) (r15 : List Int) (l17 : List Int) (n18 : Int) (n19 : Int) (s20 : ByteArray) (n21 : Int) (l22 : List (Int × Int × Int × Int × Int × Int × Int × Int)) (l23 : List (Int × Int × Int × Int × Int)) : Option ((ByteArray × (List (Int × Int × Int × Int × Int × Int × Int × Int)) × (List (Int × Int × Int × Int × Int)) × Int) × ((List Int) × Int × Int)) :=
 obind (g124 d (l17, n18, n19) 5) fun r24 =>
 iterP (l177_2 d r15 (j177_2 d r15)) fuelN (0, r24.1, r24.2, (s20, l22, l23, n21))
noncomputable def l177_1_b (d : Nat) (r15 : List Int) (kx177_1_0 : (List Int) → Int → Int → ByteArray → Int → (List (Int × Int × Int × Int × Int × Int × Int × Int)) → (List (Int × Int × Int × Int × Int)) → Option ((ByteArray × (List (Int × Int × Int × Int × Int × Int × Int × Int)) × (List (Int × Int × Int × Int × Int)) × Int) × ((List Int) × Int × Int))) (ag16 : (Int × ((List Int) × Int × Int) × (ByteArray × (List (Int × Int × Int × Int × Int × Int × Int × Int)) × (List (Int × Int × Int × Int × Int)) × Int)) → Option ((ByteArray × (List (Int × Int × Int × Int × Int × Int × Int × Int)) × (List (Int × Int × Int × Int × Int)) × Int) × ((List Int) × Int × Int))) (n17 : Int) (x18 : ((List Int) × Int × Int)) (x19 : (ByteArray × (List (Int × Int × Int × Int × Int × Int × Int × Int)) × (List (Int × Int × Int × Int × Int)) × Int)) : Option ((ByteArray × (List (Int × Int × Int × Int × Int × Int × Int × Int)) × (List (Int × Int × Int × Int × Int)) × Int) × ((List Int) × Int × Int)) :=
 oif (decide ((n17 : Int) < ((r15.length : Nat) : Int))) (
 oif (decide (0 ≤ (n17 : Int))) (
 oif (Nat.blt ((n17 : Int).toNat) r15.length) (
 obind (r15[(n17 : Int).toNat]?) fun n20 =>
 obind (g141 d x18 [1, 2, 3, 5, 10, 60]) fun r21 =>
 oif (decide (0 ≤ (n20 : Int))) (
 oif (Nat.blt ((n20 : Int).toNat) x19.2.1.length) (
 obind (x19.2.1[(n20 : Int).toNat]?) fun x22 =>
 ag16 ((IntKind.i64.wrap (n17 + 1)), r21.2, (x19.1, (x19.2.1.set ((n20 : Int).toNat) (x22.1, x22.2.1, x22.2.2.1, x22.2.2.2.1, x22.2.2.2.2.1, x22.2.2.2.2.2.1, x22.2.2.2.2.2.2.1, r21.1)), x19.2.2))) none) none) none) none) (
 kx177_1_0 x18.1 x18.2.1 x18.2.2 x19.1 x19.2.2.2 x19.2.1 x19.2.2.1)
noncomputable def l177_1 (d : Nat) (r15 : List Int) (kx177_1_0 : (List Int) → Int → Int → ByteArray → Int → (List (Int × Int × Int × Int × Int × Int × Int × Int)) → (List (Int × Int × Int × Int × Int)) → Option ((ByteArray × (List (Int × Int × Int × Int × Int × Int × Int × Int)) × (List (Int × Int × Int × Int × Int)) × Int) × ((List Int) × Int × Int))) (ag16 : (Int × ((List Int) × Int × Int) × (ByteArray × (List (Int × Int × Int × Int × Int × Int × Int × Int)) × (List (Int × Int × Int × Int × Int)) × Int)) → Option ((ByteArray × (List (Int × Int × Int × Int × Int × Int × Int × Int)) × (List (Int × Int × Int × Int × Int)) × Int) × ((List Int) × Int × Int))) (s : (Int × ((List Int) × Int × Int) × (ByteArray × (List (Int × Int × Int × Int × Int × Int × Int × Int)) × (List (Int × Int × Int × Int × Int)) × Int))) : Option ((ByteArray × (List (Int × Int × Int × Int × Int × Int × Int × Int)) × (List (Int × Int × Int × Int × Int)) × Int) × ((List Int) × Int × Int)) := l177_1_b d r15 kx177_1_0 ag16 s.1 s.2.1 s.2.2
noncomputable def j177_4 (d : Nat) (r9 : ((List (Int × Int × Int × Int × Int × Int × Int × Int)) × ((List Int) × Int × Int))) (s11 : ByteArray) (n12 : Int) (l13 : List (Int × Int × Int × Int × Int × Int × Int × Int)) (l14 : List (Int × Int × Int × Int × Int)) : Option ((ByteArray × (List (Int × Int × Int × Int × Int × Int × Int × Int)) × (List (Int × Int × Int × Int × Int)) × Int) × ((List Int) × Int × Int)) :=
 obind (g280 d (s11, l13, l14, n12)) fun r15 =>
 iterP (l177_1 d r15 (j177_3 d r15)) fuelN (0, r9.2, (s11, l13, l14, n12))
noncomputable def l177_0_b (d : Nat) (r9 : ((List (Int × Int × Int × Int × Int × Int × Int × Int)) × ((List Int) × Int × Int))) (kx177_0_0 : ByteArray → Int → (List (Int × Int × Int × Int × Int × Int × Int × Int)) → (List (Int × Int × Int × Int × Int)) → Option ((ByteArray × (List (Int × Int × Int × Int × Int × Int × Int × Int)) × (List (Int × Int × Int × Int × Int)) × Int) × ((List Int) × Int × Int))) (ag10 : (Int × (ByteArray × (List (Int × Int × Int × Int × Int × Int × Int × Int)) × (List (Int × Int × Int × Int × Int)) × Int)) → Option ((ByteArray × (List (Int × Int × Int × Int × Int × Int × Int × Int)) × (List (Int × Int × Int × Int × Int)) × Int) × ((List Int) × Int × Int))) (n11 : Int) (x12 : (ByteArray × (List (Int × Int × Int × Int × Int × Int × Int × Int)) × (List (Int × Int × Int × Int × Int)) × Int)) : Option ((ByteArray × (List (Int × Int × Int × Int × Int × Int × Int × Int)) × (List (Int × Int × Int × Int × Int)) × Int) × ((List Int) × Int × Int)) :=
 oif (decide ((n11 : Int) < ((r9.1.length : Nat) : Int))) (
 oif (decide (0 ≤ (n11 : Int))) (
 oif (Nat.blt ((n11 : Int).toNat) r9.1.length) (
 obind (r9.1[(n11 : Int).toNat]?) fun x13 =>
 obind (g279 d x12.2.1 x13) fun r14 =>
 ag10 ((IntKind.i64.wrap (n11 + 1)), (x12.1, r14, x12.2.2))) none) none) (
 kx177_0_0 x12.1 x12.2.2.2 x12.2.1 x12.2.2.1)
noncomputable def l177_0 (d : Nat) (r9 : ((List (Int × Int × Int × Int × Int × Int × Int × Int)) × ((List Int) × Int × Int))) (kx177_0_0 : ByteArray → Int → (List (Int × Int × Int × Int × Int × Int × Int × Int)) → (List (Int × Int × Int × Int × Int)) → Option ((ByteArray × (List (Int × Int × Int × Int × Int × Int × Int × Int)) × (List (Int × Int × Int × Int × Int)) × Int) × ((List Int) × Int × Int))) (ag10 : (Int × (ByteArray × (List (Int × Int × Int × Int × Int × Int × Int × Int)) × (List (Int × Int × Int × Int × Int)) × Int)) → Option ((ByteArray × (List (Int × Int × Int × Int × Int × Int × Int × Int)) × (List (Int × Int × Int × Int × Int)) × Int) × ((List Int) × Int × Int))) (s : (Int × (ByteArray × (List (Int × Int × Int × Int × Int × Int × Int × Int)) × (List (Int × Int × Int × Int × Int)) × Int))) : Option ((ByteArray × (List (Int × Int × Int × Int × Int × Int × Int × Int)) × (List (Int × Int × Int × Int × Int)) × Int) × ((List Int) × Int × Int)) := l177_0_b d r9 kx177_0_0 ag10 s.1 s.2
noncomputable def j177_5 (d : Nat) (r2 : (ByteArray × ((List Int) × Int × Int))) (r5 : (Bool × ((List Int) × Int × Int))) (n6 : Int) (b7 : Bool) : Option ((ByteArray × (List (Int × Int × Int × Int × Int × Int × Int × Int)) × (List (Int × Int × Int × Int × Int)) × Int) × ((List Int) × Int × Int)) :=
 obind (g265 d n6 24) fun r8 =>
 obind (g278 d r5.2 r8 b7) fun r9 =>
 iterP (l177_0 d r9 (j177_4 d r9)) fuelN (0, (r2.1, [], [], 0))
theorem e177 (d : Nat) (x1 : ((List Int) × Int × Int)) : g177 (d + 1) x1 =
 obind (g175 d x1 [(⟨#[101, 116, 104]⟩ : ByteArray), (⟨#[119, 97, 110]⟩ : ByteArray), (⟨#[108, 97, 98]⟩ : ByteArray), (⟨#[97]⟩ : ByteArray), (⟨#[97, 98, 99, 100, 101, 102, 103, 104]⟩ : ByteArray)]) fun r2 =>
 obind (g124 d r2.2 8) fun r3 =>
 obind (g125 d r3.2 5) fun r4 =>
 obind (g125 d r4.2 24) fun r5 =>
 oif r5.1 (
 j177_5 d r2 r5 24 false) (
 j177_5 d r2 r5 (IntKind.i64.wrap ((1 : Int) + r3.1)) r4.1) := by kernel_rfl

theorem e60 (d : Nat) (l1 : List Int) : g60 (d + 1) l1 =
 obind (g177 d (l1, 0, 0)) fun r2 =>
 oif (Nat.blt 0 r2.1.2.1.length) (
 obind (r2.1.2.1[0]?) fun x3 =>
 obind (g125 d r2.2 6) fun r4 =>
 oif r4.1 (
 obind (g141 d r4.2 [(-1), 1000000000, 1000000001]) fun r5 =>
 some (x3.1, x3.2.1, x3.2.2.1, x3.2.2.2.1, r5.1, x3.2.2.2.2.2)) (
 some x3)) none := by kernel_rfl

noncomputable def j178_0 (d : Nat)  (b3 : Bool) : Option Bool :=
 some true
noncomputable def l178_0_b (d : Nat) (l1 : List Int) (kx178_0_0 : Bool → Option Bool) (ag2 : (Bool × Int) → Option Bool) (b3 : Bool) (n4 : Int) : Option Bool :=
 oif (decide ((n4 : Int) < ((l1.length : Nat) : Int))) (
 oif (decide (0 ≤ (n4 : Int))) (
 obind (l1[(n4 : Int).toNat]?) fun n5 =>
 obind (g171 d n5) fun r6 =>
 oif (!r6) (
 some false) (
 ag2 (b3, (IntKind.i64.wrap (n4 + 1))))) none) (
 kx178_0_0 b3)
noncomputable def l178_0 (d : Nat) (l1 : List Int) (kx178_0_0 : Bool → Option Bool) (ag2 : (Bool × Int) → Option Bool) (s : (Bool × Int)) : Option Bool := l178_0_b d l1 kx178_0_0 ag2 s.1 s.2
theorem e178 (d : Nat) (l1 : List Int) : g178 (d + 1) l1 =
 iterP (l178_0 d l1 (j178_0 d)) fuelN (false, 0) := by kernel_rfl

theorem e179 (d : Nat) (x1 : (Int × Int × Int × Int × Int × Int × Int × Int)) : g179 (d + 1) x1 =
 some [x1.1, x1.2.1, x1.2.2.1, x1.2.2.2.1, x1.2.2.2.2.1, x1.2.2.2.2.2.1, x1.2.2.2.2.2.2.1, x1.2.2.2.2.2.2.2] := by kernel_rfl

noncomputable def j180_0 (d : Nat)  (l4 : List (Int × Int × Bool × ByteArray)) : Option (List (Int × Int × Bool × ByteArray)) :=
 some l4
noncomputable def l180_0_b (d : Nat) (l2 : List Int) (kx180_0_0 : (List (Int × Int × Bool × ByteArray)) → Option (List (Int × Int × Bool × ByteArray))) (ag3 : ((List (Int × Int × Bool × ByteArray)) × Int) → Option (List (Int × Int × Bool × ByteArray))) (l4 : List (Int × Int × Bool × ByteArray)) (n5 : Int) : Option (List (Int × Int × Bool × ByteArray)) :=
 oif (decide ((n5 : Int) < ((l2.length : Nat) : Int))) (
 oif (decide (0 ≤ (n5 : Int))) (
 obind (l2[(n5 : Int).toNat]?) fun n6 =>
 obind (g172 d n6) fun r7 =>
 oif (Nat.ble ((l4.length + [(3, (IntKind.i64.wrap (n5 + 1)), false, r7)].length) * 40) roomMax) (
 ag3 ((l4 ++ [(3, (IntKind.i64.wrap (n5 + 1)), false, r7)]), (IntKind.i64.wrap (n5 + 1)))) none) none) (
 kx180_0_0 l4)
noncomputable def l180_0 (d : Nat) (l2 : List Int) (kx180_0_0 : (List (Int × Int × Bool × ByteArray)) → Option (List (Int × Int × Bool × ByteArray))) (ag3 : ((List (Int × Int × Bool × ByteArray)) × Int) → Option (List (Int × Int × Bool × ByteArray))) (s : ((List (Int × Int × Bool × ByteArray)) × Int)) : Option (List (Int × Int × Bool × ByteArray)) := l180_0_b d l2 kx180_0_0 ag3 s.1 s.2
theorem e180 (d : Nat) (n1 : Int) (l2 : List Int) : g180 (d + 1) n1 l2 =
 iterP (l180_0 d l2 (j180_0 d)) fuelN ([(2, n1, true, (⟨#[]⟩ : ByteArray))], 0) := by kernel_rfl

theorem e61 (d : Nat) (x1 : (Int × Int × Int × Int × Int × Int × Int × Int)) : g61 (d + 1) x1 =
 obind (g179 d x1) fun r2 =>
 obind (g178 d r2) fun r3 =>
 oif (!r3) (
 some ([], false)) (
 obind (g179 d x1) fun r4 =>
 obind (g180 d 4 r4) fun r5 =>
 some (r5, true)) := by kernel_rfl

noncomputable def j264_0 (d : Nat)  (b5 : Bool) : Option Bool :=
 some true
noncomputable def l264_0_b (d : Nat) (l1 : List Int) (n2 : Int) (n3 : Int) (kx264_0_0 : Bool → Option Bool) (ag4 : (Bool × Int) → Option Bool) (b5 : Bool) (n6 : Int) : Option Bool :=
 oif (decide ((n6 : Int) < ((l1.length : Nat) : Int))) (
 oif (decide (0 ≤ (n6 : Int))) (
 obind (l1[(n6 : Int).toNat]?) fun n7 =>
 obind (g142 d n7 n2 n3) fun r8 =>
 oif (!r8) (
 some false) (
 ag4 (b5, (IntKind.i64.wrap (n6 + 1))))) none) (
 kx264_0_0 b5)
noncomputable def l264_0 (d : Nat) (l1 : List Int) (n2 : Int) (n3 : Int) (kx264_0_0 : Bool → Option Bool) (ag4 : (Bool × Int) → Option Bool) (s : (Bool × Int)) : Option Bool := l264_0_b d l1 n2 n3 kx264_0_0 ag4 s.1 s.2
theorem e264 (d : Nat) (l1 : List Int) (n2 : Int) (n3 : Int) : g264 (d + 1) l1 n2 n3 =
 iterP (l264_0 d l1 n2 n3 (j264_0 d)) fuelN (false, 0) := by kernel_rfl

theorem e181 (d : Nat) (l1 : List Int) : g181 (d + 1) l1 =
 obind (g264 d l1 0 1000000000) fun r2 =>
 some r2 := by kernel_rfl

theorem e182 (d : Nat) (x1 : (Int × Int × Int × Int × Int × Int × Int × Int)) : g182 (d + 1) x1 =
 some [x1.1, x1.2.1, x1.2.2.1, x1.2.2.2.1, x1.2.2.2.2.1, x1.2.2.2.2.2.1, x1.2.2.2.2.2.2.1, x1.2.2.2.2.2.2.2] := by kernel_rfl

noncomputable def j183_0 (d : Nat)  (l4 : List (Int × Int × Bool × ByteArray)) : Option (List (Int × Int × Bool × ByteArray)) :=
 some l4
noncomputable def l183_0_b (d : Nat) (l2 : List Int) (kx183_0_0 : (List (Int × Int × Bool × ByteArray)) → Option (List (Int × Int × Bool × ByteArray))) (ag3 : ((List (Int × Int × Bool × ByteArray)) × Int) → Option (List (Int × Int × Bool × ByteArray))) (l4 : List (Int × Int × Bool × ByteArray)) (n5 : Int) : Option (List (Int × Int × Bool × ByteArray)) :=
 oif (decide ((n5 : Int) < ((l2.length : Nat) : Int))) (
 oif (decide (0 ≤ (n5 : Int))) (
 obind (l2[(n5 : Int).toNat]?) fun n6 =>
 obind (g174 d n6) fun r7 =>
 oif (Nat.ble ((l4.length + [(3, (IntKind.i64.wrap (n5 + 1)), false, r7)].length) * 40) roomMax) (
 ag3 ((l4 ++ [(3, (IntKind.i64.wrap (n5 + 1)), false, r7)]), (IntKind.i64.wrap (n5 + 1)))) none) none) (
 kx183_0_0 l4)
noncomputable def l183_0 (d : Nat) (l2 : List Int) (kx183_0_0 : (List (Int × Int × Bool × ByteArray)) → Option (List (Int × Int × Bool × ByteArray))) (ag3 : ((List (Int × Int × Bool × ByteArray)) × Int) → Option (List (Int × Int × Bool × ByteArray))) (s : ((List (Int × Int × Bool × ByteArray)) × Int)) : Option (List (Int × Int × Bool × ByteArray)) := l183_0_b d l2 kx183_0_0 ag3 s.1 s.2
theorem e183 (d : Nat) (n1 : Int) (l2 : List Int) : g183 (d + 1) n1 l2 =
 iterP (l183_0 d l2 (j183_0 d)) fuelN ([(2, n1, true, (⟨#[]⟩ : ByteArray))], 0) := by kernel_rfl

theorem e62 (d : Nat) (x1 : (Int × Int × Int × Int × Int × Int × Int × Int)) : g62 (d + 1) x1 =
 obind (g182 d x1) fun r2 =>
 obind (g181 d r2) fun r3 =>
 oif (!r3) (
 some ([], false)) (
 obind (g182 d x1) fun r4 =>
 obind (g183 d 4 r4) fun r5 =>
 some (r5, true)) := by kernel_rfl

theorem e63 (d : Nat) (l1 : List Int) : g63 (d + 1) l1 =
 obind (g124 d (l1, 0, 0) 100) fun r2 =>
 obind (g124 d r2.2 4) fun r3 =>
 obind (g124 d r3.2 60000) fun r4 =>
 obind (g170 d r4.2) fun r5 =>
 obind (g124 d r5.2 999) fun r6 =>
 some (r2.1, r3.1, r4.1, r5.1, r6.1) := by kernel_rfl

theorem e184 (d : Nat) (x1 : (Int × Int × Int × Int × Int)) : g184 (d + 1) x1 =
 some [x1.1, x1.2.1, x1.2.2.1, x1.2.2.2.1, x1.2.2.2.2] := by kernel_rfl

theorem e64 (d : Nat) (x1 : (Int × Int × Int × Int × Int)) : g64 (d + 1) x1 =
 obind (g184 d x1) fun r2 =>
 obind (g178 d r2) fun r3 =>
 oif (!r3) (
 some ([], false)) (
 obind (g184 d x1) fun r4 =>
 obind (g180 d 5 r4) fun r5 =>
 some (r5, true)) := by kernel_rfl

theorem e185 (d : Nat) (x1 : (Int × Int × Int × Int × Int)) : g185 (d + 1) x1 =
 some [x1.1, x1.2.1, x1.2.2.1, x1.2.2.2.1, x1.2.2.2.2] := by kernel_rfl

theorem e65 (d : Nat) (x1 : (Int × Int × Int × Int × Int)) : g65 (d + 1) x1 =
 obind (g185 d x1) fun r2 =>
 obind (g181 d r2) fun r3 =>
 oif (!r3) (
 some ([], false)) (
 obind (g185 d x1) fun r4 =>
 obind (g183 d 5 r4) fun r5 =>
 some (r5, true)) := by kernel_rfl

noncomputable def j66_0 (d : Nat)  (b4 : Bool) : Option Bool :=
 some true
noncomputable def l66_0_b (d : Nat) (l1 : List (Int × Int × Bool × ByteArray)) (l2 : List (Int × Int × Bool × ByteArray)) (kx66_0_0 : Bool → Option Bool) (ag3 : (Bool × Int) → Option Bool) (b4 : Bool) (n5 : Int) : Option Bool :=
 oif (decide ((n5 : Int) < ((l1.length : Nat) : Int))) (
 oif (decide (0 ≤ (n5 : Int))) (
 obind (l1[(n5 : Int).toNat]?) fun x6 =>
 oif (decide (0 ≤ (n5 : Int))) (
 obind (l2[(n5 : Int).toNat]?) fun x7 =>
 oif (!(((x6.1 : Int) == x7.1) && (((x6.2.1 : Int) == x7.2.1) && ((x6.2.2.1 == x7.2.2.1) && (((x6.2.2.2 : ByteArray).toList == (x7.2.2.2 : ByteArray).toList) && true))))) (
 some false) (
 ag3 (b4, (IntKind.i64.wrap (n5 + 1))))) none) none) (
 kx66_0_0 b4)
noncomputable def l66_0 (d : Nat) (l1 : List (Int × Int × Bool × ByteArray)) (l2 : List (Int × Int × Bool × ByteArray)) (kx66_0_0 : Bool → Option Bool) (ag3 : (Bool × Int) → Option Bool) (s : (Bool × Int)) : Option Bool := l66_0_b d l1 l2 kx66_0_0 ag3 s.1 s.2
theorem e66 (d : Nat) (l1 : List (Int × Int × Bool × ByteArray)) (l2 : List (Int × Int × Bool × ByteArray)) : g66 (d + 1) l1 l2 =
 oif ((((l1.length : Nat) : Int) : Int) != ((l2.length : Nat) : Int)) (
 some false) (
 iterP (l66_0 d l1 l2 (j66_0 d)) fuelN (false, 0)) := by kernel_rfl

noncomputable def j305_0 (d : Nat)  (n4 : Int) : Option Int :=
 some n4
noncomputable def l305_0_b (d : Nat) (l1 : List (Int × Int × Bool × ByteArray)) (n2 : Int) (kx305_0_0 : Int → Option Int) (ag3 : Int → Option Int) (n4 : Int) : Option Int :=
 oif (decide ((n4 : Int) < ((l1.length : Nat) : Int))) (
 oif (decide (0 ≤ (n4 : Int))) (
 obind (l1[(n4 : Int).toNat]?) fun x5 =>
 oif (decide (0 ≤ (n2 : Int))) (
 obind (l1[(n2 : Int).toNat]?) fun x6 =>
 oif (decide ((x5.1 : Int) > x6.1)) (
 ag3 (IntKind.i64.wrap (n4 + 1))) (
 kx305_0_0 n4)) none) none) (
 kx305_0_0 n4)
noncomputable def l305_0 (d : Nat) (l1 : List (Int × Int × Bool × ByteArray)) (n2 : Int) (kx305_0_0 : Int → Option Int) (ag3 : Int → Option Int) (s : Int) : Option Int := l305_0_b d l1 n2 kx305_0_0 ag3 s
theorem e305 (d : Nat) (l1 : List (Int × Int × Bool × ByteArray)) (n2 : Int) : g305 (d + 1) l1 n2 =
 iterP (l305_0 d l1 n2 (j305_0 d)) fuelN (IntKind.i64.wrap (n2 + 1)) := by kernel_rfl

theorem e306 (d : Nat) (n1 : Int) : g306 (d + 1) n1 =
 some (IntKind.i64.wrap ((IntKind.i64.wrap ((IntKind.i64.wrap (n1 + 3)).tdiv 4)) * 4)) := by kernel_rfl

noncomputable def j308_0 (d : Nat)  (s11 : ByteArray) : Option ByteArray :=
 some s11
noncomputable def l308_0_b (d : Nat) (s6 : ByteArray) (kx308_0_0 : ByteArray → Option ByteArray) (ag10 : ByteArray → Option ByteArray) (s11 : ByteArray) : Option ByteArray :=
 obind (g306 d (IntKind.i64.wrap ((4 : Int) + ((s6 : ByteArray).size : Int)))) fun r12 =>
 oif (decide ((((s11 : ByteArray).size : Int) : Int) < r12)) (
 oif (Nat.ble ((s11 : ByteArray).size + ((⟨#[0]⟩ : ByteArray) : ByteArray).size) 9223372036854775807) (
 ag10 ((s11 : ByteArray) ++ ((⟨#[0]⟩ : ByteArray) : ByteArray))) none) (
 kx308_0_0 s11)
noncomputable def l308_0 (d : Nat) (s6 : ByteArray) (kx308_0_0 : ByteArray → Option ByteArray) (ag10 : ByteArray → Option ByteArray) (s : ByteArray) : Option ByteArray := l308_0_b d s6 kx308_0_0 ag10 s
noncomputable def j308_1 (d : Nat)  (s6 : ByteArray) (n7 : Int) : Option ByteArray :=
 obind (g248 d (IntKind.i64.wrap ((4 : Int) + ((s6 : ByteArray).size : Int)))) fun r8 =>
 obind (g248 d n7) fun r9 =>
 oif (Nat.ble ((r8 : ByteArray).size + (r9 : ByteArray).size) 9223372036854775807) (
 oif (Nat.ble ((((r8 : ByteArray) ++ (r9 : ByteArray)) : ByteArray).size + (s6 : ByteArray).size) 9223372036854775807) (
 iterP (l308_0 d s6 (j308_0 d)) fuelN ((((r8 : ByteArray) ++ (r9 : ByteArray)) : ByteArray) ++ (s6 : ByteArray))) none) none
theorem e308 (d : Nat) (l1 : List (Int × Int × Bool × ByteArray)) (n2 : Int) : g308 (d + 1) l1 n2 =
 oif (decide (0 ≤ (n2 : Int))) (
 obind (l1[(n2 : Int).toNat]?) fun x3 =>
 oif (decide (0 ≤ (n2 : Int))) (
 obind (l1[(n2 : Int).toNat]?) fun x4 =>
 oif (decide (0 ≤ (n2 : Int))) (
 obind (l1[(n2 : Int).toNat]?) fun x5 =>
 oif x5.2.2.1 (
 obind (g305 d l1 n2) fun r6 =>
 obind (g246 d l1 (IntKind.i64.wrap (n2 + 1)) r6) fun r7 =>
 j308_1 d r7 (IntKind.i64.wrap (x4.2.1 + 32768))) (
 j308_1 d x3.2.2.2 x4.2.1)) none) none) none := by kernel_rfl

noncomputable def j246_0 (d : Nat)  (s5 : ByteArray) : Option ByteArray :=
 some s5
noncomputable def l246_0_b (d : Nat) (l1 : List (Int × Int × Bool × ByteArray)) (n3 : Int) (kx246_0_0 : ByteArray → Option ByteArray) (ag4 : (ByteArray × Int) → Option ByteArray) (s5 : ByteArray) (n6 : Int) : Option ByteArray :=
 oif (decide ((n6 : Int) < n3)) (
 obind (g308 d l1 n6) fun r7 =>
 oif (Nat.ble ((s5 : ByteArray).size + (r7 : ByteArray).size) 9223372036854775807) (
 obind (g305 d l1 n6) fun r8 =>
 ag4 (((s5 : ByteArray) ++ (r7 : ByteArray)), r8)) none) (
 kx246_0_0 s5)
noncomputable def l246_0 (d : Nat) (l1 : List (Int × Int × Bool × ByteArray)) (n3 : Int) (kx246_0_0 : ByteArray → Option ByteArray) (ag4 : (ByteArray × Int) → Option ByteArray) (s : (ByteArray × Int)) : Option ByteArray := l246_0_b d l1 n3 kx246_0_0 ag4 s.1 s.2
theorem e246 (d : Nat) (l1 : List (Int × Int × Bool × ByteArray)) (n2 : Int) (n3 : Int) : g246 (d + 1) l1 n2 n3 =
 iterP (l246_0 d l1 n3 (j246_0 d)) fuelN ((⟨#[]⟩ : ByteArray), n2) := by kernel_rfl

noncomputable def j281_0 (d : Nat)  (l6 : List (Int × Int × Bool × ByteArray)) : Option (List (Int × Int × Bool × ByteArray)) :=
 some l6
noncomputable def l281_1_b (d : Nat) (x1 : (ByteArray × (List (Int × Int × Int × Int × Int × Int × Int × Int)) × (List (Int × Int × Int × Int × Int)) × Int)) (kx281_1_0 : (List (Int × Int × Bool × ByteArray)) → Option (List (Int × Int × Bool × ByteArray))) (ag5 : ((List (Int × Int × Bool × ByteArray)) × Int) → Option (List (Int × Int × Bool × ByteArray))) (l6 : List (Int × Int × Bool × ByteArray)) (n7 : Int) : Option (List (Int × Int × Bool × ByteArray)) :=
 oif (decide ((n7 : Int) < ((x1.2.2.1.length : Nat) : Int))) (
 oif (decide (0 ≤ (n7 : Int))) (
 obind (x1.2.2.1[(n7 : Int).toNat]?) fun x8 =>
 obind (g185 d x8) fun r9 =>
 obind (g183 d 5 r9) fun r10 =>
 oif (Nat.ble ((l6.length + r10.length) * 40) roomMax) (
 ag5 ((l6 ++ r10), (IntKind.i64.wrap (n7 + 1)))) none) none) (
 kx281_1_0 l6)
noncomputable def l281_1 (d : Nat) (x1 : (ByteArray × (List (Int × Int × Int × Int × Int × Int × Int × Int)) × (List (Int × Int × Int × Int × Int)) × Int)) (kx281_1_0 : (List (Int × Int × Bool × ByteArray)) → Option (List (Int × Int × Bool × ByteArray))) (ag5 : ((List (Int × Int × Bool × ByteArray)) × Int) → Option (List (Int × Int × Bool × ByteArray))) (s : ((List (Int × Int × Bool × ByteArray)) × Int)) : Option (List (Int × Int × Bool × ByteArray)) := l281_1_b d x1 kx281_1_0 ag5 s.1 s.2
noncomputable def j281_1 (d : Nat) (x1 : (ByteArray × (List (Int × Int × Int × Int × Int × Int × Int × Int)) × (List (Int × Int × Int × Int × Int)) × Int)) (l4 : List (Int × Int × Bool × ByteArray)) : Option (List (Int × Int × Bool × ByteArray)) :=
 iterP (l281_1 d x1 (j281_0 d)) fuelN (l4, 0)
noncomputable def l281_0_b (d : Nat) (x1 : (ByteArray × (List (Int × Int × Int × Int × Int × Int × Int × Int)) × (List (Int × Int × Int × Int × Int)) × Int)) (kx281_0_0 : (List (Int × Int × Bool × ByteArray)) → Option (List (Int × Int × Bool × ByteArray))) (ag3 : ((List (Int × Int × Bool × ByteArray)) × Int) → Option (List (Int × Int × Bool × ByteArray))) (l4 : List (Int × Int × Bool × ByteArray)) (n5 : Int) : Option (List (Int × Int × Bool × ByteArray)) :=
 oif (decide ((n5 : Int) < ((x1.2.1.length : Nat) : Int))) (
 oif (decide (0 ≤ (n5 : Int))) (
 obind (x1.2.1[(n5 : Int).toNat]?) fun x6 =>
 obind (g182 d x6) fun r7 =>
 obind (g183 d 4 r7) fun r8 =>
 oif (Nat.ble ((l4.length + r8.length) * 40) roomMax) (
 ag3 ((l4 ++ r8), (IntKind.i64.wrap (n5 + 1)))) none) none) (
 kx281_0_0 l4)
noncomputable def l281_0 (d : Nat) (x1 : (ByteArray × (List (Int × Int × Int × Int × Int × Int × Int × Int)) × (List (Int × Int × Int × Int × Int)) × Int)) (kx281_0_0 : (List (Int × Int × Bool × ByteArray)) → Option (List (Int × Int × Bool × ByteArray))) (ag3 : ((List (Int × Int × Bool × ByteArray)) × Int) → Option (List (Int × Int × Bool × ByteArray))) (s : ((List (Int × Int × Bool × ByteArray)) × Int)) : Option (List (Int × Int × Bool × ByteArray)) := l281_0_b d x1 kx281_0_0 ag3 s.1 s.2
theorem e281 (d : Nat) (x1 : (ByteArray × (List (Int × Int × Int × Int × Int × Int × Int × Int)) × (List (Int × Int × Int × Int × Int)) × Int)) : g281 (d + 1) x1 =
 obind (g174 d x1.2.2.2) fun r2 =>
 iterP (l281_0 d x1 (j281_1 d x1)) fuelN ([(1, 1, true, (⟨#[]⟩ : ByteArray)), (2, 2, false, x1.1), (2, 3, false, r2)], 0) := by kernel_rfl

theorem e186 (d : Nat) (x1 : (ByteArray × (List (Int × Int × Int × Int × Int × Int × Int × Int)) × (List (Int × Int × Int × Int × Int)) × Int)) : g186 (d + 1) x1 =
 obind (g281 d x1) fun r2 =>
 obind (g246 d r2 0 ((r2.length : Nat) : Int)) fun r3 =>
 some r3 := by kernel_rfl

theorem e187 (d : Nat) (x1 : ((List Int) × Int × Int)) (s2 : ByteArray) : g187 (d + 1) x1 s2 =
 oif ((((s2 : ByteArray).size : Int) : Int) == 0) (
 obind (g175 d x1 [(⟨#[]⟩ : ByteArray), (⟨#[0, 0, 0]⟩ : ByteArray), (⟨#[3, 0, 3, 0]⟩ : ByteArray), (⟨#[4, 0, 0, 0]⟩ : ByteArray), (⟨#[5, 0, 0, 0, 97, 0, 0, 1]⟩ : ByteArray)]) fun r3 =>
 some (r3.1, r3.2)) (
 obind (g124 d x1 6) fun r4 =>
 oif ((r4.1 : Int) == 0) (
 obind (g124 d r4.2 ((s2 : ByteArray).size : Int)) fun r5 =>
 oif (decide (0 ≤ (r5.1 : Int))) (
 oif (Nat.ble 0 ((r5.1 : Int).toNat) && Nat.ble ((r5.1 : Int).toNat) (s2 : ByteArray).size) (
 obind (g124 d r5.2 12) fun r6 =>
 oif (Nat.ble ((((s2 : ByteArray).extract 0 ((r5.1 : Int).toNat)) : ByteArray).size + ((strL [(IntKind.u8.wrap r6.1)]) : ByteArray).size) 9223372036854775807) (
 oif (decide (0 ≤ ((IntKind.i64.wrap (r5.1 + 1)) : Int))) (
 oif (Nat.ble (((IntKind.i64.wrap (r5.1 + 1)) : Int).toNat) ((s2 : ByteArray).size) && Nat.ble ((s2 : ByteArray).size) (s2 : ByteArray).size) (
 oif (Nat.ble ((((((s2 : ByteArray).extract 0 ((r5.1 : Int).toNat)) : ByteArray) ++ ((strL [(IntKind.u8.wrap r6.1)]) : ByteArray)) : ByteArray).size + (((s2 : ByteArray).extract (((IntKind.i64.wrap (r5.1 + 1)) : Int).toNat) ((s2 : ByteArray).size)) : ByteArray).size) 9223372036854775807) (
 some (((((((s2 : ByteArray).extract 0 ((r5.1 : Int).toNat)) : ByteArray) ++ ((strL [(IntKind.u8.wrap r6.1)]) : ByteArray)) : ByteArray) ++ (((s2 : ByteArray).extract (((IntKind.i64.wrap (r5.1 + 1)) : Int).toNat) ((s2 : ByteArray).size)) : ByteArray)), r6.2)) none) none) none) none) none) none) (
 oif ((r4.1 : Int) == 1) (
 obind (g124 d r4.2 ((s2 : ByteArray).size : Int)) fun r7 =>
 oif (decide (0 ≤ (r7.1 : Int))) (
 oif (Nat.ble 0 ((r7.1 : Int).toNat) && Nat.ble ((r7.1 : Int).toNat) (s2 : ByteArray).size) (
 some (((s2 : ByteArray).extract 0 ((r7.1 : Int).toNat)), r7.2)) none) none) (
 oif ((r4.1 : Int) == 2) (
 obind (g175 d r4.2 [(⟨#[0]⟩ : ByteArray), (⟨#[4, 0, 0, 128]⟩ : ByteArray), (⟨#[0, 0, 0, 0]⟩ : ByteArray), (⟨#[8, 0, 0, 128, 3, 0, 0, 0]⟩ : ByteArray)]) fun r8 =>
 oif (Nat.ble ((s2 : ByteArray).size + (r8.1 : ByteArray).size) 9223372036854775807) (
 some (((s2 : ByteArray) ++ (r8.1 : ByteArray)), r8.2)) none) (
 some (s2, r4.2))))) := by kernel_rfl

noncomputable def j188_0 (d : Nat) (x1 : ((List Int) × Int × Int)) (s4 : ByteArray) : Option (ByteArray × ((List Int) × Int × Int)) :=
 some (s4, x1)
noncomputable def l188_0_b (d : Nat) (n2 : Int) (kx188_0_0 : ByteArray → Option (ByteArray × ((List Int) × Int × Int))) (ag3 : ByteArray → Option (ByteArray × ((List Int) × Int × Int))) (s4 : ByteArray) : Option (ByteArray × ((List Int) × Int × Int)) :=
 oif (decide ((((s4 : ByteArray).size : Int) : Int) < n2)) (
 oif (Nat.ble ((s4 : ByteArray).size + ((⟨#[120]⟩ : ByteArray) : ByteArray).size) 9223372036854775807) (
 ag3 ((s4 : ByteArray) ++ ((⟨#[120]⟩ : ByteArray) : ByteArray))) none) (
 kx188_0_0 s4)
noncomputable def l188_0 (d : Nat) (n2 : Int) (kx188_0_0 : ByteArray → Option (ByteArray × ((List Int) × Int × Int))) (ag3 : ByteArray → Option (ByteArray × ((List Int) × Int × Int))) (s : ByteArray) : Option (ByteArray × ((List Int) × Int × Int)) := l188_0_b d n2 kx188_0_0 ag3 s
theorem e188 (d : Nat) (x1 : ((List Int) × Int × Int)) (n2 : Int) : g188 (d + 1) x1 n2 =
 iterP (l188_0 d n2 (j188_0 d x1)) fuelN (⟨#[]⟩ : ByteArray) := by kernel_rfl

theorem e67 (d : Nat) (l1 : List Int) : g67 (d + 1) l1 =
 obind (g177 d (l1, 0, 0)) fun r2 =>
 obind (g186 d r2.1) fun r3 =>
 obind (g124 d r2.2 4) fun r4 =>
 oif ((r4.1 : Int) == 0) (
 some (r3, r3)) (
 oif ((r4.1 : Int) == 1) (
 obind (g187 d r4.2 r3) fun r5 =>
 some (r3, r5.1)) (
 oif ((r4.1 : Int) == 2) (
 obind (g124 d r4.2 2) fun r6 =>
 obind (g188 d r6.2 (IntKind.i64.wrap ((6000 : Int) + r6.1))) fun r7 =>
 some (r3, r7.1)) (
 obind (g177 d r4.2) fun r8 =>
 obind (g186 d r8.1) fun r9 =>
 some (r3, r9)))) := by kernel_rfl

noncomputable def j68_0 (d : Nat)  (n5 : Int) : Option (Int × Bool) :=
 some (n5, true)
noncomputable def l68_0_b (d : Nat) (s1 : ByteArray) (s2 : ByteArray) (kx68_0_0 : Int → Option (Int × Bool)) (ag4 : Int → Option (Int × Bool)) (n5 : Int) : Option (Int × Bool) :=
 oif (decide ((n5 : Int) < ((s1 : ByteArray).size : Int))) (
 oif (decide ((n5 : Int) < ((s2 : ByteArray).size : Int))) (
 oif (decide (0 ≤ (n5 : Int))) (
 obind ((s1 : ByteArray).data.toList[(n5 : Int).toNat]?) fun c6 =>
 oif (decide (0 ≤ (n5 : Int))) (
 obind ((s2 : ByteArray).data.toList[(n5 : Int).toNat]?) fun c7 =>
 oif (((c6.toNat : Int) : Int) == (c7.toNat : Int)) (
 ag4 (IntKind.i64.wrap (n5 + 1))) (
 kx68_0_0 n5)) none) none) (
 kx68_0_0 n5)) (
 kx68_0_0 n5)
noncomputable def l68_0 (d : Nat) (s1 : ByteArray) (s2 : ByteArray) (kx68_0_0 : Int → Option (Int × Bool)) (ag4 : Int → Option (Int × Bool)) (s : Int) : Option (Int × Bool) := l68_0_b d s1 s2 kx68_0_0 ag4 s
noncomputable def j68_1 (d : Nat) (s1 : ByteArray) (s2 : ByteArray) (b3 : Bool) : Option (Int × Bool) :=
 oif b3 (
 some (0, false)) (
 iterP (l68_0 d s1 s2 (j68_0 d)) fuelN 0)
theorem e68 (d : Nat) (s1 : ByteArray) (s2 : ByteArray) : g68 (d + 1) s1 s2 =
 oif (decide ((((s1 : ByteArray).size : Int) : Int) > 6000)) (
 j68_1 d s1 s2 true) (
 oif (decide ((((s2 : ByteArray).size : Int) : Int) > 6000)) (
 j68_1 d s1 s2 true) (
 j68_1 d s1 s2 ((s1 : ByteArray).toList == (s2 : ByteArray).toList))) := by kernel_rfl

noncomputable def j69_0 (d : Nat)  (n5 : Int) : Option (Int × Bool) :=
 some (n5, true)
noncomputable def l69_0_b (d : Nat) (s1 : ByteArray) (s2 : ByteArray) (kx69_0_0 : Int → Option (Int × Bool)) (ag4 : Int → Option (Int × Bool)) (n5 : Int) : Option (Int × Bool) :=
 oif (decide ((n5 : Int) < ((s1 : ByteArray).size : Int))) (
 oif (decide ((n5 : Int) < ((s2 : ByteArray).size : Int))) (
 oif (decide (0 ≤ (n5 : Int))) (
 obind ((s1 : ByteArray).data.toList[(n5 : Int).toNat]?) fun c6 =>
 oif (decide (0 ≤ (n5 : Int))) (
 obind ((s2 : ByteArray).data.toList[(n5 : Int).toNat]?) fun c7 =>
 oif (((c6.toNat : Int) : Int) == (c7.toNat : Int)) (
 ag4 (IntKind.i64.wrap (n5 + 1))) (
 kx69_0_0 n5)) none) none) (
 kx69_0_0 n5)) (
 kx69_0_0 n5)
noncomputable def l69_0 (d : Nat) (s1 : ByteArray) (s2 : ByteArray) (kx69_0_0 : Int → Option (Int × Bool)) (ag4 : Int → Option (Int × Bool)) (s : Int) : Option (Int × Bool) := l69_0_b d s1 s2 kx69_0_0 ag4 s
noncomputable def j69_1 (d : Nat) (s1 : ByteArray) (s2 : ByteArray) (b3 : Bool) : Option (Int × Bool) :=
 oif b3 (
 some (0, false)) (
 iterP (l69_0 d s1 s2 (j69_0 d)) fuelN 0)
theorem e69 (d : Nat) (s1 : ByteArray) (s2 : ByteArray) : g69 (d + 1) s1 s2 =
 oif (decide ((((s1 : ByteArray).size : Int) : Int) > 6000)) (
 j69_1 d s1 s2 true) (
 oif (decide ((((s2 : ByteArray).size : Int) : Int) > 6000)) (
 j69_1 d s1 s2 true) (
 j69_1 d s1 s2 ((s1 : ByteArray).toList == (s2 : ByteArray).toList))) := by kernel_rfl

noncomputable def j6_0 (d : Nat) (r19 : (ByteArray × ByteArray)) (r20 : (Int × Bool)) (r21 : (Int × Bool)) (b22 : Bool) : Option Bool :=
 oif b22 (
 some false) (
 oif r20.2 (
 oif (decide ((r21.1 : Int) ≤ ((r19.1 : ByteArray).size : Int))) (
 oif (decide ((r21.1 : Int) ≤ ((r19.2 : ByteArray).size : Int))) (
 oif (decide (0 ≤ (r21.1 : Int))) (
 oif (Nat.ble 0 ((r21.1 : Int).toNat) && Nat.ble ((r21.1 : Int).toNat) (r19.1 : ByteArray).size) (
 oif (decide (0 ≤ (r21.1 : Int))) (
 oif (Nat.ble 0 ((r21.1 : Int).toNat) && Nat.ble ((r21.1 : Int).toNat) (r19.2 : ByteArray).size) (
 oif ((((r19.1 : ByteArray).extract 0 ((r21.1 : Int).toNat)) : ByteArray).toList == (((r19.2 : ByteArray).extract 0 ((r21.1 : Int).toNat)) : ByteArray).toList) (
 oif ((r21.1 : Int) == ((r19.1 : ByteArray).size : Int)) (
 some true) (
 oif ((r21.1 : Int) == ((r19.2 : ByteArray).size : Int)) (
 some true) (
 oif (decide (0 ≤ (r21.1 : Int))) (
 obind ((r19.1 : ByteArray).data.toList[(r21.1 : Int).toNat]?) fun c23 =>
 oif (decide (0 ≤ (r21.1 : Int))) (
 obind ((r19.2 : ByteArray).data.toList[(r21.1 : Int).toNat]?) fun c24 =>
 some (((c23.toNat : Int) : Int) != (c24.toNat : Int))) none) none))) (
 some false)) none) none) none) none) (
 some false)) (
 some false)) (
 some true))
noncomputable def j6_1 (d : Nat) (l2 : List Int) (b18 : Bool) : Option Bool :=
 oif b18 (
 some false) (
 obind (g67 d l2) fun r19 =>
 obind (g68 d r19.1 r19.2) fun r20 =>
 obind (g69 d r19.1 r19.2) fun r21 =>
 oif (!(r20.2 == r21.2)) (
 j6_0 d r19 r20 r21 true) (
 j6_0 d r19 r20 r21 ((r20.1 : Int) != r21.1)))
noncomputable def j6_2 (d : Nat) (l2 : List Int) (r12 : ((List (Int × Int × Bool × ByteArray)) × Bool)) (r13 : ((List (Int × Int × Bool × ByteArray)) × Bool)) (b17 : Bool) : Option Bool :=
 oif b17 (
 some false) (
 oif r12.2 (
 j6_1 d l2 ((((r13.1.length : Nat) : Int) : Int) != 9)) (
 j6_1 d l2 false))
noncomputable def j6_3 (d : Nat) (l2 : List Int)  : Option Bool :=
 obind (g58 d l2) fun r8 =>
 obind (g57 d r8) fun r9 =>
 obind (g59 d r8) fun r10 =>
 obind (g60 d l2) fun r11 =>
 obind (g61 d r11) fun r12 =>
 obind (g62 d r11) fun r13 =>
 obind (g63 d l2) fun r14 =>
 obind (g64 d r14) fun r15 =>
 obind (g65 d r14) fun r16 =>
 oif (!(r9.2 == r10.2)) (
 j6_2 d l2 r12 r13 true) (
 oif ((r9.1 : Int) != r10.1) (
 j6_2 d l2 r12 r13 true) (
 oif (!(r12.2 == r13.2)) (
 j6_2 d l2 r12 r13 true) (
 obind (g66 d r12.1 r13.1) fun r17 =>
 oif (!r17) (
 j6_2 d l2 r12 r13 true) (
 oif (!(r15.2 == r16.2)) (
 j6_2 d l2 r12 r13 true) (
 obind (g66 d r15.1 r16.1) fun r18 =>
 j6_2 d l2 r12 r13 (!r18))))))
noncomputable def j6_4 (d : Nat) (l2 : List Int) (r4 : Int) (r5 : (ByteArray × Bool)) (r6 : (ByteArray × Bool)) (b7 : Bool) : Option Bool :=
 oif b7 (
 some false) (
 oif r5.2 (
 obind (g57 d r5.1) fun r8 =>
 oif (!r8.2) (
 some false) (
 oif ((r8.1 : Int) != r4) (
 some false) (
 oif ((((r6.1 : ByteArray).size : Int) : Int) != 4) (
 some false) (
 j6_3 d l2)))) (
 j6_3 d l2))
theorem e6 (d : Nat) (l1 : List Int) (l2 : List Int) : g6 (d + 1) l1 l2 =
 obind (g53 d l1 l2) fun r3 =>
 oif r3 (
 some true) (
 obind (g54 d l1) fun r4 =>
 obind (g55 d r4) fun r5 =>
 obind (g56 d r4) fun r6 =>
 oif (!(r5.2 == r6.2)) (
 j6_4 d l2 r4 r5 r6 true) (
 j6_4 d l2 r4 r5 r6 (!((r5.1 : ByteArray).toList == (r6.1 : ByteArray).toList)))) := by kernel_rfl

end Go.Proofs.Ytaggjheabeoohaa
