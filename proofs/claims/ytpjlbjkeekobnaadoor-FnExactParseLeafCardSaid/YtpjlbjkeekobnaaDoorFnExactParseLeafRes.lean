/-
  The residual forms of the program's functions under the interpreter by value, printed by program (wip/pv/gen2.py); each equation is checked by the kernel.
  Conditions: none.
-/
import Derived.Test.YtpjlbjkeekobnaaDoorVDef
import Derived.Test.YtpjlbjkeekobnaaDoorProg
import Derived.KernelRfl
set_option linter.all false
set_option maxRecDepth 1000000
namespace Go.Proofs.YtpjlbjkeekobnaaDoor
open Go.Ev Go.Pv

theorem fuel_is : ∃ n : Nat, n = 4194304 := ⟨_, rfl⟩
noncomputable def fuelN : Nat := Classical.choose fuel_is
theorem fuelN_eq : fuelN = 4194304 := Classical.choose_spec fuel_is
def pvSig : FuncId → Sig
  | 4 => ⟨[(.ro, .str), (.ro, (.int .i64))], [(false, .bool)]⟩
  | 9 => ⟨[(.ro, (.pair (.int .i64) (.int .i64))), (.ro, (.pair (.int .i64) (.int .i64)))], [(false, .bool)]⟩
  | 10 => ⟨[(.ro, .str), (.ro, (.int .i64))], [(false, (.pair (.int .i64) (.pair (.int .i64) (.pair (.int .i64) (.pair (.int .i64) (.pair (.int .i64) (.pair (.int .i64) (.pair (.int .i64) (.int .i64))))))))), (false, (.pair (.int .i64) (.int .i64))), (false, .bool)]⟩
  | 11 => ⟨[(.ro, .str), (.ro, (.int .i64))], [(false, (.pair (.int .i64) (.pair (.int .i64) (.pair (.int .i64) (.pair (.int .i64) (.pair (.int .i64) (.pair (.int .i64) (.pair (.int .i64) (.int .i64))))))))), (false, (.pair (.int .i64) (.int .i64))), (false, .bool)]⟩
  | 12 => ⟨[(.ro, (.pair (.int .i64) (.pair (.int .i64) (.pair (.int .i64) (.pair (.int .i64) (.pair (.int .i64) (.pair (.int .i64) (.pair (.int .i64) (.int .i64))))))))), (.ro, (.pair (.int .i64) (.pair (.int .i64) (.pair (.int .i64) (.pair (.int .i64) (.pair (.int .i64) (.pair (.int .i64) (.pair (.int .i64) (.int .i64)))))))))], [(false, .bool)]⟩
  | 22 => ⟨[(.ro, (.int .i64))], [(false, .bool)]⟩
  | 25 => ⟨[(.ps, (.pair (.sl (.pair (.int .i64) (.pair (.int .i64) (.pair .str (.int .i64))))) (.pair (.int .i64) (.pair (.int .i64) (.pair (.pair .str (.pair (.sl (.pair (.int .i64) (.pair (.int .i64) (.pair (.int .i64) (.pair (.int .i64) (.pair (.int .i64) (.pair (.int .i64) (.pair (.int .i64) (.int .i64))))))))) (.pair (.sl (.pair (.int .i64) (.pair (.int .i64) (.pair (.int .i64) (.pair (.int .i64) (.int .i64)))))) (.int .i64)))) (.pair (.int .i64) (.pair (.int .i64) (.int .i64))))))))], [(false, .bool)]⟩
  | 27 => ⟨[(.ps, (.pair (.sl (.pair (.int .i64) (.pair (.int .i64) (.pair .str (.int .i64))))) (.pair (.int .i64) (.pair (.int .i64) (.pair (.pair (.int .i64) (.int .i64)) (.pair (.sl .str) (.pair (.sl (.pair (.int .i64) (.pair (.int .i64) (.pair (.int .i64) (.pair (.int .i64) (.pair (.int .i64) (.pair (.int .i64) (.pair (.int .i64) (.int .i64))))))))) (.pair (.sl (.pair (.int .i64) (.pair (.int .i64) (.pair (.int .i64) (.pair (.int .i64) (.int .i64)))))) (.int .i64))))))))), (.ro, (.sl .str))], [(false, .str)]⟩
  | 29 => ⟨[(.ps, (.pair (.sl (.pair (.int .i64) (.pair (.int .i64) (.pair .str (.int .i64))))) (.pair (.int .i64) (.pair (.int .i64) (.pair (.pair (.int .i64) (.int .i64)) (.pair (.sl .str) (.pair (.sl (.pair (.int .i64) (.pair (.int .i64) (.pair (.int .i64) (.pair (.int .i64) (.pair (.int .i64) (.pair (.int .i64) (.pair (.int .i64) (.int .i64))))))))) (.pair (.sl (.pair (.int .i64) (.pair (.int .i64) (.pair (.int .i64) (.pair (.int .i64) (.int .i64)))))) (.int .i64)))))))))], []⟩
  | 30 => ⟨[(.ps, (.pair (.sl (.pair (.int .i64) (.pair (.int .i64) (.pair .str (.int .i64))))) (.pair (.int .i64) (.pair (.int .i64) (.pair (.pair (.int .i64) (.int .i64)) (.pair (.sl .str) (.pair (.sl (.pair (.int .i64) (.pair (.int .i64) (.pair (.int .i64) (.pair (.int .i64) (.pair (.int .i64) (.pair (.int .i64) (.pair (.int .i64) (.int .i64))))))))) (.pair (.sl (.pair (.int .i64) (.pair (.int .i64) (.pair (.int .i64) (.pair (.int .i64) (.int .i64)))))) (.int .i64)))))))))], [(false, .bool)]⟩
  | 31 => ⟨[(.ro, (.int .i64)), (.ro, (.int .i64)), (.ro, (.int .i64))], [(false, .bool)]⟩
  | 32 => ⟨[(.ps, (.pair (.sl (.pair (.int .i64) (.pair (.int .i64) (.pair .str (.int .i64))))) (.pair (.int .i64) (.pair (.int .i64) (.pair (.pair .str (.pair (.sl (.pair (.int .i64) (.pair (.int .i64) (.pair (.int .i64) (.pair (.int .i64) (.pair (.int .i64) (.pair (.int .i64) (.pair (.int .i64) (.int .i64))))))))) (.pair (.sl (.pair (.int .i64) (.pair (.int .i64) (.pair (.int .i64) (.pair (.int .i64) (.int .i64)))))) (.int .i64)))) (.pair (.int .i64) (.pair (.int .i64) (.int .i64)))))))), (.ro, (.int .i64))], [(false, (.pair (.int .i64) (.pair (.int .i64) (.pair (.int .i64) (.pair (.int .i64) (.pair (.int .i64) (.pair (.int .i64) (.pair (.int .i64) (.int .i64))))))))), (false, .bool)]⟩
  | 33 => ⟨[(.ps, (.pair (.sl (.pair (.int .i64) (.pair (.int .i64) (.pair .str (.int .i64))))) (.pair (.int .i64) (.pair (.int .i64) (.pair (.pair .str (.pair (.sl (.pair (.int .i64) (.pair (.int .i64) (.pair (.int .i64) (.pair (.int .i64) (.pair (.int .i64) (.pair (.int .i64) (.pair (.int .i64) (.int .i64))))))))) (.pair (.sl (.pair (.int .i64) (.pair (.int .i64) (.pair (.int .i64) (.pair (.int .i64) (.int .i64)))))) (.int .i64)))) (.pair (.int .i64) (.pair (.int .i64) (.int .i64))))))))], [(false, (.int .i64)), (false, .bool)]⟩
  | 34 => ⟨[(.ps, (.pair (.sl (.pair (.int .i64) (.pair (.int .i64) (.pair .str (.int .i64))))) (.pair (.int .i64) (.pair (.int .i64) (.pair (.pair (.int .i64) (.int .i64)) (.pair (.sl .str) (.pair (.sl (.pair (.int .i64) (.pair (.int .i64) (.pair (.int .i64) (.pair (.int .i64) (.pair (.int .i64) (.pair (.int .i64) (.pair (.int .i64) (.int .i64))))))))) (.pair (.sl (.pair (.int .i64) (.pair (.int .i64) (.pair (.int .i64) (.pair (.int .i64) (.int .i64)))))) (.int .i64))))))))), (.ro, (.int .i64))], [(false, (.pair (.int .i64) (.pair (.int .i64) (.pair (.int .i64) (.pair (.int .i64) (.pair (.int .i64) (.pair (.int .i64) (.pair (.int .i64) (.int .i64)))))))))]⟩
  | 35 => ⟨[(.ps, (.pair (.sl (.pair (.int .i64) (.pair (.int .i64) (.pair .str (.int .i64))))) (.pair (.int .i64) (.pair (.int .i64) (.pair (.pair (.int .i64) (.int .i64)) (.pair (.sl .str) (.pair (.sl (.pair (.int .i64) (.pair (.int .i64) (.pair (.int .i64) (.pair (.int .i64) (.pair (.int .i64) (.pair (.int .i64) (.pair (.int .i64) (.int .i64))))))))) (.pair (.sl (.pair (.int .i64) (.pair (.int .i64) (.pair (.int .i64) (.pair (.int .i64) (.int .i64)))))) (.int .i64))))))))), (.ro, .str)], [(false, (.int .i64))]⟩
  | 50 => ⟨[(.ro, .str)], [(true, (.sl (.pair (.int .i64) (.pair (.int .i64) (.pair .str (.int .i64)))))), (false, (.pair (.int .i64) (.int .i64)))]⟩
  | 51 => ⟨[(.ps, (.pair (.sl (.pair (.int .i64) (.pair (.int .i64) (.pair .str (.int .i64))))) (.pair (.int .i64) (.pair (.int .i64) (.pair (.pair .str (.pair (.sl (.pair (.int .i64) (.pair (.int .i64) (.pair (.int .i64) (.pair (.int .i64) (.pair (.int .i64) (.pair (.int .i64) (.pair (.int .i64) (.int .i64))))))))) (.pair (.sl (.pair (.int .i64) (.pair (.int .i64) (.pair (.int .i64) (.pair (.int .i64) (.int .i64)))))) (.int .i64)))) (.pair (.int .i64) (.pair (.int .i64) (.int .i64)))))))), (.ro, .str)], [(false, (.int .i64)), (false, .bool)]⟩
  | 53 => ⟨[(.ps, (.pair (.sl (.pair (.int .i64) (.pair (.int .i64) (.pair .str (.int .i64))))) (.pair (.int .i64) (.pair (.int .i64) (.pair (.pair .str (.pair (.sl (.pair (.int .i64) (.pair (.int .i64) (.pair (.int .i64) (.pair (.int .i64) (.pair (.int .i64) (.pair (.int .i64) (.pair (.int .i64) (.int .i64))))))))) (.pair (.sl (.pair (.int .i64) (.pair (.int .i64) (.pair (.int .i64) (.pair (.int .i64) (.int .i64)))))) (.int .i64)))) (.pair (.int .i64) (.pair (.int .i64) (.int .i64)))))))), (.ro, .str)], [(false, .bool)]⟩
  | 54 => ⟨[(.ps, (.pair (.sl (.pair (.int .i64) (.pair (.int .i64) (.pair .str (.int .i64))))) (.pair (.int .i64) (.pair (.int .i64) (.pair (.pair .str (.pair (.sl (.pair (.int .i64) (.pair (.int .i64) (.pair (.int .i64) (.pair (.int .i64) (.pair (.int .i64) (.pair (.int .i64) (.pair (.int .i64) (.int .i64))))))))) (.pair (.sl (.pair (.int .i64) (.pair (.int .i64) (.pair (.int .i64) (.pair (.int .i64) (.int .i64)))))) (.int .i64)))) (.pair (.int .i64) (.pair (.int .i64) (.int .i64)))))))), (.ro, (.int .i64))], [(false, .bool)]⟩
  | 55 => ⟨[(.ps, (.pair (.sl (.pair (.int .i64) (.pair (.int .i64) (.pair .str (.int .i64))))) (.pair (.int .i64) (.pair (.int .i64) (.pair (.pair .str (.pair (.sl (.pair (.int .i64) (.pair (.int .i64) (.pair (.int .i64) (.pair (.int .i64) (.pair (.int .i64) (.pair (.int .i64) (.pair (.int .i64) (.int .i64))))))))) (.pair (.sl (.pair (.int .i64) (.pair (.int .i64) (.pair (.int .i64) (.pair (.int .i64) (.int .i64)))))) (.int .i64)))) (.pair (.int .i64) (.pair (.int .i64) (.int .i64))))))))], [(false, (.int .i64)), (false, .bool)]⟩
  | 56 => ⟨[(.ps, (.pair (.sl (.pair (.int .i64) (.pair (.int .i64) (.pair .str (.int .i64))))) (.pair (.int .i64) (.pair (.int .i64) (.pair (.pair .str (.pair (.sl (.pair (.int .i64) (.pair (.int .i64) (.pair (.int .i64) (.pair (.int .i64) (.pair (.int .i64) (.pair (.int .i64) (.pair (.int .i64) (.int .i64))))))))) (.pair (.sl (.pair (.int .i64) (.pair (.int .i64) (.pair (.int .i64) (.pair (.int .i64) (.int .i64)))))) (.int .i64)))) (.pair (.int .i64) (.pair (.int .i64) (.int .i64)))))))), (.ro, .str)], [(false, .bool)]⟩
  | 57 => ⟨[(.ro, .str)], [(true, (.sl (.pair (.int .i64) (.pair (.int .i64) (.pair .str (.int .i64)))))), (false, (.pair (.int .i64) (.int .i64))), (false, .bool)]⟩
  | 58 => ⟨[(.ps, (.pair (.sl (.pair (.int .i64) (.pair (.int .i64) (.pair .str (.int .i64))))) (.pair (.int .i64) (.pair (.int .i64) (.pair (.pair (.int .i64) (.int .i64)) (.pair (.sl .str) (.pair (.sl (.pair (.int .i64) (.pair (.int .i64) (.pair (.int .i64) (.pair (.int .i64) (.pair (.int .i64) (.pair (.int .i64) (.pair (.int .i64) (.int .i64))))))))) (.pair (.sl (.pair (.int .i64) (.pair (.int .i64) (.pair (.int .i64) (.pair (.int .i64) (.int .i64)))))) (.int .i64)))))))))], [(false, .str)]⟩
  | 59 => ⟨[(.ro, (.sl .str)), (.ro, .str)], [(false, .bool)]⟩
  | 60 => ⟨[(.ps, (.pair (.sl (.pair (.int .i64) (.pair (.int .i64) (.pair .str (.int .i64))))) (.pair (.int .i64) (.pair (.int .i64) (.pair (.pair (.int .i64) (.int .i64)) (.pair (.sl .str) (.pair (.sl (.pair (.int .i64) (.pair (.int .i64) (.pair (.int .i64) (.pair (.int .i64) (.pair (.int .i64) (.pair (.int .i64) (.pair (.int .i64) (.int .i64))))))))) (.pair (.sl (.pair (.int .i64) (.pair (.int .i64) (.pair (.int .i64) (.pair (.int .i64) (.int .i64)))))) (.int .i64))))))))), (.ro, (.int .i64))], []⟩
  | 61 => ⟨[(.ps, (.pair (.sl (.pair (.int .i64) (.pair (.int .i64) (.pair .str (.int .i64))))) (.pair (.int .i64) (.pair (.int .i64) (.pair (.pair (.int .i64) (.int .i64)) (.pair (.sl .str) (.pair (.sl (.pair (.int .i64) (.pair (.int .i64) (.pair (.int .i64) (.pair (.int .i64) (.pair (.int .i64) (.pair (.int .i64) (.pair (.int .i64) (.int .i64))))))))) (.pair (.sl (.pair (.int .i64) (.pair (.int .i64) (.pair (.int .i64) (.pair (.int .i64) (.int .i64)))))) (.int .i64)))))))))], [(false, (.int .i64))]⟩
  | 63 => ⟨[(.ro, (.sl .str)), (.ro, .str)], [(false, (.int .i64))]⟩
  | 74 => ⟨[(.ro, .str), (.ro, (.int .i64))], [(false, (.pair (.int .i64) (.pair (.int .i64) (.pair .str (.int .i64))))), (false, (.int .i64)), (false, (.pair (.int .i64) (.int .i64)))]⟩
  | 75 => ⟨[(.ro, .str), (.ro, (.int .i64))], [(false, (.int .i64))]⟩
  | 76 => ⟨[(.ro, .str), (.ro, (.int .i64))], [(false, (.pair (.int .i64) (.pair (.int .i64) (.pair .str (.int .i64))))), (false, (.int .i64)), (false, (.pair (.int .i64) (.int .i64)))]⟩
  | 82 => ⟨[(.ro, (.int .u8))], [(false, .bool)]⟩
  | 83 => ⟨[(.ro, .str)], [(false, .bool)]⟩
  | 85 => ⟨[(.ro, .str), (.ro, (.int .i64))], [(false, (.int .i64))]⟩
  | 86 => ⟨[(.ro, .str), (.ro, (.int .i64))], [(false, .str)]⟩
  | 87 => ⟨[(.ro, .str), (.ro, (.int .i64))], [(false, .str)]⟩
  | 88 => ⟨[(.ro, .str), (.ro, (.int .i64))], [(false, (.pair (.int .i64) (.pair (.int .i64) (.pair .str (.int .i64))))), (false, (.int .i64))]⟩
  | 89 => ⟨[(.ro, (.int .u8))], [(false, .bool)]⟩
  | 90 => ⟨[(.ro, .str), (.ro, (.int .i64))], [(false, .str)]⟩
  | 91 => ⟨[(.ro, (.int .u8))], [(false, .bool)]⟩
  | 92 => ⟨[(.ro, .str)], [(false, (.int .i64))]⟩
  | 93 => ⟨[(.ro, .str)], [(false, (.int .i64)), (false, .bool)]⟩
  | 94 => ⟨[(.ro, .str)], [(false, .bool)]⟩
  | 97 => ⟨[(.ro, (.int .u8))], [(false, .bool)]⟩
  | 98 => ⟨[], [(true, (.sl .str))]⟩
  | 99 => ⟨[(.ro, (.int .u8))], [(false, .bool)]⟩
  | 100 => ⟨[(.ro, (.int .u8))], [(false, .bool)]⟩
  | 101 => ⟨[(.ro, .str)], [(false, .bool)]⟩
  | 102 => ⟨[(.ro, .str)], [(false, (.int .i64)), (false, .bool)]⟩
  | 103 => ⟨[(.ro, .str), (.ro, .str)], [(false, .bool)]⟩
  | 104 => ⟨[(.ro, (.int .u8))], [(false, .bool)]⟩
  | 105 => ⟨[(.ro, .str)], [(false, (.int .i64)), (false, .bool)]⟩
  | 106 => ⟨[(.ro, .str)], [(false, (.int .i64)), (false, .bool)]⟩
  | 107 => ⟨[(.ro, (.sl .str)), (.ro, .str)], [(false, .bool)]⟩
  | 108 => ⟨[], [(true, (.sl .str))]⟩
  | 109 => ⟨[(.ro, .str)], [(false, (.int .i64))]⟩
  | 110 => ⟨[(.ro, .str), (.ro, .str)], [(false, .bool)]⟩
  | 111 => ⟨[(.ro, (.int .u8))], [(false, (.int .i64))]⟩
  | 112 => ⟨[(.ro, .str)], [(false, .bool)]⟩
  | 113 => ⟨[(.ro, .str)], [(false, (.int .i64))]⟩
  | 114 => ⟨[(.ro, .str)], [(false, (.int .i64))]⟩
  | 115 => ⟨[(.ro, .str), (.ro, (.int .i64)), (.ro, (.int .i64))], [(false, (.int .i64))]⟩
  | 116 => ⟨[], [(true, (.sl .str))]⟩
  | 117 => ⟨[(.ro, (.int .i64))], [(false, (.int .i64))]⟩
  | _ => ⟨[], []⟩
def pvLoops : FuncId → Nat → LoopA
  | 32, 0 => ⟨[(5, false, .bool), (15, false, (.int .i64))], [(0, (.pair (.sl (.pair (.int .i64) (.pair (.int .i64) (.pair .str (.int .i64))))) (.pair (.int .i64) (.pair (.int .i64) (.pair (.pair .str (.pair (.sl (.pair (.int .i64) (.pair (.int .i64) (.pair (.int .i64) (.pair (.int .i64) (.pair (.int .i64) (.pair (.int .i64) (.pair (.int .i64) (.int .i64))))))))) (.pair (.sl (.pair (.int .i64) (.pair (.int .i64) (.pair (.int .i64) (.pair (.int .i64) (.int .i64)))))) (.int .i64)))) (.pair (.int .i64) (.pair (.int .i64) (.int .i64)))))))), (6, (.pair (.int .i64) (.pair (.int .i64) (.pair (.int .i64) (.pair (.int .i64) (.pair (.int .i64) (.pair (.int .i64) (.pair (.int .i64) (.int .i64)))))))))], [], []⟩
  | 50, 0 => ⟨[(2, true, (.sl (.pair (.int .i64) (.pair (.int .i64) (.pair .str (.int .i64)))))), (4, true, (.sl (.pair (.int .i64) (.pair (.int .i64) (.pair .str (.int .i64)))))), (5, false, (.int .i64))], [], [], []⟩
  | 57, 0 => ⟨[(2, true, (.sl (.pair (.int .i64) (.pair (.int .i64) (.pair .str (.int .i64)))))), (4, false, .bool), (5, true, (.sl (.pair (.int .i64) (.pair (.int .i64) (.pair .str (.int .i64)))))), (6, false, (.int .i64))], [], [], []⟩
  | 63, 0 => ⟨[(4, false, (.int .i64)), (8, false, (.int .i64))], [], [], []⟩
  | 75, 0 => ⟨[(1, false, (.int .i64)), (4, false, (.int .i64))], [], [], []⟩
  | 75, 1 => ⟨[(1, false, (.int .i64))], [], [], []⟩
  | 76, 0 => ⟨[(8, false, (.int .i64))], [], [], []⟩
  | 83, 0 => ⟨[(2, false, .bool), (6, false, (.int .i64))], [], [], []⟩
  | 85, 0 => ⟨[(1, false, (.int .i64)), (4, false, (.int .i64))], [], [], []⟩
  | 85, 1 => ⟨[(1, false, (.int .i64))], [], [], []⟩
  | 86, 0 => ⟨[(4, false, .str), (9, false, (.int .i64))], [], [], []⟩
  | 87, 0 => ⟨[(5, false, (.int .i64))], [], [], []⟩
  | 90, 0 => ⟨[(4, false, .str), (8, false, (.int .i64))], [], [], []⟩
  | 92, 0 => ⟨[(2, false, (.int .i64)), (3, false, (.int .i64))], [], [], []⟩
  | 101, 0 => ⟨[(2, false, .bool), (3, false, (.int .i64))], [], [], []⟩
  | 105, 0 => ⟨[(2, false, (.int .i64)), (3, false, .bool), (4, false, (.int .i64)), (5, false, (.int .i64))], [], [], []⟩
  | 106, 0 => ⟨[(2, false, (.int .i64)), (3, false, .bool), (6, false, (.int .i64)), (7, false, (.int .i64))], [], [], []⟩
  | 107, 0 => ⟨[(4, false, .bool), (9, false, (.int .i64))], [], [], []⟩
  | 114, 0 => ⟨[(2, false, (.int .i64)), (8, false, (.int .i64))], [], [], []⟩
  | 115, 0 => ⟨[(6, false, (.int .i64)), (7, false, (.int .i64)), (8, false, (.int .i64))], [], [], []⟩
  | _, _ => ⟨[], [], [], []⟩
def pvEloops : FuncId → Nat → List (Nat × Value)
  | 32, 0 => [(0, (.pointer (some ⟨0, 0, none⟩))), (4, (.pointer (some ⟨0, 0, none⟩))), (5, (.bool false)), (6, (.pointer (some ⟨0, 0, none⟩))), (13, (.slice none 0 0)), (14, (.int .i64 0)), (15, (.int .i64 0))]
  | 50, 0 => [(0, (.string ⟨#[]⟩)), (2, (.slice none 0 0)), (3, (.pointer (some ⟨0, 0, none⟩))), (4, (.slice none 0 0)), (5, (.int .i64 0))]
  | 57, 0 => [(0, (.string ⟨#[]⟩)), (2, (.slice none 0 0)), (3, (.pointer (some ⟨0, 0, none⟩))), (4, (.bool false)), (5, (.slice none 0 0)), (6, (.int .i64 0))]
  | 63, 0 => [(0, (.slice none 0 0)), (1, (.string ⟨#[]⟩)), (4, (.int .i64 0)), (7, (.int .i64 0)), (8, (.int .i64 0))]
  | 75, 0 => [(0, (.string ⟨#[]⟩)), (1, (.int .i64 0)), (4, (.int .i64 0))]
  | 75, 1 => [(0, (.string ⟨#[]⟩)), (1, (.int .i64 0)), (4, (.int .i64 0)), (5, (.int .i64 0)), (6, (.string ⟨#[]⟩)), (7, (.int .i64 0)), (8, (.bool false)), (10, (.bool false)), (11, (.string ⟨#[]⟩)), (12, (.int .i64 0)), (13, (.int .u8 0)), (14, (.bool false)), (15, (.bool false)), (20, (.bool false)), (21, (.bool false)), (26, (.bool false)), (29, (.bool false)), (30, (.string ⟨#[]⟩)), (31, (.int .i64 0)), (32, (.int .u8 0)), (33, (.bool false)), (34, (.bool false)), (40, (.bool false)), (41, (.bool false)), (47, (.bool false)), (50, (.bool false)), (51, (.string ⟨#[]⟩)), (52, (.int .i64 0)), (53, (.int .u8 0)), (54, (.bool false)), (55, (.int .i64 0)), (56, (.int .i64 0))]
  | 76, 0 => [(0, (.string ⟨#[]⟩)), (1, (.int .i64 0)), (4, (.pointer (some ⟨0, 0, none⟩))), (5, (.int .i64 0)), (6, (.pointer (some ⟨0, 0, none⟩))), (8, (.int .i64 0))]
  | 83, 0 => [(0, (.string ⟨#[]⟩)), (2, (.bool false)), (5, (.agg #[(.string ⟨#[]⟩), (.string ⟨#[]⟩), (.string ⟨#[]⟩), (.string ⟨#[]⟩), (.string ⟨#[]⟩), (.string ⟨#[]⟩), (.string ⟨#[]⟩), (.string ⟨#[]⟩), (.string ⟨#[]⟩), (.string ⟨#[]⟩), (.string ⟨#[]⟩), (.string ⟨#[]⟩), (.string ⟨#[]⟩), (.string ⟨#[]⟩)])), (6, (.int .i64 0))]
  | 85, 0 => [(0, (.string ⟨#[]⟩)), (1, (.int .i64 0)), (4, (.int .i64 0))]
  | 85, 1 => [(0, (.string ⟨#[]⟩)), (1, (.int .i64 0)), (4, (.int .i64 0)), (5, (.int .i64 0)), (6, (.string ⟨#[]⟩)), (7, (.int .i64 0)), (8, (.bool false)), (10, (.bool false)), (11, (.string ⟨#[]⟩)), (12, (.int .i64 0)), (13, (.int .u8 0)), (14, (.bool false)), (15, (.bool false)), (20, (.bool false)), (21, (.bool false)), (26, (.bool false)), (29, (.bool false)), (30, (.string ⟨#[]⟩)), (31, (.int .i64 0)), (32, (.int .u8 0)), (33, (.bool false)), (34, (.bool false)), (40, (.bool false)), (41, (.bool false)), (47, (.bool false)), (50, (.bool false)), (51, (.string ⟨#[]⟩)), (52, (.int .i64 0)), (53, (.int .u8 0)), (54, (.bool false))]
  | 86, 0 => [(0, (.string ⟨#[]⟩)), (1, (.int .i64 0)), (4, (.string ⟨#[]⟩)), (7, (.slice none 0 0)), (8, (.int .i64 0)), (9, (.int .i64 0))]
  | 87, 0 => [(0, (.string ⟨#[]⟩)), (1, (.int .i64 0)), (4, (.string ⟨#[]⟩)), (5, (.int .i64 0))]
  | 90, 0 => [(0, (.string ⟨#[]⟩)), (1, (.int .i64 0)), (4, (.string ⟨#[]⟩)), (7, (.agg #[(.string ⟨#[]⟩), (.string ⟨#[]⟩), (.string ⟨#[]⟩), (.string ⟨#[]⟩), (.string ⟨#[]⟩), (.string ⟨#[]⟩)])), (8, (.int .i64 0))]
  | 92, 0 => [(0, (.string ⟨#[]⟩)), (2, (.int .i64 0)), (3, (.int .i64 0))]
  | 101, 0 => [(0, (.string ⟨#[]⟩)), (2, (.bool false)), (3, (.int .i64 0))]
  | 105, 0 => [(0, (.string ⟨#[]⟩)), (2, (.int .i64 0)), (3, (.bool false)), (4, (.int .i64 0)), (5, (.int .i64 0))]
  | 106, 0 => [(2, (.int .i64 0)), (3, (.bool false)), (4, (.int .i64 0)), (5, (.string ⟨#[]⟩)), (6, (.int .i64 0)), (7, (.int .i64 0))]
  | 107, 0 => [(1, (.string ⟨#[]⟩)), (4, (.bool false)), (7, (.slice none 0 0)), (8, (.int .i64 0)), (9, (.int .i64 0))]
  | 114, 0 => [(0, (.string ⟨#[]⟩)), (2, (.int .i64 0)), (6, (.slice none 0 0)), (7, (.int .i64 0)), (8, (.int .i64 0))]
  | 115, 0 => [(0, (.string ⟨#[]⟩)), (1, (.int .i64 0)), (2, (.int .i64 0)), (6, (.int .i64 0)), (7, (.int .i64 0)), (8, (.int .i64 0))]
  | _, _ => []
def pvInline : FuncId → Bool
  | 23 => true
  | 26 => true
  | _ => false
def pvOwn : FuncId → Bool

  | _ => false
def pvExt : FuncId → Option (List Value → Nat → Go.Ev.Heap → Option (Value × Go.Ev.Heap))
  | _ => none
def pvVext : (f : FuncId) → Option (TupT (pvSig f).ptys → Option (TupT (pvSig f).rtys))
  | _ => none
noncomputable def pvAnn : AnnV := ⟨fuelN, pvSig, pvLoops, pvEloops, pvInline, pvOwn, pvExt, pvVext⟩

/-- loop.example/g00838/laws.eqFault -/
noncomputable def g9 (d : Nat) (x1 : (Int × Int)) (x2 : (Int × Int)) : Option Bool := (lev Tryd.prog pvAnn d).call 9 (x1, x2)
/-- loop.example/g00838/spec.scBytes -/
noncomputable def g22 (d : Nat) (n1 : Int) : Option Bool := (lev Tryd.prog pvAnn d).call 22 (n1)
/-- (*loop.example/g00838/spec.psState).fail -/
noncomputable def g54 (d : Nat) (x1 : ((List (Int × Int × ByteArray × Int)) × Int × Int × (ByteArray × (List (Int × Int × Int × Int × Int × Int × Int × Int)) × (List (Int × Int × Int × Int × Int)) × Int) × Int × Int × Int)) (n2 : Int) : Option (Bool × ((List (Int × Int × ByteArray × Int)) × Int × Int × (ByteArray × (List (Int × Int × Int × Int × Int × Int × Int × Int)) × (List (Int × Int × Int × Int × Int)) × Int) × Int × Int × Int)) := (lev Tryd.prog pvAnn d).call 54 (x1, n2)
/-- (*loop.example/g00838/spec.psState).done -/
noncomputable def g25 (d : Nat) (x1 : ((List (Int × Int × ByteArray × Int)) × Int × Int × (ByteArray × (List (Int × Int × Int × Int × Int × Int × Int × Int)) × (List (Int × Int × Int × Int × Int)) × Int) × Int × Int × Int)) : Option (Bool × ((List (Int × Int × ByteArray × Int)) × Int × Int × (ByteArray × (List (Int × Int × Int × Int × Int × Int × Int × Int)) × (List (Int × Int × Int × Int × Int)) × Int) × Int × Int × Int)) := (lev Tryd.prog pvAnn d).call 25 (x1)
/-- loop.example/g00838/spec.l1In -/
noncomputable def g31 (d : Nat) (n1 : Int) (n2 : Int) (n3 : Int) : Option Bool := (lev Tryd.prog pvAnn d).call 31 (n1, n2, n3)
/-- (*loop.example/g00838/spec.psState).number -/
noncomputable def g55 (d : Nat) (x1 : ((List (Int × Int × ByteArray × Int)) × Int × Int × (ByteArray × (List (Int × Int × Int × Int × Int × Int × Int × Int)) × (List (Int × Int × Int × Int × Int)) × Int) × Int × Int × Int)) : Option (Int × Bool × ((List (Int × Int × ByteArray × Int)) × Int × Int × (ByteArray × (List (Int × Int × Int × Int × Int × Int × Int × Int)) × (List (Int × Int × Int × Int × Int)) × Int) × Int × Int × Int)) := (lev Tryd.prog pvAnn d).call 55 (x1)
/-- (*loop.example/g00838/spec.psState).is -/
noncomputable def g53 (d : Nat) (x1 : ((List (Int × Int × ByteArray × Int)) × Int × Int × (ByteArray × (List (Int × Int × Int × Int × Int × Int × Int × Int)) × (List (Int × Int × Int × Int × Int)) × Int) × Int × Int × Int)) (s2 : ByteArray) : Option (Bool × ((List (Int × Int × ByteArray × Int)) × Int × Int × (ByteArray × (List (Int × Int × Int × Int × Int × Int × Int × Int)) × (List (Int × Int × Int × Int × Int)) × Int) × Int × Int × Int)) := (lev Tryd.prog pvAnn d).call 53 (x1, s2)
/-- (*loop.example/g00838/spec.psState).take -/
noncomputable def g56 (d : Nat) (x1 : ((List (Int × Int × ByteArray × Int)) × Int × Int × (ByteArray × (List (Int × Int × Int × Int × Int × Int × Int × Int)) × (List (Int × Int × Int × Int × Int)) × Int) × Int × Int × Int)) (s2 : ByteArray) : Option (Bool × ((List (Int × Int × ByteArray × Int)) × Int × Int × (ByteArray × (List (Int × Int × Int × Int × Int × Int × Int × Int)) × (List (Int × Int × Int × Int × Int)) × Int) × Int × Int × Int)) := (lev Tryd.prog pvAnn d).call 56 (x1, s2)
/-- (*loop.example/g00838/spec.psState).named -/
noncomputable def g51 (d : Nat) (x1 : ((List (Int × Int × ByteArray × Int)) × Int × Int × (ByteArray × (List (Int × Int × Int × Int × Int × Int × Int × Int)) × (List (Int × Int × Int × Int × Int)) × Int) × Int × Int × Int)) (s2 : ByteArray) : Option (Int × Bool × ((List (Int × Int × ByteArray × Int)) × Int × Int × (ByteArray × (List (Int × Int × Int × Int × Int × Int × Int × Int)) × (List (Int × Int × Int × Int × Int)) × Int) × Int × Int × Int)) := (lev Tryd.prog pvAnn d).call 51 (x1, s2)
/-- (*loop.example/g00838/spec.psState).head -/
noncomputable def g32 (d : Nat) (x1 : ((List (Int × Int × ByteArray × Int)) × Int × Int × (ByteArray × (List (Int × Int × Int × Int × Int × Int × Int × Int)) × (List (Int × Int × Int × Int × Int)) × Int) × Int × Int × Int)) (n2 : Int) : Option ((Int × Int × Int × Int × Int × Int × Int × Int) × Bool × ((List (Int × Int × ByteArray × Int)) × Int × Int × (ByteArray × (List (Int × Int × Int × Int × Int × Int × Int × Int)) × (List (Int × Int × Int × Int × Int)) × Int) × Int × Int × Int)) := (lev Tryd.prog pvAnn d).call 32 (x1, n2)
/-- (*loop.example/g00838/spec.psState).limit -/
noncomputable def g33 (d : Nat) (x1 : ((List (Int × Int × ByteArray × Int)) × Int × Int × (ByteArray × (List (Int × Int × Int × Int × Int × Int × Int × Int)) × (List (Int × Int × Int × Int × Int)) × Int) × Int × Int × Int)) : Option (Int × Bool × ((List (Int × Int × ByteArray × Int)) × Int × Int × (ByteArray × (List (Int × Int × Int × Int × Int × Int × Int × Int)) × (List (Int × Int × Int × Int × Int)) × Int) × Int × Int × Int)) := (lev Tryd.prog pvAnn d).call 33 (x1)
/-- loop.example/g00838/spec.scPlain -/
noncomputable def g97 (d : Nat) (n1 : Int) : Option Bool := (lev Tryd.prog pvAnn d).call 97 (n1)
/-- loop.example/g00838/spec.tkSkip -/
noncomputable def g85 (d : Nat) (s1 : ByteArray) (n2 : Int) : Option Int := (lev Tryd.prog pvAnn d).call 85 (s1, n2)
/-- loop.example/g00838/spec.tkSigns -/
noncomputable def g98 (d : Nat)  : Option (List ByteArray) := (lev Tryd.prog pvAnn d).call 98 ()
/-- loop.example/g00838/spec.tkSign -/
noncomputable def g86 (d : Nat) (s1 : ByteArray) (n2 : Int) : Option ByteArray := (lev Tryd.prog pvAnn d).call 86 (s1, n2)
/-- loop.example/g00838/spec.tkLetter -/
noncomputable def g100 (d : Nat) (n1 : Int) : Option Bool := (lev Tryd.prog pvAnn d).call 100 (n1)
/-- loop.example/g00838/spec.tkMark -/
noncomputable def g99 (d : Nat) (n1 : Int) : Option Bool := (lev Tryd.prog pvAnn d).call 99 (n1)
/-- loop.example/g00838/spec.tkRun -/
noncomputable def g87 (d : Nat) (s1 : ByteArray) (n2 : Int) : Option ByteArray := (lev Tryd.prog pvAnn d).call 87 (s1, n2)
/-- loop.example/g00838/spec.l1HasS -/
noncomputable def g107 (d : Nat) (l1 : List ByteArray) (s2 : ByteArray) : Option Bool := (lev Tryd.prog pvAnn d).call 107 (l1, s2)
/-- loop.example/g00838/spec.tkKeys -/
noncomputable def g108 (d : Nat)  : Option (List ByteArray) := (lev Tryd.prog pvAnn d).call 108 ()
/-- loop.example/g00838/spec.IsKey -/
noncomputable def g94 (d : Nat) (s1 : ByteArray) : Option Bool := (lev Tryd.prog pvAnn d).call 94 (s1)
/-- loop.example/g00838/spec.tkWord -/
noncomputable def g101 (d : Nat) (s1 : ByteArray) : Option Bool := (lev Tryd.prog pvAnn d).call 101 (s1)
/-- loop.example/g00838/spec.nuIsHex -/
noncomputable def g112 (d : Nat) (s1 : ByteArray) : Option Bool := (lev Tryd.prog pvAnn d).call 112 (s1)
/-- loop.example/g00838/spec.nuDigits -/
noncomputable def g115 (d : Nat) (s1 : ByteArray) (n2 : Int) (n3 : Int) : Option Int := (lev Tryd.prog pvAnn d).call 115 (s1, n2, n3)
/-- loop.example/g00838/spec.nuReadHex -/
noncomputable def g113 (d : Nat) (s1 : ByteArray) : Option Int := (lev Tryd.prog pvAnn d).call 113 (s1)
/-- loop.example/g00838/spec.nuUnits -/
noncomputable def g116 (d : Nat)  : Option (List ByteArray) := (lev Tryd.prog pvAnn d).call 116 ()
/-- loop.example/g00838/spec.nuSize -/
noncomputable def g117 (d : Nat) (n1 : Int) : Option Int := (lev Tryd.prog pvAnn d).call 117 (n1)
/-- loop.example/g00838/spec.nuRead -/
noncomputable def g114 (d : Nat) (s1 : ByteArray) : Option Int := (lev Tryd.prog pvAnn d).call 114 (s1)
/-- loop.example/g00838/spec.nuAny -/
noncomputable def g109 (d : Nat) (s1 : ByteArray) : Option Int := (lev Tryd.prog pvAnn d).call 109 (s1)
/-- loop.example/g00838/spec.ReadAny -/
noncomputable def g102 (d : Nat) (s1 : ByteArray) : Option (Int × Bool) := (lev Tryd.prog pvAnn d).call 102 (s1)
/-- loop.example/g00838/spec.tkMake -/
noncomputable def g88 (d : Nat) (s1 : ByteArray) (n2 : Int) : Option ((Int × Int × ByteArray × Int) × Int) := (lev Tryd.prog pvAnn d).call 88 (s1, n2)
/-- loop.example/g00838/spec.tkAt -/
noncomputable def g74 (d : Nat) (s1 : ByteArray) (n2 : Int) : Option ((Int × Int × ByteArray × Int) × Int × (Int × Int)) := (lev Tryd.prog pvAnn d).call 74 (s1, n2)
/-- loop.example/g00838/spec.tkAll -/
noncomputable def g50 (d : Nat) (s1 : ByteArray) : Option ((List (Int × Int × ByteArray × Int)) × (Int × Int)) := (lev Tryd.prog pvAnn d).call 50 (s1)
/-- loop.example/g00838/spec.ParseLeaf -/
noncomputable def g10 (d : Nat) (s1 : ByteArray) (n2 : Int) : Option ((Int × Int × Int × Int × Int × Int × Int × Int) × (Int × Int) × Bool) := (lev Tryd.prog pvAnn d).call 10 (s1, n2)
/-- (*loop.example/g00838/impl.parser).bad -/
noncomputable def g30 (d : Nat) (x1 : ((List (Int × Int × ByteArray × Int)) × Int × Int × (Int × Int) × (List ByteArray) × (List (Int × Int × Int × Int × Int × Int × Int × Int)) × (List (Int × Int × Int × Int × Int)) × Int)) : Option (Bool × ((List (Int × Int × ByteArray × Int)) × Int × Int × (Int × Int) × (List ByteArray) × (List (Int × Int × Int × Int × Int × Int × Int × Int)) × (List (Int × Int × Int × Int × Int)) × Int)) := (lev Tryd.prog pvAnn d).call 30 (x1)
/-- (*loop.example/g00838/impl.parser).label -/
noncomputable def g58 (d : Nat) (x1 : ((List (Int × Int × ByteArray × Int)) × Int × Int × (Int × Int) × (List ByteArray) × (List (Int × Int × Int × Int × Int × Int × Int × Int)) × (List (Int × Int × Int × Int × Int)) × Int)) : Option (ByteArray × ((List (Int × Int × ByteArray × Int)) × Int × Int × (Int × Int) × (List ByteArray) × (List (Int × Int × Int × Int × Int × Int × Int × Int)) × (List (Int × Int × Int × Int × Int)) × Int)) := (lev Tryd.prog pvAnn d).call 58 (x1)
/-- slices.Index[[]string,string] -/
noncomputable def g63 (d : Nat) (l1 : List ByteArray) (s2 : ByteArray) : Option Int := (lev Tryd.prog pvAnn d).call 63 (l1, s2)
/-- slices.Contains[[]string,string] -/
noncomputable def g59 (d : Nat) (l1 : List ByteArray) (s2 : ByteArray) : Option Bool := (lev Tryd.prog pvAnn d).call 59 (l1, s2)
/-- (*loop.example/g00838/impl.parser).stop -/
noncomputable def g60 (d : Nat) (x1 : ((List (Int × Int × ByteArray × Int)) × Int × Int × (Int × Int) × (List ByteArray) × (List (Int × Int × Int × Int × Int × Int × Int × Int)) × (List (Int × Int × Int × Int × Int)) × Int)) (n2 : Int) : Option ((List (Int × Int × ByteArray × Int)) × Int × Int × (Int × Int) × (List ByteArray) × (List (Int × Int × Int × Int × Int × Int × Int × Int)) × (List (Int × Int × Int × Int × Int)) × Int) := (lev Tryd.prog pvAnn d).call 60 (x1, n2)
/-- (*loop.example/g00838/impl.parser).take -/
noncomputable def g27 (d : Nat) (x1 : ((List (Int × Int × ByteArray × Int)) × Int × Int × (Int × Int) × (List ByteArray) × (List (Int × Int × Int × Int × Int × Int × Int × Int)) × (List (Int × Int × Int × Int × Int)) × Int)) (l2 : List ByteArray) : Option (ByteArray × ((List (Int × Int × ByteArray × Int)) × Int × Int × (Int × Int) × (List ByteArray) × (List (Int × Int × Int × Int × Int × Int × Int × Int)) × (List (Int × Int × Int × Int × Int)) × Int)) := (lev Tryd.prog pvAnn d).call 27 (x1, l2)
/-- (*loop.example/g00838/impl.parser).finish -/
noncomputable def g29 (d : Nat) (x1 : ((List (Int × Int × ByteArray × Int)) × Int × Int × (Int × Int) × (List ByteArray) × (List (Int × Int × Int × Int × Int × Int × Int × Int)) × (List (Int × Int × Int × Int × Int)) × Int)) : Option ((List (Int × Int × ByteArray × Int)) × Int × Int × (Int × Int) × (List ByteArray) × (List (Int × Int × Int × Int × Int × Int × Int × Int)) × (List (Int × Int × Int × Int × Int)) × Int) := (lev Tryd.prog pvAnn d).call 29 (x1)
/-- (*loop.example/g00838/impl.parser).number -/
noncomputable def g61 (d : Nat) (x1 : ((List (Int × Int × ByteArray × Int)) × Int × Int × (Int × Int) × (List ByteArray) × (List (Int × Int × Int × Int × Int × Int × Int × Int)) × (List (Int × Int × Int × Int × Int)) × Int)) : Option (Int × ((List (Int × Int × ByteArray × Int)) × Int × Int × (Int × Int) × (List ByteArray) × (List (Int × Int × Int × Int × Int × Int × Int × Int)) × (List (Int × Int × Int × Int × Int)) × Int)) := (lev Tryd.prog pvAnn d).call 61 (x1)
/-- (*loop.example/g00838/impl.parser).numberBehind -/
noncomputable def g35 (d : Nat) (x1 : ((List (Int × Int × ByteArray × Int)) × Int × Int × (Int × Int) × (List ByteArray) × (List (Int × Int × Int × Int × Int × Int × Int × Int)) × (List (Int × Int × Int × Int × Int)) × Int)) (s2 : ByteArray) : Option (Int × ((List (Int × Int × ByteArray × Int)) × Int × Int × (Int × Int) × (List ByteArray) × (List (Int × Int × Int × Int × Int × Int × Int × Int)) × (List (Int × Int × Int × Int × Int)) × Int)) := (lev Tryd.prog pvAnn d).call 35 (x1, s2)
/-- (*loop.example/g00838/impl.parser).head -/
noncomputable def g34 (d : Nat) (x1 : ((List (Int × Int × ByteArray × Int)) × Int × Int × (Int × Int) × (List ByteArray) × (List (Int × Int × Int × Int × Int × Int × Int × Int)) × (List (Int × Int × Int × Int × Int)) × Int)) (n2 : Int) : Option ((Int × Int × Int × Int × Int × Int × Int × Int) × ((List (Int × Int × ByteArray × Int)) × Int × Int × (Int × Int) × (List ByteArray) × (List (Int × Int × Int × Int × Int × Int × Int × Int)) × (List (Int × Int × Int × Int × Int)) × Int)) := (lev Tryd.prog pvAnn d).call 34 (x1, n2)
/-- loop.example/g00838/impl.isPlain -/
noncomputable def g89 (d : Nat) (n1 : Int) : Option Bool := (lev Tryd.prog pvAnn d).call 89 (n1)
/-- loop.example/g00838/impl.skipSpace -/
noncomputable def g75 (d : Nat) (s1 : ByteArray) (n2 : Int) : Option Int := (lev Tryd.prog pvAnn d).call 75 (s1, n2)
/-- loop.example/g00838/impl.isSmall -/
noncomputable def g82 (d : Nat) (n1 : Int) : Option Bool := (lev Tryd.prog pvAnn d).call 82 (n1)
/-- internal/stringslite.HasPrefix -/
noncomputable def g110 (d : Nat) (s1 : ByteArray) (s2 : ByteArray) : Option Bool := (lev Tryd.prog pvAnn d).call 110 (s1, s2)
/-- strings.HasPrefix -/
noncomputable def g103 (d : Nat) (s1 : ByteArray) (s2 : ByteArray) : Option Bool := (lev Tryd.prog pvAnn d).call 103 (s1, s2)
/-- loop.example/g00838/impl.signAt -/
noncomputable def g90 (d : Nat) (s1 : ByteArray) (n2 : Int) : Option ByteArray := (lev Tryd.prog pvAnn d).call 90 (s1, n2)
/-- loop.example/g00838/impl.isDigit -/
noncomputable def g104 (d : Nat) (n1 : Int) : Option Bool := (lev Tryd.prog pvAnn d).call 104 (n1)
/-- loop.example/g00838/impl.isAlnum -/
noncomputable def g91 (d : Nat) (n1 : Int) : Option Bool := (lev Tryd.prog pvAnn d).call 91 (n1)
/-- loop.example/g00838/impl.IsKey -/
noncomputable def g83 (d : Nat) (s1 : ByteArray) : Option Bool := (lev Tryd.prog pvAnn d).call 83 (s1)
/-- loop.example/g00838/impl.wordKind -/
noncomputable def g92 (d : Nat) (s1 : ByteArray) : Option Int := (lev Tryd.prog pvAnn d).call 92 (s1)
/-- loop.example/g00838/impl.hexDigit -/
noncomputable def g111 (d : Nat) (n1 : Int) : Option Int := (lev Tryd.prog pvAnn d).call 111 (n1)
/-- loop.example/g00838/impl.ReadHex -/
noncomputable def g105 (d : Nat) (s1 : ByteArray) : Option (Int × Bool) := (lev Tryd.prog pvAnn d).call 105 (s1)
/-- loop.example/g00838/impl.ReadNumber -/
noncomputable def g106 (d : Nat) (s1 : ByteArray) : Option (Int × Bool) := (lev Tryd.prog pvAnn d).call 106 (s1)
/-- loop.example/g00838/impl.ReadAny -/
noncomputable def g93 (d : Nat) (s1 : ByteArray) : Option (Int × Bool) := (lev Tryd.prog pvAnn d).call 93 (s1)
/-- loop.example/g00838/impl.readToken -/
noncomputable def g76 (d : Nat) (s1 : ByteArray) (n2 : Int) : Option ((Int × Int × ByteArray × Int) × Int × (Int × Int)) := (lev Tryd.prog pvAnn d).call 76 (s1, n2)
/-- loop.example/g00838/impl.TokensOf -/
noncomputable def g57 (d : Nat) (s1 : ByteArray) : Option ((List (Int × Int × ByteArray × Int)) × (Int × Int) × Bool) := (lev Tryd.prog pvAnn d).call 57 (s1)
/-- loop.example/g00838/impl.ParseLeaf -/
noncomputable def g11 (d : Nat) (s1 : ByteArray) (n2 : Int) : Option ((Int × Int × Int × Int × Int × Int × Int × Int) × (Int × Int) × Bool) := (lev Tryd.prog pvAnn d).call 11 (s1, n2)
/-- loop.example/g00838/laws.eqClass -/
noncomputable def g12 (d : Nat) (x1 : (Int × Int × Int × Int × Int × Int × Int × Int)) (x2 : (Int × Int × Int × Int × Int × Int × Int × Int)) : Option Bool := (lev Tryd.prog pvAnn d).call 12 (x1, x2)
/-- loop.example/g00838/laws.FnExactParseLeaf -/
noncomputable def g4 (d : Nat) (s1 : ByteArray) (n2 : Int) : Option Bool := (lev Tryd.prog pvAnn d).call 4 (s1, n2)

theorem e9 (d : Nat) (x1 : (Int × Int)) (x2 : (Int × Int)) : g9 (d + 1) x1 x2 =
 oif ((x1.1 : Int) != x2.1) (
 some false) (
 oif ((x1.2 : Int) != x2.2) (
 some false) (
 some true)) := by kernel_rfl

theorem e22 (d : Nat) (n1 : Int) : g22 (d + 1) n1 =
 some (decide ((n1 : Int) ≤ 4000)) := by kernel_rfl

noncomputable def j54_0 (d : Nat) (x1 : ((List (Int × Int × ByteArray × Int)) × Int × Int × (ByteArray × (List (Int × Int × Int × Int × Int × Int × Int × Int)) × (List (Int × Int × Int × Int × Int)) × Int) × Int × Int × Int)) (n3 : Int) (n4 : Int) : Option (Bool × ((List (Int × Int × ByteArray × Int)) × Int × Int × (ByteArray × (List (Int × Int × Int × Int × Int × Int × Int × Int)) × (List (Int × Int × Int × Int × Int)) × Int) × Int × Int × Int)) :=
 some (false, (x1.1, x1.2.1, x1.2.2.1, x1.2.2.2.1, x1.2.2.2.2.1, n3, n4))
theorem e54 (d : Nat) (x1 : ((List (Int × Int × ByteArray × Int)) × Int × Int × (ByteArray × (List (Int × Int × Int × Int × Int × Int × Int × Int)) × (List (Int × Int × Int × Int × Int)) × Int) × Int × Int × Int)) (n2 : Int) : g54 (d + 1) x1 n2 =
 oif ((x1.2.2.2.2.2.1 : Int) == 0) (
 oif (decide ((x1.2.1 : Int) < ((x1.1.length : Nat) : Int))) (
 oif (decide (0 ≤ (x1.2.1 : Int))) (
 obind (x1.1[(x1.2.1 : Int).toNat]?) fun x3 =>
 j54_0 d x1 n2 x3.2.1) none) (
 j54_0 d x1 6 x1.2.2.1)) (
 j54_0 d x1 x1.2.2.2.2.2.1 x1.2.2.2.2.2.2) := by kernel_rfl

theorem e25 (d : Nat) (x1 : ((List (Int × Int × ByteArray × Int)) × Int × Int × (ByteArray × (List (Int × Int × Int × Int × Int × Int × Int × Int)) × (List (Int × Int × Int × Int × Int)) × Int) × Int × Int × Int)) : g25 (d + 1) x1 =
 oif (decide ((x1.2.1 : Int) < ((x1.1.length : Nat) : Int))) (
 obind (g54 d x1 2) fun r2 =>
 some (r2.1, r2.2)) (
 some (true, x1)) := by kernel_rfl

theorem e31 (d : Nat) (n1 : Int) (n2 : Int) (n3 : Int) : g31 (d + 1) n1 n2 n3 =
 oif (decide ((n1 : Int) ≥ n2)) (
 some (decide ((n1 : Int) ≤ n3))) (
 some false) := by kernel_rfl

noncomputable def j55_0 (d : Nat) (x1 : ((List (Int × Int × ByteArray × Int)) × Int × Int × (ByteArray × (List (Int × Int × Int × Int × Int × Int × Int × Int)) × (List (Int × Int × Int × Int × Int)) × Int) × Int × Int × Int)) (b2 : Bool) : Option (Int × Bool × ((List (Int × Int × ByteArray × Int)) × Int × Int × (ByteArray × (List (Int × Int × Int × Int × Int × Int × Int × Int)) × (List (Int × Int × Int × Int × Int)) × Int) × Int × Int × Int)) :=
 oif b2 (
 obind (g54 d x1 2) fun r3 =>
 some (0, r3.1, r3.2)) (
 oif (decide (0 ≤ ((IntKind.i64.wrap ((IntKind.i64.wrap (x1.2.1 + 1)) - 1)) : Int))) (
 obind (x1.1[((IntKind.i64.wrap ((IntKind.i64.wrap (x1.2.1 + 1)) - 1)) : Int).toNat]?) fun x4 =>
 some (x4.2.2.2, true, (x1.1, (IntKind.i64.wrap (x1.2.1 + 1)), x1.2.2))) none)
theorem e55 (d : Nat) (x1 : ((List (Int × Int × ByteArray × Int)) × Int × Int × (ByteArray × (List (Int × Int × Int × Int × Int × Int × Int × Int)) × (List (Int × Int × Int × Int × Int)) × Int) × Int × Int × Int)) : g55 (d + 1) x1 =
 oif (decide ((x1.2.1 : Int) ≥ ((x1.1.length : Nat) : Int))) (
 j55_0 d x1 true) (
 oif (decide (0 ≤ (x1.2.1 : Int))) (
 obind (x1.1[(x1.2.1 : Int).toNat]?) fun x2 =>
 j55_0 d x1 ((x2.1 : Int) != 3)) none) := by kernel_rfl

theorem e53 (d : Nat) (x1 : ((List (Int × Int × ByteArray × Int)) × Int × Int × (ByteArray × (List (Int × Int × Int × Int × Int × Int × Int × Int)) × (List (Int × Int × Int × Int × Int)) × Int) × Int × Int × Int)) (s2 : ByteArray) : g53 (d + 1) x1 s2 =
 oif (decide ((x1.2.1 : Int) < ((x1.1.length : Nat) : Int))) (
 oif (decide (0 ≤ (x1.2.1 : Int))) (
 obind (x1.1[(x1.2.1 : Int).toNat]?) fun x3 =>
 oif ((x3.2.2.1 : ByteArray).toList == (s2 : ByteArray).toList) (
 oif (decide (0 ≤ (x1.2.1 : Int))) (
 obind (x1.1[(x1.2.1 : Int).toNat]?) fun x4 =>
 some (((x4.1 : Int) != 2), x1)) none) (
 some (false, x1))) none) (
 some (false, x1)) := by kernel_rfl

theorem e56 (d : Nat) (x1 : ((List (Int × Int × ByteArray × Int)) × Int × Int × (ByteArray × (List (Int × Int × Int × Int × Int × Int × Int × Int)) × (List (Int × Int × Int × Int × Int)) × Int) × Int × Int × Int)) (s2 : ByteArray) : g56 (d + 1) x1 s2 =
 obind (g53 d x1 s2) fun r3 =>
 oif (!r3.1) (
 obind (g54 d r3.2 2) fun r4 =>
 some (r4.1, r4.2)) (
 some (true, (r3.2.1, (IntKind.i64.wrap (r3.2.2.1 + 1)), r3.2.2.2))) := by kernel_rfl

theorem e51 (d : Nat) (x1 : ((List (Int × Int × ByteArray × Int)) × Int × Int × (ByteArray × (List (Int × Int × Int × Int × Int × Int × Int × Int)) × (List (Int × Int × Int × Int × Int)) × Int) × Int × Int × Int)) (s2 : ByteArray) : g51 (d + 1) x1 s2 =
 obind (g56 d x1 s2) fun r3 =>
 oif (!r3.1) (
 some (0, false, r3.2)) (
 obind (g55 d r3.2) fun r4 =>
 some (r4.1, r4.2.1, r4.2.2)) := by kernel_rfl

noncomputable def j32_0 (d : Nat)  (b4 : Bool) (n5 : Int) (n6 : Int) (n7 : Int) (n8 : Int) (n9 : Int) (n10 : Int) (n11 : Int) (n12 : Int) (l13 : List (Int × Int × ByteArray × Int)) (n14 : Int) (n15 : Int) (s16 : ByteArray) (l17 : List (Int × Int × Int × Int × Int × Int × Int × Int)) (l18 : List (Int × Int × Int × Int × Int)) (n19 : Int) (n20 : Int) (n21 : Int) (n22 : Int) : Option ((Int × Int × Int × Int × Int × Int × Int × Int) × Bool × ((List (Int × Int × ByteArray × Int)) × Int × Int × (ByteArray × (List (Int × Int × Int × Int × Int × Int × Int × Int)) × (List (Int × Int × Int × Int × Int)) × Int) × Int × Int × Int)) :=
 some ((n5, n6, n7, n8, n9, n10, n11, n12), true, (l13, n14, n15, (s16, l17, l18, n19), n20, n21, n22))
noncomputable def j32_1 (d : Nat) (ag3 : (Bool × Int × ((List (Int × Int × ByteArray × Int)) × Int × Int × (ByteArray × (List (Int × Int × Int × Int × Int × Int × Int × Int)) × (List (Int × Int × Int × Int × Int)) × Int) × Int × Int × Int) × (Int × Int × Int × Int × Int × Int × Int × Int)) → Option ((Int × Int × Int × Int × Int × Int × Int × Int) × Bool × ((List (Int × Int × ByteArray × Int)) × Int × Int × (ByteArray × (List (Int × Int × Int × Int × Int × Int × Int × Int)) × (List (Int × Int × Int × Int × Int)) × Int) × Int × Int × Int))) (b4 : Bool) (n5 : Int) (x7 : (Int × Int × Int × Int × Int × Int × Int × Int)) (s8 : ByteArray) (n9 : Int) (b10 : Bool) (s11 : ByteArray) (n12 : Int) (b13 : Bool) (s14 : ByteArray) (n15 : Int) (b16 : Bool) (n17 : Int) (b18 : Bool) (b19 : Bool) (s20 : ByteArray) (b21 : Bool) (b22 : Bool) (l23 : List (Int × Int × ByteArray × Int)) (n24 : Int) (n25 : Int) (s26 : ByteArray) (l27 : List (Int × Int × Int × Int × Int × Int × Int × Int)) (l28 : List (Int × Int × Int × Int × Int)) (n29 : Int) (n30 : Int) (n31 : Int) (n32 : Int) (n33 : Int) (n34 : Int) (n35 : Int) (n36 : Int) (n37 : Int) (n38 : Int) : Option ((Int × Int × Int × Int × Int × Int × Int × Int) × Bool × ((List (Int × Int × ByteArray × Int)) × Int × Int × (ByteArray × (List (Int × Int × Int × Int × Int × Int × Int × Int)) × (List (Int × Int × Int × Int × Int)) × Int) × Int × Int × Int)) :=
 ag3 (b4, (IntKind.i64.wrap (n5 + 1)), (l23, n24, n25, (s26, l27, l28, n29), n30, n31, n32), (n33, x7.2.1, n34, n35, n36, n37, n38, x7.2.2.2.2.2.2.2))
noncomputable def j32_2 (d : Nat) (ag3 : (Bool × Int × ((List (Int × Int × ByteArray × Int)) × Int × Int × (ByteArray × (List (Int × Int × Int × Int × Int × Int × Int × Int)) × (List (Int × Int × Int × Int × Int)) × Int) × Int × Int × Int) × (Int × Int × Int × Int × Int × Int × Int × Int)) → Option ((Int × Int × Int × Int × Int × Int × Int × Int) × Bool × ((List (Int × Int × ByteArray × Int)) × Int × Int × (ByteArray × (List (Int × Int × Int × Int × Int × Int × Int × Int)) × (List (Int × Int × Int × Int × Int)) × Int) × Int × Int × Int))) (b4 : Bool) (n5 : Int) (x7 : (Int × Int × Int × Int × Int × Int × Int × Int)) (s8 : ByteArray) (r9 : (Int × Bool × ((List (Int × Int × ByteArray × Int)) × Int × Int × (ByteArray × (List (Int × Int × Int × Int × Int × Int × Int × Int)) × (List (Int × Int × Int × Int × Int)) × Int) × Int × Int × Int))) (b10 : Bool) (n11 : Int) (n12 : Int) (n13 : Int) (n14 : Int) (n15 : Int) (n16 : Int) : Option ((Int × Int × Int × Int × Int × Int × Int × Int) × Bool × ((List (Int × Int × ByteArray × Int)) × Int × Int × (ByteArray × (List (Int × Int × Int × Int × Int × Int × Int × Int)) × (List (Int × Int × Int × Int × Int)) × Int) × Int × Int × Int)) :=
 j32_1 d ag3 b4 n5 x7 s8 r9.1 r9.2.1 s8 r9.1 r9.2.1 s8 r9.1 r9.2.1 r9.1 r9.2.1 r9.2.1 s8 b10 ((s8 : ByteArray).toList == ((⟨#[99, 108, 97, 115, 115]⟩ : ByteArray) : ByteArray).toList) r9.2.2.1 r9.2.2.2.1 r9.2.2.2.2.1 r9.2.2.2.2.2.1.1 r9.2.2.2.2.2.1.2.1 r9.2.2.2.2.2.1.2.2.1 r9.2.2.2.2.2.1.2.2.2 r9.2.2.2.2.2.2.1 r9.2.2.2.2.2.2.2.1 r9.2.2.2.2.2.2.2.2 n11 n12 n13 n14 n15 n16
noncomputable def j32_3 (d : Nat) (ag3 : (Bool × Int × ((List (Int × Int × ByteArray × Int)) × Int × Int × (ByteArray × (List (Int × Int × Int × Int × Int × Int × Int × Int)) × (List (Int × Int × Int × Int × Int)) × Int) × Int × Int × Int) × (Int × Int × Int × Int × Int × Int × Int × Int)) → Option ((Int × Int × Int × Int × Int × Int × Int × Int) × Bool × ((List (Int × Int × ByteArray × Int)) × Int × Int × (ByteArray × (List (Int × Int × Int × Int × Int × Int × Int × Int)) × (List (Int × Int × Int × Int × Int)) × Int) × Int × Int × Int))) (b4 : Bool) (n5 : Int) (x7 : (Int × Int × Int × Int × Int × Int × Int × Int)) (s8 : ByteArray) (r9 : (Int × Bool × ((List (Int × Int × ByteArray × Int)) × Int × Int × (ByteArray × (List (Int × Int × Int × Int × Int × Int × Int × Int)) × (List (Int × Int × Int × Int × Int)) × Int) × Int × Int × Int))) (b10 : Bool) (n11 : Int) (n12 : Int) (n13 : Int) (n14 : Int) : Option ((Int × Int × Int × Int × Int × Int × Int × Int) × Bool × ((List (Int × Int × ByteArray × Int)) × Int × Int × (ByteArray × (List (Int × Int × Int × Int × Int × Int × Int × Int)) × (List (Int × Int × Int × Int × Int)) × Int) × Int × Int × Int)) :=
 j32_2 d ag3 b4 n5 x7 s8 r9 false x7.1 x7.2.2.1 n11 n12 n13 n14
noncomputable def l32_0_b (d : Nat)  (kx32_0_0 : Bool → Int → Int → Int → Int → Int → Int → Int → Int → (List (Int × Int × ByteArray × Int)) → Int → Int → ByteArray → (List (Int × Int × Int × Int × Int × Int × Int × Int)) → (List (Int × Int × Int × Int × Int)) → Int → Int → Int → Int → Option ((Int × Int × Int × Int × Int × Int × Int × Int) × Bool × ((List (Int × Int × ByteArray × Int)) × Int × Int × (ByteArray × (List (Int × Int × Int × Int × Int × Int × Int × Int)) × (List (Int × Int × Int × Int × Int)) × Int) × Int × Int × Int))) (ag3 : (Bool × Int × ((List (Int × Int × ByteArray × Int)) × Int × Int × (ByteArray × (List (Int × Int × Int × Int × Int × Int × Int × Int)) × (List (Int × Int × Int × Int × Int)) × Int) × Int × Int × Int) × (Int × Int × Int × Int × Int × Int × Int × Int)) → Option ((Int × Int × Int × Int × Int × Int × Int × Int) × Bool × ((List (Int × Int × ByteArray × Int)) × Int × Int × (ByteArray × (List (Int × Int × Int × Int × Int × Int × Int × Int)) × (List (Int × Int × Int × Int × Int)) × Int) × Int × Int × Int))) (b4 : Bool) (n5 : Int) (x6 : ((List (Int × Int × ByteArray × Int)) × Int × Int × (ByteArray × (List (Int × Int × Int × Int × Int × Int × Int × Int)) × (List (Int × Int × Int × Int × Int)) × Int) × Int × Int × Int)) (x7 : (Int × Int × Int × Int × Int × Int × Int × Int)) : Option ((Int × Int × Int × Int × Int × Int × Int × Int) × Bool × ((List (Int × Int × ByteArray × Int)) × Int × Int × (ByteArray × (List (Int × Int × Int × Int × Int × Int × Int × Int)) × (List (Int × Int × Int × Int × Int)) × Int) × Int × Int × Int)) :=
 oif (decide ((n5 : Int) < (([(⟨#[99, 108, 97, 115, 115]⟩ : ByteArray), (⟨#[114, 97, 116, 101]⟩ : ByteArray), (⟨#[99, 101, 105, 108]⟩ : ByteArray), (⟨#[98, 117, 114, 115, 116]⟩ : ByteArray), (⟨#[99, 98, 117, 114, 115, 116]⟩ : ByteArray), (⟨#[112, 114, 105, 111]⟩ : ByteArray)].length : Nat) : Int))) (
 oif (decide (0 ≤ (n5 : Int))) (
 oif (Nat.blt ((n5 : Int).toNat) ([(⟨#[99, 108, 97, 115, 115]⟩ : ByteArray), (⟨#[114, 97, 116, 101]⟩ : ByteArray), (⟨#[99, 101, 105, 108]⟩ : ByteArray), (⟨#[98, 117, 114, 115, 116]⟩ : ByteArray), (⟨#[99, 98, 117, 114, 115, 116]⟩ : ByteArray), (⟨#[112, 114, 105, 111]⟩ : ByteArray)].length)) (
 obind ([(⟨#[99, 108, 97, 115, 115]⟩ : ByteArray), (⟨#[114, 97, 116, 101]⟩ : ByteArray), (⟨#[99, 101, 105, 108]⟩ : ByteArray), (⟨#[98, 117, 114, 115, 116]⟩ : ByteArray), (⟨#[99, 98, 117, 114, 115, 116]⟩ : ByteArray), (⟨#[112, 114, 105, 111]⟩ : ByteArray)][(n5 : Int).toNat]?) fun s8 =>
 obind (g51 d x6 s8) fun r9 =>
 oif (!r9.2.1) (
 some ((0, 0, 0, 0, 0, 0, 0, 0), false, r9.2.2)) (
 oif ((s8 : ByteArray).toList == ((⟨#[99, 108, 97, 115, 115]⟩ : ByteArray) : ByteArray).toList) (
 j32_2 d ag3 b4 n5 x7 s8 r9 true r9.1 x7.2.2.1 x7.2.2.2.1 x7.2.2.2.2.1 x7.2.2.2.2.2.1 x7.2.2.2.2.2.2.1) (
 oif ((s8 : ByteArray).toList == ((⟨#[114, 97, 116, 101]⟩ : ByteArray) : ByteArray).toList) (
 j32_2 d ag3 b4 n5 x7 s8 r9 false x7.1 r9.1 x7.2.2.2.1 x7.2.2.2.2.1 x7.2.2.2.2.2.1 x7.2.2.2.2.2.2.1) (
 oif ((s8 : ByteArray).toList == ((⟨#[99, 101, 105, 108]⟩ : ByteArray) : ByteArray).toList) (
 j32_3 d ag3 b4 n5 x7 s8 r9 true r9.1 x7.2.2.2.2.1 x7.2.2.2.2.2.1 x7.2.2.2.2.2.2.1) (
 oif ((s8 : ByteArray).toList == ((⟨#[98, 117, 114, 115, 116]⟩ : ByteArray) : ByteArray).toList) (
 j32_3 d ag3 b4 n5 x7 s8 r9 false x7.2.2.2.1 r9.1 x7.2.2.2.2.2.1 x7.2.2.2.2.2.2.1) (
 oif ((s8 : ByteArray).toList == ((⟨#[99, 98, 117, 114, 115, 116]⟩ : ByteArray) : ByteArray).toList) (
 j32_3 d ag3 b4 n5 x7 s8 r9 false x7.2.2.2.1 x7.2.2.2.2.1 r9.1 x7.2.2.2.2.2.2.1) (
 j32_3 d ag3 b4 n5 x7 s8 r9 false x7.2.2.2.1 x7.2.2.2.2.1 x7.2.2.2.2.2.1 r9.1))))))) none) none) (
 kx32_0_0 b4 x7.1 x7.2.1 x7.2.2.1 x7.2.2.2.1 x7.2.2.2.2.1 x7.2.2.2.2.2.1 x7.2.2.2.2.2.2.1 x7.2.2.2.2.2.2.2 x6.1 x6.2.1 x6.2.2.1 x6.2.2.2.1.1 x6.2.2.2.1.2.1 x6.2.2.2.1.2.2.1 x6.2.2.2.1.2.2.2 x6.2.2.2.2.1 x6.2.2.2.2.2.1 x6.2.2.2.2.2.2)
noncomputable def l32_0 (d : Nat)  (kx32_0_0 : Bool → Int → Int → Int → Int → Int → Int → Int → Int → (List (Int × Int × ByteArray × Int)) → Int → Int → ByteArray → (List (Int × Int × Int × Int × Int × Int × Int × Int)) → (List (Int × Int × Int × Int × Int)) → Int → Int → Int → Int → Option ((Int × Int × Int × Int × Int × Int × Int × Int) × Bool × ((List (Int × Int × ByteArray × Int)) × Int × Int × (ByteArray × (List (Int × Int × Int × Int × Int × Int × Int × Int)) × (List (Int × Int × Int × Int × Int)) × Int) × Int × Int × Int))) (ag3 : (Bool × Int × ((List (Int × Int × ByteArray × Int)) × Int × Int × (ByteArray × (List (Int × Int × Int × Int × Int × Int × Int × Int)) × (List (Int × Int × Int × Int × Int)) × Int) × Int × Int × Int) × (Int × Int × Int × Int × Int × Int × Int × Int)) → Option ((Int × Int × Int × Int × Int × Int × Int × Int) × Bool × ((List (Int × Int × ByteArray × Int)) × Int × Int × (ByteArray × (List (Int × Int × Int × Int × Int × Int × Int × Int)) × (List (Int × Int × Int × Int × Int)) × Int) × Int × Int × Int))) (s : (Bool × Int × ((List (Int × Int × ByteArray × Int)) × Int × Int × (ByteArray × (List (Int × Int × Int × Int × Int × Int × Int × Int)) × (List (Int × Int × Int × Int × Int)) × Int) × Int × Int × Int) × (Int × Int × Int × Int × Int × Int × Int × Int))) : Option ((Int × Int × Int × Int × Int × Int × Int × Int) × Bool × ((List (Int × Int × ByteArray × Int)) × Int × Int × (ByteArray × (List (Int × Int × Int × Int × Int × Int × Int × Int)) × (List (Int × Int × Int × Int × Int)) × Int) × Int × Int × Int)) := l32_0_b d kx32_0_0 ag3 s.1 s.2.1 s.2.2.1 s.2.2.2
theorem e32 (d : Nat) (x1 : ((List (Int × Int × ByteArray × Int)) × Int × Int × (ByteArray × (List (Int × Int × Int × Int × Int × Int × Int × Int)) × (List (Int × Int × Int × Int × Int)) × Int) × Int × Int × Int)) (n2 : Int) : g32 (d + 1) x1 n2 =
 iterP (l32_0 d (j32_0 d)) fuelN (false, 0, x1, (0, n2, 0, 0, 0, 0, 0, 0)) := by kernel_rfl

theorem e33 (d : Nat) (x1 : ((List (Int × Int × ByteArray × Int)) × Int × Int × (ByteArray × (List (Int × Int × Int × Int × Int × Int × Int × Int)) × (List (Int × Int × Int × Int × Int)) × Int) × Int × Int × Int)) : g33 (d + 1) x1 =
 obind (g51 d x1 (⟨#[108, 105, 109, 105, 116]⟩ : ByteArray)) fun r2 =>
 oif r2.2.1 (
 obind (g56 d r2.2.2 (⟨#[59]⟩ : ByteArray)) fun r3 =>
 some (r2.1, r3.1, r3.2)) (
 some (r2.1, false, r2.2.2)) := by kernel_rfl

theorem e97 (d : Nat) (n1 : Int) : g97 (d + 1) n1 =
 oif (decide ((n1 : Int) ≥ 32)) (
 oif (decide ((n1 : Int) ≤ 126)) (
 some true) (
 oif ((n1 : Int) == 9) (
 some true) (
 some ((n1 : Int) == 10)))) (
 oif ((n1 : Int) == 9) (
 some true) (
 some ((n1 : Int) == 10))) := by kernel_rfl

noncomputable def j85_0 (d : Nat)  (n4 : Int) (n5 : Int) : Option Int :=
 some n4
noncomputable def j85_1 (d : Nat) (ag3 : (Int × Int) → Option Int) (n5 : Int) (n22 : Int) (n23 : Int) (b24 : Bool) (b25 : Bool) (b26 : Bool) (b27 : Bool) : Option Int :=
 ag3 (n22, n5)
noncomputable def l85_1_b (d : Nat) (s1 : ByteArray) (kx85_1_0 : Int → Int → Bool → Bool → Bool → Bool → Option Int) (ag21 : Int → Option Int) (n22 : Int) : Option Int :=
 oif (decide ((n22 : Int) < ((s1 : ByteArray).size : Int))) (
 oif (decide (0 ≤ (n22 : Int))) (
 obind ((s1 : ByteArray).data.toList[(n22 : Int).toNat]?) fun c23 =>
 oif (((c23.toNat : Int) : Int) != 10) (
 oif (decide (0 ≤ (n22 : Int))) (
 obind ((s1 : ByteArray).data.toList[(n22 : Int).toNat]?) fun c24 =>
 obind (g97 d (c24.toNat : Int)) fun r25 =>
 oif r25 (
 ag21 (IntKind.i64.wrap (n22 + 1))) (
 kx85_1_0 n22 n22 (decide ((n22 : Int) < ((s1 : ByteArray).size : Int))) true (((c23.toNat : Int) : Int) != 10) true)) none) (
 kx85_1_0 n22 n22 (decide ((n22 : Int) < ((s1 : ByteArray).size : Int))) true (((c23.toNat : Int) : Int) != 10) false)) none) (
 kx85_1_0 n22 n22 (decide ((n22 : Int) < ((s1 : ByteArray).size : Int))) false false false)
noncomputable def l85_1 (d : Nat) (s1 : ByteArray) (kx85_1_0 : Int → Int → Bool → Bool → Bool → Bool → Option Int) (ag21 : Int → Option Int) (s : Int) : Option Int := l85_1_b d s1 kx85_1_0 ag21 s
noncomputable def j85_2 (d : Nat) (s1 : ByteArray) (ag3 : (Int × Int) → Option Int) (n4 : Int) (n5 : Int) (b13 : Bool) (n14 : Int) (b15 : Bool) (b16 : Bool) (b17 : Bool) (b18 : Bool) (b19 : Bool) : Option Int :=
 oif b13 (
 ag3 ((IntKind.i64.wrap (n4 + 2)), n5)) (
 oif (decide (0 ≤ (n4 : Int))) (
 obind ((s1 : ByteArray).data.toList[(n4 : Int).toNat]?) fun c20 =>
 oif (((c20.toNat : Int) : Int) == 35) (
 iterP (l85_1 d s1 (j85_1 d ag3 n5)) fuelN n4) (
 some n4)) none)
noncomputable def j85_3 (d : Nat) (s1 : ByteArray) (ag3 : (Int × Int) → Option Int) (n4 : Int) (n5 : Int) (b6 : Bool) (n7 : Int) (b8 : Bool) (b9 : Bool) (b10 : Bool) (b11 : Bool) (b12 : Bool) : Option Int :=
 oif b6 (
 ag3 ((IntKind.i64.wrap (n4 + 1)), n5)) (
 oif (decide (0 ≤ (n4 : Int))) (
 obind ((s1 : ByteArray).data.toList[(n4 : Int).toNat]?) fun c13 =>
 oif (((c13.toNat : Int) : Int) == 92) (
 oif (decide (((IntKind.i64.wrap (n4 + 1)) : Int) < ((s1 : ByteArray).size : Int))) (
 oif (decide (0 ≤ ((IntKind.i64.wrap (n4 + 1)) : Int))) (
 obind ((s1 : ByteArray).data.toList[((IntKind.i64.wrap (n4 + 1)) : Int).toNat]?) fun c14 =>
 j85_2 d s1 ag3 n4 n5 (((c14.toNat : Int) : Int) == 10) (c13.toNat : Int) (((c13.toNat : Int) : Int) == 92) true (decide (((IntKind.i64.wrap (n4 + 1)) : Int) < ((s1 : ByteArray).size : Int))) true (((c14.toNat : Int) : Int) == 10)) none) (
 j85_2 d s1 ag3 n4 n5 false (c13.toNat : Int) (((c13.toNat : Int) : Int) == 92) true (decide (((IntKind.i64.wrap (n4 + 1)) : Int) < ((s1 : ByteArray).size : Int))) false false)) (
 j85_2 d s1 ag3 n4 n5 false (c13.toNat : Int) (((c13.toNat : Int) : Int) == 92) false false false false)) none)
noncomputable def l85_0_b (d : Nat) (s1 : ByteArray) (kx85_0_0 : Int → Int → Option Int) (ag3 : (Int × Int) → Option Int) (n4 : Int) (n5 : Int) : Option Int :=
 oif (decide ((n4 : Int) < ((s1 : ByteArray).size : Int))) (
 oif (decide (0 ≤ (n4 : Int))) (
 obind ((s1 : ByteArray).data.toList[(n4 : Int).toNat]?) fun c6 =>
 oif (((c6.toNat : Int) : Int) == 32) (
 j85_3 d s1 ag3 n4 n5 true (c6.toNat : Int) (((c6.toNat : Int) : Int) == 32) true true true true) (
 oif (decide (0 ≤ (n4 : Int))) (
 obind ((s1 : ByteArray).data.toList[(n4 : Int).toNat]?) fun c7 =>
 oif (((c7.toNat : Int) : Int) == 9) (
 j85_3 d s1 ag3 n4 n5 true (c6.toNat : Int) (((c6.toNat : Int) : Int) == 32) false (((c7.toNat : Int) : Int) == 9) true true) (
 oif (decide (0 ≤ (n4 : Int))) (
 obind ((s1 : ByteArray).data.toList[(n4 : Int).toNat]?) fun c8 =>
 j85_3 d s1 ag3 n4 n5 (((c8.toNat : Int) : Int) == 10) (c6.toNat : Int) (((c6.toNat : Int) : Int) == 32) false (((c7.toNat : Int) : Int) == 9) false (((c8.toNat : Int) : Int) == 10)) none)) none)) none) (
 kx85_0_0 n4 n5)
noncomputable def l85_0 (d : Nat) (s1 : ByteArray) (kx85_0_0 : Int → Int → Option Int) (ag3 : (Int × Int) → Option Int) (s : (Int × Int)) : Option Int := l85_0_b d s1 kx85_0_0 ag3 s.1 s.2
theorem e85 (d : Nat) (s1 : ByteArray) (n2 : Int) : g85 (d + 1) s1 n2 =
 iterP (l85_0 d s1 (j85_0 d)) fuelN (n2, 0) := by kernel_rfl

theorem e98 (d : Nat)  : g98 (d + 1) =
 some [(⟨#[123]⟩ : ByteArray), (⟨#[125]⟩ : ByteArray), (⟨#[59]⟩ : ByteArray), (⟨#[47]⟩ : ByteArray), (⟨#[61]⟩ : ByteArray), (⟨#[45, 62]⟩ : ByteArray)] := by kernel_rfl

noncomputable def j86_0 (d : Nat)  (s5 : ByteArray) : Option ByteArray :=
 some (⟨#[]⟩ : ByteArray)
noncomputable def l86_0_b (d : Nat) (s1 : ByteArray) (n2 : Int) (r3 : List ByteArray) (kx86_0_0 : ByteArray → Option ByteArray) (ag4 : (ByteArray × Int) → Option ByteArray) (s5 : ByteArray) (n6 : Int) : Option ByteArray :=
 oif (decide ((n6 : Int) < ((r3.length : Nat) : Int))) (
 oif (decide (0 ≤ (n6 : Int))) (
 oif (Nat.blt ((n6 : Int).toNat) r3.length) (
 obind (r3[(n6 : Int).toNat]?) fun s7 =>
 oif (decide (((IntKind.i64.wrap (n2 + ((s7 : ByteArray).size : Int))) : Int) ≤ ((s1 : ByteArray).size : Int))) (
 oif (decide (0 ≤ ((IntKind.i64.wrap (n2 + ((s7 : ByteArray).size : Int))) : Int))) (
 oif (decide (0 ≤ (n2 : Int))) (
 oif (Nat.ble ((n2 : Int).toNat) (((IntKind.i64.wrap (n2 + ((s7 : ByteArray).size : Int))) : Int).toNat) && Nat.ble (((IntKind.i64.wrap (n2 + ((s7 : ByteArray).size : Int))) : Int).toNat) (s1 : ByteArray).size) (
 oif ((((s1 : ByteArray).extract ((n2 : Int).toNat) (((IntKind.i64.wrap (n2 + ((s7 : ByteArray).size : Int))) : Int).toNat)) : ByteArray).toList == (s7 : ByteArray).toList) (
 some s7) (
 ag4 (s5, (IntKind.i64.wrap (n6 + 1))))) none) none) none) (
 ag4 (s5, (IntKind.i64.wrap (n6 + 1))))) none) none) (
 kx86_0_0 s5)
noncomputable def l86_0 (d : Nat) (s1 : ByteArray) (n2 : Int) (r3 : List ByteArray) (kx86_0_0 : ByteArray → Option ByteArray) (ag4 : (ByteArray × Int) → Option ByteArray) (s : (ByteArray × Int)) : Option ByteArray := l86_0_b d s1 n2 r3 kx86_0_0 ag4 s.1 s.2
theorem e86 (d : Nat) (s1 : ByteArray) (n2 : Int) : g86 (d + 1) s1 n2 =
 obind (g98 d) fun r3 =>
 iterP (l86_0 d s1 n2 r3 (j86_0 d)) fuelN ((⟨#[]⟩ : ByteArray), 0) := by kernel_rfl

theorem e100 (d : Nat) (n1 : Int) : g100 (d + 1) n1 =
 oif (decide ((n1 : Int) ≥ 97)) (
 some (decide ((n1 : Int) ≤ 122))) (
 some false) := by kernel_rfl

theorem e99 (d : Nat) (n1 : Int) : g99 (d + 1) n1 =
 obind (g100 d n1) fun r2 =>
 oif r2 (
 some true) (
 oif (decide ((n1 : Int) ≥ 48)) (
 some (decide ((n1 : Int) ≤ 57))) (
 some false)) := by kernel_rfl

noncomputable def j87_0 (d : Nat) (s1 : ByteArray) (n2 : Int) (n4 : Int) : Option ByteArray :=
 oif (decide (0 ≤ (n4 : Int))) (
 oif (decide (0 ≤ (n2 : Int))) (
 oif (Nat.ble ((n2 : Int).toNat) ((n4 : Int).toNat) && Nat.ble ((n4 : Int).toNat) (s1 : ByteArray).size) (
 some ((s1 : ByteArray).extract ((n2 : Int).toNat) ((n4 : Int).toNat))) none) none) none
noncomputable def l87_0_b (d : Nat) (s1 : ByteArray) (kx87_0_0 : Int → Option ByteArray) (ag3 : Int → Option ByteArray) (n4 : Int) : Option ByteArray :=
 oif (decide ((n4 : Int) < ((s1 : ByteArray).size : Int))) (
 oif (decide (0 ≤ (n4 : Int))) (
 obind ((s1 : ByteArray).data.toList[(n4 : Int).toNat]?) fun c5 =>
 obind (g99 d (c5.toNat : Int)) fun r6 =>
 oif r6 (
 ag3 (IntKind.i64.wrap (n4 + 1))) (
 kx87_0_0 n4)) none) (
 kx87_0_0 n4)
noncomputable def l87_0 (d : Nat) (s1 : ByteArray) (kx87_0_0 : Int → Option ByteArray) (ag3 : Int → Option ByteArray) (s : Int) : Option ByteArray := l87_0_b d s1 kx87_0_0 ag3 s
theorem e87 (d : Nat) (s1 : ByteArray) (n2 : Int) : g87 (d + 1) s1 n2 =
 iterP (l87_0 d s1 (j87_0 d s1 n2)) fuelN n2 := by kernel_rfl

noncomputable def j107_0 (d : Nat)  (b4 : Bool) : Option Bool :=
 some false
noncomputable def l107_0_b (d : Nat) (l1 : List ByteArray) (s2 : ByteArray) (kx107_0_0 : Bool → Option Bool) (ag3 : (Bool × Int) → Option Bool) (b4 : Bool) (n5 : Int) : Option Bool :=
 oif (decide ((n5 : Int) < ((l1.length : Nat) : Int))) (
 oif (decide (0 ≤ (n5 : Int))) (
 obind (l1[(n5 : Int).toNat]?) fun s6 =>
 oif ((s6 : ByteArray).toList == (s2 : ByteArray).toList) (
 some true) (
 ag3 (b4, (IntKind.i64.wrap (n5 + 1))))) none) (
 kx107_0_0 b4)
noncomputable def l107_0 (d : Nat) (l1 : List ByteArray) (s2 : ByteArray) (kx107_0_0 : Bool → Option Bool) (ag3 : (Bool × Int) → Option Bool) (s : (Bool × Int)) : Option Bool := l107_0_b d l1 s2 kx107_0_0 ag3 s.1 s.2
theorem e107 (d : Nat) (l1 : List ByteArray) (s2 : ByteArray) : g107 (d + 1) l1 s2 =
 iterP (l107_0 d l1 s2 (j107_0 d)) fuelN (false, 0) := by kernel_rfl

theorem e108 (d : Nat)  : g108 (d + 1) =
 some [(⟨#[113, 100, 105, 115, 99]⟩ : ByteArray), (⟨#[100, 101, 102, 97, 117, 108, 116]⟩ : ByteArray), (⟨#[99, 108, 97, 115, 115]⟩ : ByteArray), (⟨#[114, 97, 116, 101]⟩ : ByteArray), (⟨#[99, 101, 105, 108]⟩ : ByteArray), (⟨#[98, 117, 114, 115, 116]⟩ : ByteArray), (⟨#[99, 98, 117, 114, 115, 116]⟩ : ByteArray), (⟨#[112, 114, 105, 111]⟩ : ByteArray), (⟨#[108, 105, 109, 105, 116]⟩ : ByteArray), (⟨#[102, 105, 108, 116, 101, 114]⟩ : ByteArray), (⟨#[115, 111, 117, 114, 99, 101]⟩ : ByteArray), (⟨#[100, 101, 115, 116]⟩ : ByteArray), (⟨#[112, 111, 114, 116]⟩ : ByteArray), (⟨#[109, 97, 114, 107]⟩ : ByteArray)] := by kernel_rfl

theorem e94 (d : Nat) (s1 : ByteArray) : g94 (d + 1) s1 =
 obind (g108 d) fun r2 =>
 obind (g107 d r2 s1) fun r3 =>
 some r3 := by kernel_rfl

noncomputable def j101_0 (d : Nat) (s1 : ByteArray) (b3 : Bool) : Option Bool :=
 obind (g31 d ((s1 : ByteArray).size : Int) 1 12) fun r4 =>
 some r4
noncomputable def l101_0_b (d : Nat) (s1 : ByteArray) (kx101_0_0 : Bool → Option Bool) (ag2 : (Bool × Int) → Option Bool) (b3 : Bool) (n4 : Int) : Option Bool :=
 oif (decide ((n4 : Int) < ((s1 : ByteArray).size : Int))) (
 oif (decide (0 ≤ (n4 : Int))) (
 obind ((s1 : ByteArray).data.toList[(n4 : Int).toNat]?) fun c5 =>
 obind (g100 d (c5.toNat : Int)) fun r6 =>
 oif (!r6) (
 some false) (
 ag2 (b3, (IntKind.i64.wrap (n4 + 1))))) none) (
 kx101_0_0 b3)
noncomputable def l101_0 (d : Nat) (s1 : ByteArray) (kx101_0_0 : Bool → Option Bool) (ag2 : (Bool × Int) → Option Bool) (s : (Bool × Int)) : Option Bool := l101_0_b d s1 kx101_0_0 ag2 s.1 s.2
theorem e101 (d : Nat) (s1 : ByteArray) : g101 (d + 1) s1 =
 iterP (l101_0 d s1 (j101_0 d s1)) fuelN (false, 0) := by kernel_rfl

theorem e112 (d : Nat) (s1 : ByteArray) : g112 (d + 1) s1 =
 oif (decide ((((s1 : ByteArray).size : Int) : Int) ≥ 2)) (
 oif (Nat.ble 0 2 && Nat.ble 2 (s1 : ByteArray).size) (
 some ((((s1 : ByteArray).extract 0 2) : ByteArray).toList == ((⟨#[48, 120]⟩ : ByteArray) : ByteArray).toList)) none) (
 some false) := by kernel_rfl

noncomputable def j115_0 (d : Nat) (n3 : Int) (n6 : Int) (n7 : Int) : Option Int :=
 oif (decide ((n7 : Int) > n3)) (
 some (-1)) (
 some n7)
noncomputable def j115_1 (d : Nat) (n2 : Int) (n3 : Int) (ag5 : (Int × Int × Int) → Option Int) (n6 : Int) (n7 : Int) (n8 : Int) (n9 : Int) (b10 : Bool) (n11 : Int) (b12 : Bool) (b13 : Bool) (b14 : Bool) : Option Int :=
 oif (decide ((n9 : Int) ≥ n2)) (
 some (-1)) (
 oif (decide ((n7 : Int) > n3)) (
 some (-1)) (
 ag5 (n6, (IntKind.i64.wrap ((IntKind.i64.wrap (n7 * n2)) + n9)), (IntKind.i64.wrap (n8 + 1)))))
noncomputable def j115_2 (d : Nat) (s1 : ByteArray) (n2 : Int) (n3 : Int) (ag5 : (Int × Int × Int) → Option Int) (n6 : Int) (n7 : Int) (n8 : Int) (n10 : Int) (b11 : Bool) (b12 : Bool) (b13 : Bool) (b15 : Bool) (n16 : Int) (b17 : Bool) (b18 : Bool) (b19 : Bool) : Option Int :=
 oif b15 (
 oif (decide (0 ≤ (n8 : Int))) (
 obind ((s1 : ByteArray).data.toList[(n8 : Int).toNat]?) fun c20 =>
 j115_1 d n2 n3 ag5 n6 n7 n8 (IntKind.i64.wrap ((IntKind.i64.wrap ((IntKind.i64.wrap (c20.toNat : Int)) - 97)) + 10)) false n10 b11 b12 b13) none) (
 j115_1 d n2 n3 ag5 n6 n7 n8 99 false n10 b11 b12 b13)
noncomputable def j115_3 (d : Nat) (s1 : ByteArray) (n2 : Int) (n3 : Int) (ag5 : (Int × Int × Int) → Option Int) (n6 : Int) (n7 : Int) (n8 : Int) (b9 : Bool) (n10 : Int) (b11 : Bool) (b12 : Bool) (b13 : Bool) : Option Int :=
 oif b9 (
 oif (decide (0 ≤ (n8 : Int))) (
 obind ((s1 : ByteArray).data.toList[(n8 : Int).toNat]?) fun c14 =>
 j115_1 d n2 n3 ag5 n6 n7 n8 (IntKind.i64.wrap ((IntKind.i64.wrap (c14.toNat : Int)) - 48)) true n10 b11 b12 b13) none) (
 oif (decide (0 ≤ (n8 : Int))) (
 obind ((s1 : ByteArray).data.toList[(n8 : Int).toNat]?) fun c15 =>
 oif (decide (((c15.toNat : Int) : Int) ≥ 97)) (
 oif (decide (0 ≤ (n8 : Int))) (
 obind ((s1 : ByteArray).data.toList[(n8 : Int).toNat]?) fun c16 =>
 j115_2 d s1 n2 n3 ag5 n6 n7 n8 n10 b11 b12 b13 (decide (((c16.toNat : Int) : Int) ≤ 102)) (c15.toNat : Int) (decide (((c15.toNat : Int) : Int) ≥ 97)) true (decide (((c16.toNat : Int) : Int) ≤ 102))) none) (
 j115_2 d s1 n2 n3 ag5 n6 n7 n8 n10 b11 b12 b13 false (c15.toNat : Int) (decide (((c15.toNat : Int) : Int) ≥ 97)) false false)) none)
noncomputable def l115_0_b (d : Nat) (s1 : ByteArray) (n2 : Int) (n3 : Int) (kx115_0_0 : Int → Int → Option Int) (ag5 : (Int × Int × Int) → Option Int) (n6 : Int) (n7 : Int) (n8 : Int) : Option Int :=
 oif (decide ((n8 : Int) < ((s1 : ByteArray).size : Int))) (
 oif (decide (0 ≤ (n8 : Int))) (
 obind ((s1 : ByteArray).data.toList[(n8 : Int).toNat]?) fun c9 =>
 oif (decide (((c9.toNat : Int) : Int) ≥ 48)) (
 oif (decide (0 ≤ (n8 : Int))) (
 obind ((s1 : ByteArray).data.toList[(n8 : Int).toNat]?) fun c10 =>
 j115_3 d s1 n2 n3 ag5 n6 n7 n8 (decide (((c10.toNat : Int) : Int) ≤ 57)) (c9.toNat : Int) (decide (((c9.toNat : Int) : Int) ≥ 48)) true (decide (((c10.toNat : Int) : Int) ≤ 57))) none) (
 j115_3 d s1 n2 n3 ag5 n6 n7 n8 false (c9.toNat : Int) (decide (((c9.toNat : Int) : Int) ≥ 48)) false false)) none) (
 kx115_0_0 n6 n7)
noncomputable def l115_0 (d : Nat) (s1 : ByteArray) (n2 : Int) (n3 : Int) (kx115_0_0 : Int → Int → Option Int) (ag5 : (Int × Int × Int) → Option Int) (s : (Int × Int × Int)) : Option Int := l115_0_b d s1 n2 n3 kx115_0_0 ag5 s.1 s.2.1 s.2.2
noncomputable def j115_4 (d : Nat) (s1 : ByteArray) (n2 : Int) (n3 : Int) (b4 : Bool) : Option Int :=
 oif b4 (
 some (-1)) (
 iterP (l115_0 d s1 n2 n3 (j115_0 d n3)) fuelN (0, 0, 0))
theorem e115 (d : Nat) (s1 : ByteArray) (n2 : Int) (n3 : Int) : g115 (d + 1) s1 n2 n3 =
 oif ((s1 : ByteArray).toList == ((⟨#[]⟩ : ByteArray) : ByteArray).toList) (
 j115_4 d s1 n2 n3 true) (
 obind ((s1 : ByteArray).data.toList[0]?) fun c4 =>
 oif (((c4.toNat : Int) : Int) == 48) (
 j115_4 d s1 n2 n3 (decide ((((s1 : ByteArray).size : Int) : Int) > 1))) (
 j115_4 d s1 n2 n3 false)) := by kernel_rfl

theorem e113 (d : Nat) (s1 : ByteArray) : g113 (d + 1) s1 =
 obind (g112 d s1) fun r2 =>
 oif (!r2) (
 some (-1)) (
 oif (Nat.ble 2 ((s1 : ByteArray).size) && Nat.ble ((s1 : ByteArray).size) (s1 : ByteArray).size) (
 obind (g115 d ((s1 : ByteArray).extract 2 ((s1 : ByteArray).size)) 16 65535) fun r3 =>
 some r3) none) := by kernel_rfl

theorem e116 (d : Nat)  : g116 (d + 1) =
 some [(⟨#[109]⟩ : ByteArray), (⟨#[107]⟩ : ByteArray), (⟨#[]⟩ : ByteArray)] := by kernel_rfl

theorem e117 (d : Nat) (n1 : Int) : g117 (d + 1) n1 =
 oif (decide (0 ≤ (n1 : Int))) (
 oif (Nat.blt ((n1 : Int).toNat) ([1000000, 1000, 1].length)) (
 obind ([1000000, 1000, 1][(n1 : Int).toNat]?) fun n2 =>
 some n2) none) none := by kernel_rfl

noncomputable def j114_0 (d : Nat) (s1 : ByteArray) (n4 : Int) : Option Int :=
 obind (g115 d s1 10 1000000000) fun r5 =>
 some r5
noncomputable def j114_1 (d : Nat) (s1 : ByteArray) (ag3 : (Int × Int) → Option Int) (n4 : Int) (n5 : Int) (b7 : Bool) (b8 : Bool) (b9 : Bool) (b10 : Bool) : Option Int :=
 oif b10 (
 oif (decide (0 ≤ ((IntKind.i64.wrap (((s1 : ByteArray).size : Int) - 1)) : Int))) (
 oif (Nat.ble 0 (((IntKind.i64.wrap (((s1 : ByteArray).size : Int) - 1)) : Int).toNat) && Nat.ble (((IntKind.i64.wrap (((s1 : ByteArray).size : Int) - 1)) : Int).toNat) (s1 : ByteArray).size) (
 obind (g117 d n5) fun r11 =>
 oif ((r11 : Int) == 0) none (
 obind (g115 d ((s1 : ByteArray).extract 0 (((IntKind.i64.wrap (((s1 : ByteArray).size : Int) - 1)) : Int).toNat)) 10 (IntKind.i64.wrap ((1000000000 : Int).tdiv r11))) fun r12 =>
 oif (decide ((r12 : Int) ≤ 0)) (
 some (-1)) (
 obind (g117 d n5) fun r13 =>
 some (IntKind.i64.wrap (r12 * r13))))) none) none) (
 ag3 (n4, (IntKind.i64.wrap (n5 + 1))))
noncomputable def l114_0_b (d : Nat) (s1 : ByteArray) (r2 : List ByteArray) (kx114_0_0 : Int → Option Int) (ag3 : (Int × Int) → Option Int) (n4 : Int) (n5 : Int) : Option Int :=
 oif (decide ((n5 : Int) < ((r2.length : Nat) : Int))) (
 oif (decide (0 ≤ (n5 : Int))) (
 oif (Nat.blt ((n5 : Int).toNat) r2.length) (
 obind (r2[(n5 : Int).toNat]?) fun s6 =>
 oif (!((s6 : ByteArray).toList == ((⟨#[]⟩ : ByteArray) : ByteArray).toList)) (
 oif (decide ((((s1 : ByteArray).size : Int) : Int) > 0)) (
 oif (decide (0 ≤ ((IntKind.i64.wrap (((s1 : ByteArray).size : Int) - 1)) : Int))) (
 oif (Nat.ble (((IntKind.i64.wrap (((s1 : ByteArray).size : Int) - 1)) : Int).toNat) ((s1 : ByteArray).size) && Nat.ble ((s1 : ByteArray).size) (s1 : ByteArray).size) (
 j114_1 d s1 ag3 n4 n5 true (decide ((((s1 : ByteArray).size : Int) : Int) > 0)) true ((((s1 : ByteArray).extract (((IntKind.i64.wrap (((s1 : ByteArray).size : Int) - 1)) : Int).toNat) ((s1 : ByteArray).size)) : ByteArray).toList == (s6 : ByteArray).toList)) none) none) (
 j114_1 d s1 ag3 n4 n5 true (decide ((((s1 : ByteArray).size : Int) : Int) > 0)) false false)) (
 j114_1 d s1 ag3 n4 n5 false false false false)) none) none) (
 kx114_0_0 n4)
noncomputable def l114_0 (d : Nat) (s1 : ByteArray) (r2 : List ByteArray) (kx114_0_0 : Int → Option Int) (ag3 : (Int × Int) → Option Int) (s : (Int × Int)) : Option Int := l114_0_b d s1 r2 kx114_0_0 ag3 s.1 s.2
theorem e114 (d : Nat) (s1 : ByteArray) : g114 (d + 1) s1 =
 obind (g116 d) fun r2 =>
 iterP (l114_0 d s1 r2 (j114_0 d s1)) fuelN (0, 0) := by kernel_rfl

theorem e109 (d : Nat) (s1 : ByteArray) : g109 (d + 1) s1 =
 obind (g112 d s1) fun r2 =>
 oif r2 (
 obind (g113 d s1) fun r3 =>
 some r3) (
 obind (g114 d s1) fun r4 =>
 some r4) := by kernel_rfl

theorem e102 (d : Nat) (s1 : ByteArray) : g102 (d + 1) s1 =
 obind (g109 d s1) fun r2 =>
 oif (decide ((r2 : Int) < 0)) (
 some (0, false)) (
 some (r2, true)) := by kernel_rfl

theorem e88 (d : Nat) (s1 : ByteArray) (n2 : Int) : g88 (d + 1) s1 n2 =
 obind ((s1 : ByteArray).data.toList[0]?) fun c3 =>
 obind (g100 d (c3.toNat : Int)) fun r4 =>
 oif r4 (
 obind (g101 d s1) fun r5 =>
 oif (!r5) (
 some ((0, 0, (⟨#[]⟩ : ByteArray), 0), 7)) (
 obind (g94 d s1) fun r6 =>
 oif r6 (
 some ((1, n2, s1, 0), 0)) (
 some ((2, n2, s1, 0), 0)))) (
 obind ((s1 : ByteArray).data.toList[0]?) fun c7 =>
 obind (g99 d (c7.toNat : Int)) fun r8 =>
 oif r8 (
 obind (g102 d s1) fun r9 =>
 oif (!r9.2) (
 some ((0, 0, (⟨#[]⟩ : ByteArray), 0), 3)) (
 some ((3, n2, s1, r9.1), 0))) (
 some ((4, n2, s1, 0), 0))) := by kernel_rfl

noncomputable def j74_0 (d : Nat) (r3 : Int) (s5 : ByteArray) : Option ((Int × Int × ByteArray × Int) × Int × (Int × Int)) :=
 oif ((s5 : ByteArray).toList == ((⟨#[]⟩ : ByteArray) : ByteArray).toList) (
 some ((0, 0, (⟨#[]⟩ : ByteArray), 0), r3, (1, r3))) (
 obind (g88 d s5 r3) fun r6 =>
 oif ((r6.2 : Int) != 0) (
 some ((0, 0, (⟨#[]⟩ : ByteArray), 0), r3, (r6.2, r3))) (
 some (r6.1, (IntKind.i64.wrap (r3 + ((s5 : ByteArray).size : Int))), (0, 0))))
theorem e74 (d : Nat) (s1 : ByteArray) (n2 : Int) : g74 (d + 1) s1 n2 =
 obind (g85 d s1 n2) fun r3 =>
 oif ((r3 : Int) == ((s1 : ByteArray).size : Int)) (
 some ((0, 0, (⟨#[]⟩ : ByteArray), 0), r3, (0, 0))) (
 obind (g86 d s1 r3) fun r4 =>
 oif ((r4 : ByteArray).toList == ((⟨#[]⟩ : ByteArray) : ByteArray).toList) (
 obind (g87 d s1 r3) fun r5 =>
 j74_0 d r3 r5) (
 j74_0 d r3 r4)) := by kernel_rfl

noncomputable def l50_0_b (d : Nat) (s1 : ByteArray)  (ag2 : ((List (Int × Int × ByteArray × Int)) × (List (Int × Int × ByteArray × Int)) × Int) → Option ((List (Int × Int × ByteArray × Int)) × (Int × Int))) (l3 : List (Int × Int × ByteArray × Int)) (l4 : List (Int × Int × ByteArray × Int)) (n5 : Int) : Option ((List (Int × Int × ByteArray × Int)) × (Int × Int)) :=
 obind (g74 d s1 n5) fun r6 =>
 oif ((r6.2.2.1 : Int) != 0) (
 some ([], r6.2.2)) (
 oif ((r6.1.1 : Int) == 0) (
 some (l4, (0, 0))) (
 oif ((((l4.length : Nat) : Int) : Int) == 600) (
 some ([], (5, r6.1.2.1))) (
 oif (Nat.ble ((l4.length + [r6.1].length) * 40) roomMax) (
 ag2 (l3, (l4 ++ [r6.1]), r6.2.1)) none)))
noncomputable def l50_0 (d : Nat) (s1 : ByteArray)  (ag2 : ((List (Int × Int × ByteArray × Int)) × (List (Int × Int × ByteArray × Int)) × Int) → Option ((List (Int × Int × ByteArray × Int)) × (Int × Int))) (s : ((List (Int × Int × ByteArray × Int)) × (List (Int × Int × ByteArray × Int)) × Int)) : Option ((List (Int × Int × ByteArray × Int)) × (Int × Int)) := l50_0_b d s1 ag2 s.1 s.2.1 s.2.2
theorem e50 (d : Nat) (s1 : ByteArray) : g50 (d + 1) s1 =
 iterP (l50_0 d s1) fuelN ([], [], 0) := by kernel_rfl

noncomputable def j10_0 (d : Nat) (r5 : ((Int × Int × Int × Int × Int × Int × Int × Int) × Bool × ((List (Int × Int × ByteArray × Int)) × Int × Int × (ByteArray × (List (Int × Int × Int × Int × Int × Int × Int × Int)) × (List (Int × Int × Int × Int × Int)) × Int) × Int × Int × Int))) (r6 : (Int × Bool × ((List (Int × Int × ByteArray × Int)) × Int × Int × (ByteArray × (List (Int × Int × Int × Int × Int × Int × Int × Int)) × (List (Int × Int × Int × Int × Int)) × Int) × Int × Int × Int))) (b7 : Bool) (l8 : List (Int × Int × ByteArray × Int)) (n9 : Int) (n10 : Int) (s11 : ByteArray) (l12 : List (Int × Int × Int × Int × Int × Int × Int × Int)) (l13 : List (Int × Int × Int × Int × Int)) (n14 : Int) (n15 : Int) (n16 : Int) (n17 : Int) : Option ((Int × Int × Int × Int × Int × Int × Int × Int) × (Int × Int) × Bool) :=
 oif b7 (
 some ((0, 0, 0, 0, 0, 0, 0, 0), (n16, n17), true)) (
 some ((r5.1.1, r5.1.2.1, r5.1.2.2.1, r5.1.2.2.2.1, r5.1.2.2.2.2.1, r5.1.2.2.2.2.2.1, r5.1.2.2.2.2.2.2.1, r6.1), (0, 0), true))
noncomputable def j10_1 (d : Nat) (s1 : ByteArray) (n2 : Int) (b3 : Bool) : Option ((Int × Int × Int × Int × Int × Int × Int × Int) × (Int × Int) × Bool) :=
 oif b3 (
 some ((0, 0, 0, 0, 0, 0, 0, 0), (0, 0), false)) (
 obind (g50 d s1) fun r4 =>
 oif ((r4.2.1 : Int) != 0) (
 some ((0, 0, 0, 0, 0, 0, 0, 0), r4.2, true)) (
 obind (g32 (d + 1) (r4.1, 0, ((s1 : ByteArray).size : Int), ((⟨#[]⟩ : ByteArray), ([] : List (Int × Int × Int × Int × Int × Int × Int × Int)), ([] : List (Int × Int × Int × Int × Int)), 0), 0, r4.2) n2) fun r5 =>
 oif (!r5.2.1) (
 some ((0, 0, 0, 0, 0, 0, 0, 0), r5.2.2.2.2.2.2.2, true)) (
 obind (g33 (d + 1) r5.2.2) fun r6 =>
 oif (!r6.2.1) (
 j10_0 d r5 r6 true r6.2.2.1 r6.2.2.2.1 r6.2.2.2.2.1 r6.2.2.2.2.2.1.1 r6.2.2.2.2.2.1.2.1 r6.2.2.2.2.2.1.2.2.1 r6.2.2.2.2.2.1.2.2.2 r6.2.2.2.2.2.2.1 r6.2.2.2.2.2.2.2.1 r6.2.2.2.2.2.2.2.2) (
 obind (g25 (d + 1) r6.2.2) fun r7 =>
 j10_0 d r5 r6 (!r7.1) r7.2.1 r7.2.2.1 r7.2.2.2.1 r7.2.2.2.2.1.1 r7.2.2.2.2.1.2.1 r7.2.2.2.2.1.2.2.1 r7.2.2.2.2.1.2.2.2 r7.2.2.2.2.2.1 r7.2.2.2.2.2.2.1 r7.2.2.2.2.2.2.2))))
theorem e10 (d : Nat) (s1 : ByteArray) (n2 : Int) : g10 (d + 2) s1 n2 =
 obind (g22 (d + 1) ((s1 : ByteArray).size : Int)) fun r3 =>
 oif (!r3) (
 j10_1 d s1 n2 true) (
 obind (g31 (d + 1) n2 0 999) fun r4 =>
 j10_1 d s1 n2 (!r4)) := by kernel_rfl

theorem e30 (d : Nat) (x1 : ((List (Int × Int × ByteArray × Int)) × Int × Int × (Int × Int) × (List ByteArray) × (List (Int × Int × Int × Int × Int × Int × Int × Int)) × (List (Int × Int × Int × Int × Int)) × Int)) : g30 (d + 1) x1 =
 some (((x1.2.2.2.1.1 : Int) != 0), x1) := by kernel_rfl

theorem e58 (d : Nat) (x1 : ((List (Int × Int × ByteArray × Int)) × Int × Int × (Int × Int) × (List ByteArray) × (List (Int × Int × Int × Int × Int × Int × Int × Int)) × (List (Int × Int × Int × Int × Int)) × Int)) : g58 (d + 1) x1 =
 oif (decide (0 ≤ (x1.2.2.1 : Int))) (
 obind (x1.1[(x1.2.2.1 : Int).toNat]?) fun x2 =>
 oif ((x2.1 : Int) == 2) (
 some ((⟨#[110, 97, 109, 101]⟩ : ByteArray), x1)) (
 oif ((x2.1 : Int) == 3) (
 some ((⟨#[110, 117, 109, 98, 101, 114]⟩ : ByteArray), x1)) (
 oif (decide (0 ≤ (x1.2.2.1 : Int))) (
 obind (x1.1[(x1.2.2.1 : Int).toNat]?) fun x3 =>
 some (x3.2.2.1, x1)) none))) none := by kernel_rfl

noncomputable def j63_0 (d : Nat)  (n4 : Int) : Option Int :=
 some (-1)
noncomputable def l63_0_b (d : Nat) (l1 : List ByteArray) (s2 : ByteArray) (kx63_0_0 : Int → Option Int) (ag3 : (Int × Int) → Option Int) (n4 : Int) (n5 : Int) : Option Int :=
 oif (decide ((n5 : Int) < ((l1.length : Nat) : Int))) (
 oif (decide (0 ≤ (n5 : Int))) (
 obind (l1[(n5 : Int).toNat]?) fun s6 =>
 oif ((s2 : ByteArray).toList == (s6 : ByteArray).toList) (
 some n5) (
 ag3 (n4, (IntKind.i64.wrap (n5 + 1))))) none) (
 kx63_0_0 n4)
noncomputable def l63_0 (d : Nat) (l1 : List ByteArray) (s2 : ByteArray) (kx63_0_0 : Int → Option Int) (ag3 : (Int × Int) → Option Int) (s : (Int × Int)) : Option Int := l63_0_b d l1 s2 kx63_0_0 ag3 s.1 s.2
theorem e63 (d : Nat) (l1 : List ByteArray) (s2 : ByteArray) : g63 (d + 1) l1 s2 =
 iterP (l63_0 d l1 s2 (j63_0 d)) fuelN (0, 0) := by kernel_rfl

theorem e59 (d : Nat) (l1 : List ByteArray) (s2 : ByteArray) : g59 (d + 1) l1 s2 =
 obind (g63 d l1 s2) fun r3 =>
 some (decide ((r3 : Int) ≥ 0)) := by kernel_rfl

theorem e60 (d : Nat) (x1 : ((List (Int × Int × ByteArray × Int)) × Int × Int × (Int × Int) × (List ByteArray) × (List (Int × Int × Int × Int × Int × Int × Int × Int)) × (List (Int × Int × Int × Int × Int)) × Int)) (n2 : Int) : g60 (d + 1) x1 n2 =
 oif (decide (0 ≤ (x1.2.2.1 : Int))) (
 obind (x1.1[(x1.2.2.1 : Int).toNat]?) fun x3 =>
 some (x1.1, x1.2.1, x1.2.2.1, (n2, x3.2.1), x1.2.2.2.2)) none := by kernel_rfl

theorem e27 (d : Nat) (x1 : ((List (Int × Int × ByteArray × Int)) × Int × Int × (Int × Int) × (List ByteArray) × (List (Int × Int × Int × Int × Int × Int × Int × Int)) × (List (Int × Int × Int × Int × Int)) × Int)) (l2 : List ByteArray) : g27 (d + 1) x1 l2 =
 obind (g30 d x1) fun r3 =>
 oif r3.1 (
 some ((⟨#[]⟩ : ByteArray), r3.2)) (
 oif ((r3.2.2.2.1 : Int) == ((r3.2.1.length : Nat) : Int)) (
 some ((⟨#[]⟩ : ByteArray), (r3.2.1, r3.2.2.1, r3.2.2.2.1, (6, r3.2.2.1), l2, r3.2.2.2.2.2.2))) (
 obind (g58 d r3.2) fun r4 =>
 obind (g59 d l2 r4.1) fun r5 =>
 oif (!r5) (
 obind (g60 d r4.2 2) fun r6 =>
 some ((⟨#[]⟩ : ByteArray), r6)) (
 some (r4.1, (r4.2.1, r4.2.2.1, (IntKind.i64.wrap (r4.2.2.2.1 + 1)), r4.2.2.2.2))))) := by kernel_rfl

theorem e29 (d : Nat) (x1 : ((List (Int × Int × ByteArray × Int)) × Int × Int × (Int × Int) × (List ByteArray) × (List (Int × Int × Int × Int × Int × Int × Int × Int)) × (List (Int × Int × Int × Int × Int)) × Int)) : g29 (d + 1) x1 =
 obind (g30 d x1) fun r2 =>
 oif (!r2.1) (
 oif (decide ((r2.2.2.2.1 : Int) < ((r2.2.1.length : Nat) : Int))) (
 obind (g60 d r2.2 2) fun r3 =>
 some r3) (
 some r2.2)) (
 some r2.2) := by kernel_rfl

theorem e61 (d : Nat) (x1 : ((List (Int × Int × ByteArray × Int)) × Int × Int × (Int × Int) × (List ByteArray) × (List (Int × Int × Int × Int × Int × Int × Int × Int)) × (List (Int × Int × Int × Int × Int)) × Int)) : g61 (d + 1) x1 =
 obind (g27 d x1 [(⟨#[110, 117, 109, 98, 101, 114]⟩ : ByteArray)]) fun r2 =>
 oif ((r2.1 : ByteArray).toList == ((⟨#[]⟩ : ByteArray) : ByteArray).toList) (
 some (0, r2.2)) (
 oif (decide (0 ≤ ((IntKind.i64.wrap (r2.2.2.2.1 - 1)) : Int))) (
 obind (r2.2.1[((IntKind.i64.wrap (r2.2.2.2.1 - 1)) : Int).toNat]?) fun x3 =>
 some (x3.2.2.2, r2.2)) none) := by kernel_rfl

theorem e35 (d : Nat) (x1 : ((List (Int × Int × ByteArray × Int)) × Int × Int × (Int × Int) × (List ByteArray) × (List (Int × Int × Int × Int × Int × Int × Int × Int)) × (List (Int × Int × Int × Int × Int)) × Int)) (s2 : ByteArray) : g35 (d + 1) x1 s2 =
 obind (g27 d x1 [s2]) fun r3 =>
 obind (g61 d r3.2) fun r4 =>
 some (r4.1, r4.2) := by kernel_rfl

theorem e34 (d : Nat) (x1 : ((List (Int × Int × ByteArray × Int)) × Int × Int × (Int × Int) × (List ByteArray) × (List (Int × Int × Int × Int × Int × Int × Int × Int)) × (List (Int × Int × Int × Int × Int)) × Int)) (n2 : Int) : g34 (d + 1) x1 n2 =
 obind (g61 d x1) fun r3 =>
 obind (g35 d r3.2 (⟨#[114, 97, 116, 101]⟩ : ByteArray)) fun r4 =>
 obind (g35 d r4.2 (⟨#[99, 101, 105, 108]⟩ : ByteArray)) fun r5 =>
 obind (g35 d r5.2 (⟨#[98, 117, 114, 115, 116]⟩ : ByteArray)) fun r6 =>
 obind (g35 d r6.2 (⟨#[99, 98, 117, 114, 115, 116]⟩ : ByteArray)) fun r7 =>
 obind (g35 d r7.2 (⟨#[112, 114, 105, 111]⟩ : ByteArray)) fun r8 =>
 some ((r3.1, n2, r4.1, r5.1, r6.1, r7.1, r8.1, 0), r8.2) := by kernel_rfl

theorem e89 (d : Nat) (n1 : Int) : g89 (d + 1) n1 =
 oif (decide ((n1 : Int) ≥ 32)) (
 oif (decide ((n1 : Int) ≤ 126)) (
 some true) (
 oif ((n1 : Int) == 9) (
 some true) (
 some ((n1 : Int) == 10)))) (
 oif ((n1 : Int) == 9) (
 some true) (
 some ((n1 : Int) == 10))) := by kernel_rfl

noncomputable def j75_0 (d : Nat)  (n4 : Int) (n5 : Int) : Option Int :=
 some n4
noncomputable def j75_1 (d : Nat) (ag3 : (Int × Int) → Option Int) (n5 : Int) (n22 : Int) (n23 : Int) (b24 : Bool) (b25 : Bool) (b26 : Bool) (b27 : Bool) : Option Int :=
 ag3 (n22, n5)
noncomputable def l75_1_b (d : Nat) (s1 : ByteArray) (kx75_1_0 : Int → Int → Bool → Bool → Bool → Bool → Option Int) (ag21 : Int → Option Int) (n22 : Int) : Option Int :=
 oif (decide ((n22 : Int) < ((s1 : ByteArray).size : Int))) (
 oif (decide (0 ≤ (n22 : Int))) (
 obind ((s1 : ByteArray).data.toList[(n22 : Int).toNat]?) fun c23 =>
 oif (((c23.toNat : Int) : Int) != 10) (
 oif (decide (0 ≤ (n22 : Int))) (
 obind ((s1 : ByteArray).data.toList[(n22 : Int).toNat]?) fun c24 =>
 obind (g89 d (c24.toNat : Int)) fun r25 =>
 oif r25 (
 ag21 (IntKind.i64.wrap (n22 + 1))) (
 kx75_1_0 n22 n22 (decide ((n22 : Int) < ((s1 : ByteArray).size : Int))) true (((c23.toNat : Int) : Int) != 10) true)) none) (
 kx75_1_0 n22 n22 (decide ((n22 : Int) < ((s1 : ByteArray).size : Int))) true (((c23.toNat : Int) : Int) != 10) false)) none) (
 kx75_1_0 n22 n22 (decide ((n22 : Int) < ((s1 : ByteArray).size : Int))) false false false)
noncomputable def l75_1 (d : Nat) (s1 : ByteArray) (kx75_1_0 : Int → Int → Bool → Bool → Bool → Bool → Option Int) (ag21 : Int → Option Int) (s : Int) : Option Int := l75_1_b d s1 kx75_1_0 ag21 s
noncomputable def j75_2 (d : Nat) (s1 : ByteArray) (ag3 : (Int × Int) → Option Int) (n4 : Int) (n5 : Int) (b13 : Bool) (n14 : Int) (b15 : Bool) (b16 : Bool) (b17 : Bool) (b18 : Bool) (b19 : Bool) : Option Int :=
 oif b13 (
 ag3 ((IntKind.i64.wrap (n4 + 2)), n5)) (
 oif (decide (0 ≤ (n4 : Int))) (
 obind ((s1 : ByteArray).data.toList[(n4 : Int).toNat]?) fun c20 =>
 oif (((c20.toNat : Int) : Int) == 35) (
 iterP (l75_1 d s1 (j75_1 d ag3 n5)) fuelN (IntKind.i64.wrap (n4 + 1))) (
 some n4)) none)
noncomputable def j75_3 (d : Nat) (s1 : ByteArray) (ag3 : (Int × Int) → Option Int) (n4 : Int) (n5 : Int) (b6 : Bool) (n7 : Int) (b8 : Bool) (b9 : Bool) (b10 : Bool) (b11 : Bool) (b12 : Bool) : Option Int :=
 oif b6 (
 ag3 ((IntKind.i64.wrap (n4 + 1)), n5)) (
 oif (decide (0 ≤ (n4 : Int))) (
 obind ((s1 : ByteArray).data.toList[(n4 : Int).toNat]?) fun c13 =>
 oif (((c13.toNat : Int) : Int) == 92) (
 oif (decide (((IntKind.i64.wrap (n4 + 1)) : Int) < ((s1 : ByteArray).size : Int))) (
 oif (decide (0 ≤ ((IntKind.i64.wrap (n4 + 1)) : Int))) (
 obind ((s1 : ByteArray).data.toList[((IntKind.i64.wrap (n4 + 1)) : Int).toNat]?) fun c14 =>
 j75_2 d s1 ag3 n4 n5 (((c14.toNat : Int) : Int) == 10) (c13.toNat : Int) (((c13.toNat : Int) : Int) == 92) true (decide (((IntKind.i64.wrap (n4 + 1)) : Int) < ((s1 : ByteArray).size : Int))) true (((c14.toNat : Int) : Int) == 10)) none) (
 j75_2 d s1 ag3 n4 n5 false (c13.toNat : Int) (((c13.toNat : Int) : Int) == 92) true (decide (((IntKind.i64.wrap (n4 + 1)) : Int) < ((s1 : ByteArray).size : Int))) false false)) (
 j75_2 d s1 ag3 n4 n5 false (c13.toNat : Int) (((c13.toNat : Int) : Int) == 92) false false false false)) none)
noncomputable def l75_0_b (d : Nat) (s1 : ByteArray) (kx75_0_0 : Int → Int → Option Int) (ag3 : (Int × Int) → Option Int) (n4 : Int) (n5 : Int) : Option Int :=
 oif (decide ((n4 : Int) < ((s1 : ByteArray).size : Int))) (
 oif (decide (0 ≤ (n4 : Int))) (
 obind ((s1 : ByteArray).data.toList[(n4 : Int).toNat]?) fun c6 =>
 oif (((c6.toNat : Int) : Int) == 32) (
 j75_3 d s1 ag3 n4 n5 true (c6.toNat : Int) (((c6.toNat : Int) : Int) == 32) true true true true) (
 oif (decide (0 ≤ (n4 : Int))) (
 obind ((s1 : ByteArray).data.toList[(n4 : Int).toNat]?) fun c7 =>
 oif (((c7.toNat : Int) : Int) == 9) (
 j75_3 d s1 ag3 n4 n5 true (c6.toNat : Int) (((c6.toNat : Int) : Int) == 32) false (((c7.toNat : Int) : Int) == 9) true true) (
 oif (decide (0 ≤ (n4 : Int))) (
 obind ((s1 : ByteArray).data.toList[(n4 : Int).toNat]?) fun c8 =>
 j75_3 d s1 ag3 n4 n5 (((c8.toNat : Int) : Int) == 10) (c6.toNat : Int) (((c6.toNat : Int) : Int) == 32) false (((c7.toNat : Int) : Int) == 9) false (((c8.toNat : Int) : Int) == 10)) none)) none)) none) (
 kx75_0_0 n4 n5)
noncomputable def l75_0 (d : Nat) (s1 : ByteArray) (kx75_0_0 : Int → Int → Option Int) (ag3 : (Int × Int) → Option Int) (s : (Int × Int)) : Option Int := l75_0_b d s1 kx75_0_0 ag3 s.1 s.2
theorem e75 (d : Nat) (s1 : ByteArray) (n2 : Int) : g75 (d + 1) s1 n2 =
 iterP (l75_0 d s1 (j75_0 d)) fuelN (n2, 0) := by kernel_rfl

theorem e82 (d : Nat) (n1 : Int) : g82 (d + 1) n1 =
 oif (decide ((n1 : Int) ≥ 97)) (
 some (decide ((n1 : Int) ≤ 122))) (
 some false) := by kernel_rfl

theorem e110 (d : Nat) (s1 : ByteArray) (s2 : ByteArray) : g110 (d + 1) s1 s2 =
 oif (decide ((((s1 : ByteArray).size : Int) : Int) ≥ ((s2 : ByteArray).size : Int))) (
 oif (decide (0 ≤ (((s2 : ByteArray).size : Int) : Int))) (
 oif (Nat.ble 0 ((((s2 : ByteArray).size : Int) : Int).toNat) && Nat.ble ((((s2 : ByteArray).size : Int) : Int).toNat) (s1 : ByteArray).size) (
 some ((((s1 : ByteArray).extract 0 ((((s2 : ByteArray).size : Int) : Int).toNat)) : ByteArray).toList == (s2 : ByteArray).toList)) none) none) (
 some false) := by kernel_rfl

theorem e103 (d : Nat) (s1 : ByteArray) (s2 : ByteArray) : g103 (d + 1) s1 s2 =
 obind (g110 d s1 s2) fun r3 =>
 some r3 := by kernel_rfl

noncomputable def j90_0 (d : Nat)  (s4 : ByteArray) : Option ByteArray :=
 some (⟨#[]⟩ : ByteArray)
noncomputable def l90_0_b (d : Nat) (s1 : ByteArray) (n2 : Int) (kx90_0_0 : ByteArray → Option ByteArray) (ag3 : (ByteArray × Int) → Option ByteArray) (s4 : ByteArray) (n5 : Int) : Option ByteArray :=
 oif (decide ((n5 : Int) < 6)) (
 oif (decide (0 ≤ (n5 : Int))) (
 obind (([(⟨#[123]⟩ : ByteArray), (⟨#[125]⟩ : ByteArray), (⟨#[59]⟩ : ByteArray), (⟨#[47]⟩ : ByteArray), (⟨#[61]⟩ : ByteArray), (⟨#[45, 62]⟩ : ByteArray)] : List ByteArray)[(n5 : Int).toNat]?) fun s6 =>
 oif (decide (0 ≤ (n2 : Int))) (
 oif (Nat.ble ((n2 : Int).toNat) ((s1 : ByteArray).size) && Nat.ble ((s1 : ByteArray).size) (s1 : ByteArray).size) (
 obind (g103 d ((s1 : ByteArray).extract ((n2 : Int).toNat) ((s1 : ByteArray).size)) s6) fun r7 =>
 oif r7 (
 some s6) (
 ag3 (s4, (IntKind.i64.wrap (n5 + 1))))) none) none) none) (
 kx90_0_0 s4)
noncomputable def l90_0 (d : Nat) (s1 : ByteArray) (n2 : Int) (kx90_0_0 : ByteArray → Option ByteArray) (ag3 : (ByteArray × Int) → Option ByteArray) (s : (ByteArray × Int)) : Option ByteArray := l90_0_b d s1 n2 kx90_0_0 ag3 s.1 s.2
theorem e90 (d : Nat) (s1 : ByteArray) (n2 : Int) : g90 (d + 1) s1 n2 =
 iterP (l90_0 d s1 n2 (j90_0 d)) fuelN ((⟨#[]⟩ : ByteArray), 0) := by kernel_rfl

theorem e104 (d : Nat) (n1 : Int) : g104 (d + 1) n1 =
 oif (decide ((n1 : Int) ≥ 48)) (
 some (decide ((n1 : Int) ≤ 57))) (
 some false) := by kernel_rfl

theorem e91 (d : Nat) (n1 : Int) : g91 (d + 1) n1 =
 obind (g82 d n1) fun r2 =>
 oif r2 (
 some true) (
 obind (g104 d n1) fun r3 =>
 some r3) := by kernel_rfl

noncomputable def j83_0 (d : Nat)  (b3 : Bool) : Option Bool :=
 some false
noncomputable def l83_0_b (d : Nat) (s1 : ByteArray) (kx83_0_0 : Bool → Option Bool) (ag2 : (Bool × Int) → Option Bool) (b3 : Bool) (n4 : Int) : Option Bool :=
 oif (decide ((n4 : Int) < 14)) (
 oif (decide (0 ≤ (n4 : Int))) (
 obind (([(⟨#[113, 100, 105, 115, 99]⟩ : ByteArray), (⟨#[100, 101, 102, 97, 117, 108, 116]⟩ : ByteArray), (⟨#[99, 108, 97, 115, 115]⟩ : ByteArray), (⟨#[114, 97, 116, 101]⟩ : ByteArray), (⟨#[99, 101, 105, 108]⟩ : ByteArray), (⟨#[98, 117, 114, 115, 116]⟩ : ByteArray), (⟨#[99, 98, 117, 114, 115, 116]⟩ : ByteArray), (⟨#[112, 114, 105, 111]⟩ : ByteArray), (⟨#[108, 105, 109, 105, 116]⟩ : ByteArray), (⟨#[102, 105, 108, 116, 101, 114]⟩ : ByteArray), (⟨#[115, 111, 117, 114, 99, 101]⟩ : ByteArray), (⟨#[100, 101, 115, 116]⟩ : ByteArray), (⟨#[112, 111, 114, 116]⟩ : ByteArray), (⟨#[109, 97, 114, 107]⟩ : ByteArray)] : List ByteArray)[(n4 : Int).toNat]?) fun s5 =>
 oif ((s5 : ByteArray).toList == (s1 : ByteArray).toList) (
 some true) (
 ag2 (b3, (IntKind.i64.wrap (n4 + 1))))) none) (
 kx83_0_0 b3)
noncomputable def l83_0 (d : Nat) (s1 : ByteArray) (kx83_0_0 : Bool → Option Bool) (ag2 : (Bool × Int) → Option Bool) (s : (Bool × Int)) : Option Bool := l83_0_b d s1 kx83_0_0 ag2 s.1 s.2
theorem e83 (d : Nat) (s1 : ByteArray) : g83 (d + 1) s1 =
 iterP (l83_0 d s1 (j83_0 d)) fuelN (false, 0) := by kernel_rfl

noncomputable def j92_0 (d : Nat) (s1 : ByteArray) (n4 : Int) : Option Int :=
 obind (g83 d s1) fun r5 =>
 oif r5 (
 some 1) (
 some 2)
noncomputable def l92_0_b (d : Nat) (s1 : ByteArray) (kx92_0_0 : Int → Option Int) (ag3 : (Int × Int) → Option Int) (n4 : Int) (n5 : Int) : Option Int :=
 oif (decide ((n5 : Int) < ((s1 : ByteArray).size : Int))) (
 oif (decide (0 ≤ (n5 : Int))) (
 obind ((s1 : ByteArray).data.toList[(n5 : Int).toNat]?) fun c6 =>
 obind (g82 d (c6.toNat : Int)) fun r7 =>
 oif (!r7) (
 some 0) (
 ag3 (n4, (IntKind.i64.wrap (n5 + 1))))) none) (
 kx92_0_0 n4)
noncomputable def l92_0 (d : Nat) (s1 : ByteArray) (kx92_0_0 : Int → Option Int) (ag3 : (Int × Int) → Option Int) (s : (Int × Int)) : Option Int := l92_0_b d s1 kx92_0_0 ag3 s.1 s.2
noncomputable def j92_1 (d : Nat) (s1 : ByteArray) (b2 : Bool) : Option Int :=
 oif b2 (
 some 0) (
 iterP (l92_0 d s1 (j92_0 d s1)) fuelN (0, 0))
theorem e92 (d : Nat) (s1 : ByteArray) : g92 (d + 1) s1 =
 oif ((s1 : ByteArray).toList == ((⟨#[]⟩ : ByteArray) : ByteArray).toList) (
 j92_1 d s1 true) (
 j92_1 d s1 (decide ((((s1 : ByteArray).size : Int) : Int) > 12))) := by kernel_rfl

theorem e111 (d : Nat) (n1 : Int) : g111 (d + 1) n1 =
 obind (g104 d n1) fun r2 =>
 oif r2 (
 some (IntKind.i64.wrap (IntKind.u8.wrap (n1 - 48)))) (
 oif (decide ((n1 : Int) ≥ 97)) (
 oif (decide ((n1 : Int) ≤ 102)) (
 some (IntKind.i64.wrap ((IntKind.i64.wrap (IntKind.u8.wrap (n1 - 97))) + 10))) (
 some (-1))) (
 some (-1))) := by kernel_rfl

noncomputable def j105_0 (d : Nat)  (n4 : Int) (b5 : Bool) (n6 : Int) : Option (Int × Bool) :=
 some (n6, true)
noncomputable def l105_0_b (d : Nat) (s1 : ByteArray) (kx105_0_0 : Int → Bool → Int → Option (Int × Bool)) (ag3 : (Int × Bool × Int × Int) → Option (Int × Bool)) (n4 : Int) (b5 : Bool) (n6 : Int) (n7 : Int) : Option (Int × Bool) :=
 oif (decide ((n7 : Int) < ((s1 : ByteArray).size : Int))) (
 oif (decide (0 ≤ (n7 : Int))) (
 obind ((s1 : ByteArray).data.toList[(n7 : Int).toNat]?) fun c8 =>
 obind (g111 d (c8.toNat : Int)) fun r9 =>
 oif (decide ((r9 : Int) < 0)) (
 some (0, false)) (
 oif (decide (((IntKind.i64.wrap ((BitVec.ofInt IntKind.i64.bits (IntKind.i64.wrap (n6 * 2 ^ (min (4 : Int).toNat IntKind.i64.bits))) ||| BitVec.ofInt IntKind.i64.bits r9).toNat : Int)) : Int) > 65535)) (
 some (0, false)) (
 ag3 (n4, b5, (IntKind.i64.wrap ((BitVec.ofInt IntKind.i64.bits (IntKind.i64.wrap (n6 * 2 ^ (min (4 : Int).toNat IntKind.i64.bits))) ||| BitVec.ofInt IntKind.i64.bits r9).toNat : Int)), (IntKind.i64.wrap (n7 + 1)))))) none) (
 kx105_0_0 n4 b5 n6)
noncomputable def l105_0 (d : Nat) (s1 : ByteArray) (kx105_0_0 : Int → Bool → Int → Option (Int × Bool)) (ag3 : (Int × Bool × Int × Int) → Option (Int × Bool)) (s : (Int × Bool × Int × Int)) : Option (Int × Bool) := l105_0_b d s1 kx105_0_0 ag3 s.1 s.2.1 s.2.2.1 s.2.2.2
noncomputable def j105_1 (d : Nat) (s1 : ByteArray) (b2 : Bool) : Option (Int × Bool) :=
 oif b2 (
 some (0, false)) (
 iterP (l105_0 d s1 (j105_0 d)) fuelN (0, false, 0, 2))
theorem e105 (d : Nat) (s1 : ByteArray) : g105 (d + 1) s1 =
 oif (decide ((((s1 : ByteArray).size : Int) : Int) < 3)) (
 j105_1 d s1 true) (
 obind ((s1 : ByteArray).data.toList[0]?) fun c2 =>
 oif (((c2.toNat : Int) : Int) != 48) (
 j105_1 d s1 true) (
 obind ((s1 : ByteArray).data.toList[1]?) fun c3 =>
 oif (((c3.toNat : Int) : Int) != 120) (
 j105_1 d s1 true) (
 obind ((s1 : ByteArray).data.toList[2]?) fun c4 =>
 oif (((c4.toNat : Int) : Int) == 48) (
 j105_1 d s1 (decide ((((s1 : ByteArray).size : Int) : Int) > 3))) (
 j105_1 d s1 false)))) := by kernel_rfl

noncomputable def j106_0 (d : Nat) (n2 : Int) (n6 : Int) (b7 : Bool) (n8 : Int) : Option (Int × Bool) :=
 some ((IntKind.i64.wrap (n8 * n2)), true)
noncomputable def l106_0_b (d : Nat) (n2 : Int) (s3 : ByteArray) (kx106_0_0 : Int → Bool → Int → Option (Int × Bool)) (ag5 : (Int × Bool × Int × Int) → Option (Int × Bool)) (n6 : Int) (b7 : Bool) (n8 : Int) (n9 : Int) : Option (Int × Bool) :=
 oif (decide ((n9 : Int) < ((s3 : ByteArray).size : Int))) (
 oif (decide (0 ≤ (n9 : Int))) (
 obind ((s3 : ByteArray).data.toList[(n9 : Int).toNat]?) fun c10 =>
 obind (g104 d (c10.toNat : Int)) fun r11 =>
 oif (!r11) (
 some (0, false)) (
 oif (decide (0 ≤ (n9 : Int))) (
 obind ((s3 : ByteArray).data.toList[(n9 : Int).toNat]?) fun c12 =>
 oif (decide (((IntKind.i64.wrap ((IntKind.i64.wrap ((IntKind.i64.wrap ((10 : Int) * n8)) + (IntKind.i64.wrap (IntKind.u8.wrap ((c12.toNat : Int) - 48))))) * n2)) : Int) > 1000000000)) (
 some (0, false)) (
 ag5 (n6, b7, (IntKind.i64.wrap ((IntKind.i64.wrap ((10 : Int) * n8)) + (IntKind.i64.wrap (IntKind.u8.wrap ((c12.toNat : Int) - 48))))), (IntKind.i64.wrap (n9 + 1))))) none)) none) (
 kx106_0_0 n6 b7 n8)
noncomputable def l106_0 (d : Nat) (n2 : Int) (s3 : ByteArray) (kx106_0_0 : Int → Bool → Int → Option (Int × Bool)) (ag5 : (Int × Bool × Int × Int) → Option (Int × Bool)) (s : (Int × Bool × Int × Int)) : Option (Int × Bool) := l106_0_b d n2 s3 kx106_0_0 ag5 s.1 s.2.1 s.2.2.1 s.2.2.2
noncomputable def j106_1 (d : Nat) (n2 : Int) (s3 : ByteArray) (b4 : Bool) : Option (Int × Bool) :=
 oif b4 (
 some (0, false)) (
 iterP (l106_0 d n2 s3 (j106_0 d n2)) fuelN (0, false, 0, 0))
noncomputable def j106_2 (d : Nat) (s1 : ByteArray) (n2 : Int) (s3 : ByteArray) : Option (Int × Bool) :=
 oif ((s3 : ByteArray).toList == ((⟨#[]⟩ : ByteArray) : ByteArray).toList) (
 j106_1 d n2 s3 true) (
 obind ((s3 : ByteArray).data.toList[0]?) fun c4 =>
 oif (((c4.toNat : Int) : Int) == 48) (
 j106_1 d n2 s3 (!((s1 : ByteArray).toList == ((⟨#[48]⟩ : ByteArray) : ByteArray).toList))) (
 j106_1 d n2 s3 false))
theorem e106 (d : Nat) (s1 : ByteArray) : g106 (d + 1) s1 =
 oif (decide ((((s1 : ByteArray).size : Int) : Int) > 0)) (
 oif (decide (0 ≤ ((IntKind.i64.wrap (((s1 : ByteArray).size : Int) - 1)) : Int))) (
 obind ((s1 : ByteArray).data.toList[((IntKind.i64.wrap (((s1 : ByteArray).size : Int) - 1)) : Int).toNat]?) fun c2 =>
 oif (((c2.toNat : Int) : Int) == 107) (
 oif (decide (0 ≤ ((IntKind.i64.wrap (((s1 : ByteArray).size : Int) - 1)) : Int))) (
 oif (Nat.ble 0 (((IntKind.i64.wrap (((s1 : ByteArray).size : Int) - 1)) : Int).toNat) && Nat.ble (((IntKind.i64.wrap (((s1 : ByteArray).size : Int) - 1)) : Int).toNat) (s1 : ByteArray).size) (
 j106_2 d s1 1000 ((s1 : ByteArray).extract 0 (((IntKind.i64.wrap (((s1 : ByteArray).size : Int) - 1)) : Int).toNat))) none) none) (
 oif (((c2.toNat : Int) : Int) == 109) (
 oif (decide (0 ≤ ((IntKind.i64.wrap (((s1 : ByteArray).size : Int) - 1)) : Int))) (
 oif (Nat.ble 0 (((IntKind.i64.wrap (((s1 : ByteArray).size : Int) - 1)) : Int).toNat) && Nat.ble (((IntKind.i64.wrap (((s1 : ByteArray).size : Int) - 1)) : Int).toNat) (s1 : ByteArray).size) (
 j106_2 d s1 1000000 ((s1 : ByteArray).extract 0 (((IntKind.i64.wrap (((s1 : ByteArray).size : Int) - 1)) : Int).toNat))) none) none) (
 j106_2 d s1 1 s1))) none) (
 j106_2 d s1 1 s1) := by kernel_rfl

theorem e93 (d : Nat) (s1 : ByteArray) : g93 (d + 1) s1 =
 oif (decide ((((s1 : ByteArray).size : Int) : Int) ≥ 2)) (
 oif (Nat.ble 0 2 && Nat.ble 2 (s1 : ByteArray).size) (
 oif ((((s1 : ByteArray).extract 0 2) : ByteArray).toList == ((⟨#[48, 120]⟩ : ByteArray) : ByteArray).toList) (
 obind (g105 d s1) fun r2 =>
 some (r2.1, r2.2)) (
 obind (g106 d s1) fun r3 =>
 some (r3.1, r3.2))) none) (
 obind (g106 d s1) fun r4 =>
 some (r4.1, r4.2)) := by kernel_rfl

noncomputable def j76_0 (d : Nat) (s1 : ByteArray) (n2 : Int) (n7 : Int) : Option ((Int × Int × ByteArray × Int) × Int × (Int × Int)) :=
 oif (decide (0 ≤ (n7 : Int))) (
 oif (decide (0 ≤ (n2 : Int))) (
 oif (Nat.ble ((n2 : Int).toNat) ((n7 : Int).toNat) && Nat.ble ((n7 : Int).toNat) (s1 : ByteArray).size) (
 oif (decide (0 ≤ (n2 : Int))) (
 obind ((s1 : ByteArray).data.toList[(n2 : Int).toNat]?) fun c8 =>
 obind (g82 d (c8.toNat : Int)) fun r9 =>
 oif r9 (
 obind (g92 d ((s1 : ByteArray).extract ((n2 : Int).toNat) ((n7 : Int).toNat))) fun r10 =>
 oif ((r10 : Int) == 0) (
 some ((0, 0, (⟨#[]⟩ : ByteArray), 0), n2, (7, n2))) (
 some ((r10, n2, ((s1 : ByteArray).extract ((n2 : Int).toNat) ((n7 : Int).toNat)), 0), n7, (0, 0)))) (
 obind (g93 d ((s1 : ByteArray).extract ((n2 : Int).toNat) ((n7 : Int).toNat))) fun r11 =>
 oif (!r11.2) (
 some ((0, 0, (⟨#[]⟩ : ByteArray), 0), n2, (3, n2))) (
 some ((3, n2, ((s1 : ByteArray).extract ((n2 : Int).toNat) ((n7 : Int).toNat)), r11.1), n7, (0, 0))))) none) none) none) none
noncomputable def l76_0_b (d : Nat) (s1 : ByteArray) (kx76_0_0 : Int → Option ((Int × Int × ByteArray × Int) × Int × (Int × Int))) (ag6 : Int → Option ((Int × Int × ByteArray × Int) × Int × (Int × Int))) (n7 : Int) : Option ((Int × Int × ByteArray × Int) × Int × (Int × Int)) :=
 oif (decide ((n7 : Int) < ((s1 : ByteArray).size : Int))) (
 oif (decide (0 ≤ (n7 : Int))) (
 obind ((s1 : ByteArray).data.toList[(n7 : Int).toNat]?) fun c8 =>
 obind (g91 d (c8.toNat : Int)) fun r9 =>
 oif r9 (
 ag6 (IntKind.i64.wrap (n7 + 1))) (
 kx76_0_0 n7)) none) (
 kx76_0_0 n7)
noncomputable def l76_0 (d : Nat) (s1 : ByteArray) (kx76_0_0 : Int → Option ((Int × Int × ByteArray × Int) × Int × (Int × Int))) (ag6 : Int → Option ((Int × Int × ByteArray × Int) × Int × (Int × Int))) (s : Int) : Option ((Int × Int × ByteArray × Int) × Int × (Int × Int)) := l76_0_b d s1 kx76_0_0 ag6 s
theorem e76 (d : Nat) (s1 : ByteArray) (n2 : Int) : g76 (d + 1) s1 n2 =
 obind (g90 d s1 n2) fun r3 =>
 oif (!((r3 : ByteArray).toList == ((⟨#[]⟩ : ByteArray) : ByteArray).toList)) (
 some ((4, n2, r3, 0), (IntKind.i64.wrap (n2 + ((r3 : ByteArray).size : Int))), (0, 0))) (
 oif (decide (0 ≤ (n2 : Int))) (
 obind ((s1 : ByteArray).data.toList[(n2 : Int).toNat]?) fun c4 =>
 obind (g91 d (c4.toNat : Int)) fun r5 =>
 oif (!r5) (
 some ((0, 0, (⟨#[]⟩ : ByteArray), 0), n2, (1, n2))) (
 iterP (l76_0 d s1 (j76_0 d s1 n2)) fuelN (IntKind.i64.wrap (n2 + 1)))) none) := by kernel_rfl

noncomputable def j57_0 (d : Nat)  (b4 : Bool) (l5 : List (Int × Int × ByteArray × Int)) (l6 : List (Int × Int × ByteArray × Int)) : Option ((List (Int × Int × ByteArray × Int)) × (Int × Int) × Bool) :=
 some (l6, (0, 0), true)
noncomputable def l57_0_b (d : Nat) (s1 : ByteArray) (kx57_0_0 : Bool → (List (Int × Int × ByteArray × Int)) → (List (Int × Int × ByteArray × Int)) → Option ((List (Int × Int × ByteArray × Int)) × (Int × Int) × Bool)) (ag3 : ((List (Int × Int × ByteArray × Int)) × Bool × (List (Int × Int × ByteArray × Int)) × Int) → Option ((List (Int × Int × ByteArray × Int)) × (Int × Int) × Bool)) (l4 : List (Int × Int × ByteArray × Int)) (b5 : Bool) (l6 : List (Int × Int × ByteArray × Int)) (n7 : Int) : Option ((List (Int × Int × ByteArray × Int)) × (Int × Int) × Bool) :=
 oif (decide ((n7 : Int) < ((s1 : ByteArray).size : Int))) (
 obind (g76 d s1 n7) fun r8 =>
 oif ((r8.2.2.1 : Int) != 0) (
 some ([], r8.2.2, true)) (
 oif ((((l6.length : Nat) : Int) : Int) == 600) (
 some ([], (5, n7), true)) (
 oif (Nat.ble ((l6.length + [r8.1].length) * 40) roomMax) (
 obind (g75 d s1 r8.2.1) fun r9 =>
 ag3 (l4, b5, (l6 ++ [r8.1]), r9)) none))) (
 kx57_0_0 b5 l4 l6)
noncomputable def l57_0 (d : Nat) (s1 : ByteArray) (kx57_0_0 : Bool → (List (Int × Int × ByteArray × Int)) → (List (Int × Int × ByteArray × Int)) → Option ((List (Int × Int × ByteArray × Int)) × (Int × Int) × Bool)) (ag3 : ((List (Int × Int × ByteArray × Int)) × Bool × (List (Int × Int × ByteArray × Int)) × Int) → Option ((List (Int × Int × ByteArray × Int)) × (Int × Int) × Bool)) (s : ((List (Int × Int × ByteArray × Int)) × Bool × (List (Int × Int × ByteArray × Int)) × Int)) : Option ((List (Int × Int × ByteArray × Int)) × (Int × Int) × Bool) := l57_0_b d s1 kx57_0_0 ag3 s.1 s.2.1 s.2.2.1 s.2.2.2
theorem e57 (d : Nat) (s1 : ByteArray) : g57 (d + 1) s1 =
 oif (decide ((((s1 : ByteArray).size : Int) : Int) > 4000)) (
 some ([], (0, 0), false)) (
 obind (g75 d s1 0) fun r2 =>
 iterP (l57_0 d s1 (j57_0 d)) fuelN ([], false, ([] : List (Int × Int × ByteArray × Int)), r2)) := by kernel_rfl

noncomputable def j11_0 (d : Nat) (s1 : ByteArray) (n2 : Int) (b3 : Bool) : Option ((Int × Int × Int × Int × Int × Int × Int × Int) × (Int × Int) × Bool) :=
 oif b3 (
 some ((0, 0, 0, 0, 0, 0, 0, 0), (0, 0), false)) (
 obind (g57 d s1) fun r4 =>
 oif ((r4.2.1.1 : Int) != 0) (
 some ((0, 0, 0, 0, 0, 0, 0, 0), r4.2.1, true)) (
 obind (g27 (d + 1) (r4.1, ((s1 : ByteArray).size : Int), 0, (0, 0), ([] : List ByteArray), ([] : List (Int × Int × Int × Int × Int × Int × Int × Int)), ([] : List (Int × Int × Int × Int × Int)), 0) [(⟨#[99, 108, 97, 115, 115]⟩ : ByteArray)]) fun r5 =>
 obind (g34 (d + 1) r5.2 n2) fun r6 =>
 obind (g35 (d + 1) r6.2 (⟨#[108, 105, 109, 105, 116]⟩ : ByteArray)) fun r7 =>
 obind (g27 (d + 1) r7.2 [(⟨#[59]⟩ : ByteArray)]) fun r8 =>
 obind (g29 (d + 1) r8.2) fun r9 =>
 obind (g30 (d + 1) r9) fun r10 =>
 oif r10.1 (
 some ((0, 0, 0, 0, 0, 0, 0, 0), r10.2.2.2.2.1, true)) (
 some ((r6.1.1, r6.1.2.1, r6.1.2.2.1, r6.1.2.2.2.1, r6.1.2.2.2.2.1, r6.1.2.2.2.2.2.1, r6.1.2.2.2.2.2.2.1, r7.1), (0, 0), true))))
theorem e11 (d : Nat) (s1 : ByteArray) (n2 : Int) : g11 (d + 2) s1 n2 =
 oif (decide ((((s1 : ByteArray).size : Int) : Int) > 4000)) (
 j11_0 d s1 n2 true) (
 oif (decide ((n2 : Int) < 0)) (
 j11_0 d s1 n2 true) (
 j11_0 d s1 n2 (decide ((n2 : Int) > 999)))) := by kernel_rfl

theorem e12 (d : Nat) (x1 : (Int × Int × Int × Int × Int × Int × Int × Int)) (x2 : (Int × Int × Int × Int × Int × Int × Int × Int)) : g12 (d + 1) x1 x2 =
 oif ((x1.1 : Int) != x2.1) (
 some false) (
 oif ((x1.2.1 : Int) != x2.2.1) (
 some false) (
 oif ((x1.2.2.1 : Int) != x2.2.2.1) (
 some false) (
 oif ((x1.2.2.2.1 : Int) != x2.2.2.2.1) (
 some false) (
 oif ((x1.2.2.2.2.1 : Int) != x2.2.2.2.2.1) (
 some false) (
 oif ((x1.2.2.2.2.2.1 : Int) != x2.2.2.2.2.2.1) (
 some false) (
 oif ((x1.2.2.2.2.2.2.1 : Int) != x2.2.2.2.2.2.2.1) (
 some false) (
 oif ((x1.2.2.2.2.2.2.2 : Int) != x2.2.2.2.2.2.2.2) (
 some false) (
 some true)))))))) := by kernel_rfl

theorem e4 (d : Nat) (s1 : ByteArray) (n2 : Int) : g4 (d + 1) s1 n2 =
 oif (decide ((((s1 : ByteArray).size : Int) : Int) > 1048576)) (
 some true) (
 obind (g10 d s1 n2) fun r3 =>
 obind (g11 d s1 n2) fun r4 =>
 obind (g12 d r4.1 r3.1) fun r5 =>
 oif (!r5) (
 some false) (
 obind (g9 d r4.2.1 r3.2.1) fun r6 =>
 oif (!r6) (
 some false) (
 oif (!(r4.2.2 == r3.2.2)) (
 some false) (
 some true)))) := by kernel_rfl

end Go.Proofs.YtpjlbjkeekobnaaDoor
