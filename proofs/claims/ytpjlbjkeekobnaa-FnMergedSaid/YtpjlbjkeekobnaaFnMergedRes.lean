/-
  The residual forms of the program's functions under the interpreter by value, printed by program (wip/pv/gen2.py); each equation is checked by the kernel.
  Conditions: none.
-/
import Derived.Test.YtpjlbjkeekobnaaVDef
import Derived.Test.YtpjlbjkeekobnaaProg
import Derived.KernelRfl
set_option linter.all false
set_option maxRecDepth 1000000
namespace Go.Proofs.Ytpjlbjkeekobnaa
open Go.Ev Go.Pv

theorem fuel_is : ∃ n : Nat, n = 4194304 := ⟨_, rfl⟩
noncomputable def fuelN : Nat := Classical.choose fuel_is
theorem fuelN_eq : fuelN = 4194304 := Classical.choose_spec fuel_is
def pvSig : FuncId → Sig
  | 4 => ⟨[(.ro, (.sl (.int .u8))), (.ro, (.sl (.int .u8)))], [(false, .bool)]⟩
  | 19 => ⟨[(.ro, (.sl (.int .u8)))], [(true, (.sl (.pair (.int .i64) (.pair (.int .i64) (.pair (.int .i64) (.pair (.int .i64) (.pair (.int .i64) (.pair (.int .i64) (.pair (.int .i64) (.pair (.int .i64) (.int .i64))))))))))), (false, (.int .i64))]⟩
  | 20 => ⟨[(.ro, (.sl (.pair (.int .i64) (.pair (.int .i64) (.pair (.int .i64) (.pair (.int .i64) (.pair (.int .i64) (.pair (.int .i64) (.pair (.int .i64) (.pair (.int .i64) (.int .i64))))))))))), (.ro, (.int .i64))], [(true, (.sl (.pair (.int .i64) (.pair (.int .i64) (.pair (.int .i64) (.pair (.int .i64) (.pair (.int .i64) (.pair (.int .i64) (.int .i64))))))))), (false, .bool)]⟩
  | 21 => ⟨[(.ro, (.sl (.pair (.int .i64) (.pair (.int .i64) (.pair (.int .i64) (.pair (.int .i64) (.pair (.int .i64) (.pair (.int .i64) (.pair (.int .i64) (.pair (.int .i64) (.int .i64))))))))))), (.ro, (.int .i64))], [(true, (.sl (.pair (.int .i64) (.pair (.int .i64) (.pair (.int .i64) (.pair (.int .i64) (.pair (.int .i64) (.pair (.int .i64) (.int .i64))))))))), (false, .bool)]⟩
  | 22 => ⟨[(.ro, (.sl (.int .u8)))], [(true, (.sl (.pair (.int .i64) (.pair (.int .i64) (.pair (.int .i64) (.pair (.int .i64) (.pair (.int .i64) (.pair (.int .i64) (.int .i64))))))))), (false, (.int .i64))]⟩
  | 23 => ⟨[(.ro, (.sl (.pair (.int .i64) (.pair (.int .i64) (.pair (.int .i64) (.pair (.int .i64) (.pair (.int .i64) (.pair (.int .i64) (.int .i64))))))))), (.ro, (.int .i64))], [(false, (.int .i64)), (false, .bool)]⟩
  | 24 => ⟨[(.ro, (.sl (.pair (.int .i64) (.pair (.int .i64) (.pair (.int .i64) (.pair (.int .i64) (.pair (.int .i64) (.pair (.int .i64) (.int .i64))))))))), (.ro, (.int .i64))], [(false, (.int .i64)), (false, .bool)]⟩
  | 25 => ⟨[(.ro, (.sl (.int .u8)))], [(true, (.sl (.pair (.int .i64) (.pair (.int .i64) (.pair (.int .i64) (.pair (.int .i64) (.pair (.int .i64) (.pair (.int .i64) (.int .i64))))))))), (false, (.int .i64))]⟩
  | 26 => ⟨[(.ro, (.sl (.pair (.int .i64) (.pair (.int .i64) (.pair (.int .i64) (.pair (.int .i64) (.pair (.int .i64) (.pair (.int .i64) (.int .i64))))))))), (.ro, (.int .i64))], [(false, (.int .i64)), (false, .bool)]⟩
  | 27 => ⟨[(.ro, (.sl (.pair (.int .i64) (.pair (.int .i64) (.pair (.int .i64) (.pair (.int .i64) (.pair (.int .i64) (.pair (.int .i64) (.int .i64))))))))), (.ro, (.int .i64))], [(false, (.int .i64)), (false, .bool)]⟩
  | 28 => ⟨[(.ro, (.sl (.pair (.int .i64) (.pair (.int .i64) (.pair (.int .i64) (.pair (.int .i64) (.pair (.int .i64) (.pair (.int .i64) (.int .i64))))))))), (.ro, (.sl (.pair (.int .i64) (.pair (.int .i64) (.pair (.int .i64) (.pair (.int .i64) (.pair (.int .i64) (.pair (.int .i64) (.int .i64)))))))))], [(false, .bool)]⟩
  | 29 => ⟨[(.ro, (.pair (.int .i64) (.pair (.int .i64) (.pair (.int .i64) (.pair (.int .i64) (.pair (.int .i64) (.pair (.int .i64) (.pair (.int .i64) (.pair (.int .i64) (.int .i64)))))))))), (.ro, (.int .i64))], [(true, (.sl (.pair (.int .i64) (.pair (.int .i64) (.pair (.int .i64) (.pair (.int .i64) (.pair (.int .i64) (.pair (.int .i64) (.int .i64))))))))), (false, .bool)]⟩
  | 30 => ⟨[(.ro, (.pair (.int .i64) (.pair (.int .i64) (.pair (.int .i64) (.pair (.int .i64) (.pair (.int .i64) (.pair (.int .i64) (.pair (.int .i64) (.pair (.int .i64) (.int .i64)))))))))), (.ro, (.int .i64))], [(true, (.sl (.pair (.int .i64) (.pair (.int .i64) (.pair (.int .i64) (.pair (.int .i64) (.pair (.int .i64) (.pair (.int .i64) (.int .i64))))))))), (false, .bool)]⟩
  | 44 => ⟨[(.ps, (.pair (.sl (.int .u8)) (.pair (.int .i64) (.int .u64)))), (.ro, (.int .i64))], [(false, .bool)]⟩
  | 48 => ⟨[(.ps, (.pair (.sl (.int .u8)) (.pair (.int .i64) (.int .u64)))), (.ro, (.int .i64))], [(false, (.int .i64))]⟩
  | 53 => ⟨[(.ps, (.pair (.sl (.int .u8)) (.pair (.int .i64) (.int .u64))))], [(false, (.pair (.int .i64) (.pair (.int .i64) (.pair (.int .i64) (.pair (.int .i64) (.pair (.int .i64) (.pair (.int .i64) (.pair (.int .i64) (.pair (.int .i64) (.int .i64))))))))))]⟩
  | 54 => ⟨[(.ps, (.pair (.sl (.int .u8)) (.pair (.int .i64) (.int .u64))))], [(false, (.int .i64))]⟩
  | 55 => ⟨[(.ro, (.int .i64))], [(false, .bool)]⟩
  | 56 => ⟨[(.ro, (.pair (.int .i64) (.pair (.int .i64) (.pair (.int .i64) (.pair (.int .i64) (.pair (.int .i64) (.pair (.int .i64) (.pair (.int .i64) (.pair (.int .i64) (.int .i64))))))))))], [(false, .bool)]⟩
  | 57 => ⟨[(.ro, (.pair (.int .i64) (.pair (.int .i64) (.pair (.int .i64) (.pair (.int .i64) (.pair (.int .i64) (.pair (.int .i64) (.pair (.int .i64) (.pair (.int .i64) (.int .i64)))))))))), (.ro, (.int .i64))], [(true, (.sl (.pair (.int .i64) (.pair (.int .i64) (.pair (.int .i64) (.pair (.int .i64) (.pair (.int .i64) (.pair (.int .i64) (.int .i64)))))))))]⟩
  | 60 => ⟨[(.ro, (.int .i64)), (.ro, (.int .i64))], [(false, (.int .i64))]⟩
  | 61 => ⟨[(.ro, (.sl (.pair (.int .i64) (.pair (.int .i64) (.pair (.int .i64) (.pair (.int .i64) (.pair (.int .i64) (.pair (.int .i64) (.int .i64)))))))))], [(true, (.sl (.pair (.int .i64) (.pair (.int .i64) (.pair (.int .i64) (.pair (.int .i64) (.pair (.int .i64) (.pair (.int .i64) (.int .i64)))))))))]⟩
  | 62 => ⟨[(.ro, (.pair (.int .i64) (.pair (.int .i64) (.pair (.int .i64) (.pair (.int .i64) (.pair (.int .i64) (.pair (.int .i64) (.pair (.int .i64) (.pair (.int .i64) (.int .i64))))))))))], [(false, .bool)]⟩
  | 63 => ⟨[(.ro, (.int .i64))], [(false, .bool)]⟩
  | 64 => ⟨[(.ro, (.sl (.pair (.int .i64) (.pair (.int .i64) (.pair (.int .i64) (.pair (.int .i64) (.pair (.int .i64) (.pair (.int .i64) (.pair (.int .i64) (.pair (.int .i64) (.int .i64))))))))))), (.ro, (.int .i64))], [(true, (.sl (.pair (.int .i64) (.pair (.int .i64) (.pair (.int .i64) (.pair (.int .i64) (.pair (.int .i64) (.pair (.int .i64) (.int .i64)))))))))]⟩
  | 65 => ⟨[(.ps, (.pair (.sl (.int .u8)) (.pair (.int .i64) (.int .u64))))], [(true, (.sl (.pair (.int .i64) (.pair (.int .i64) (.pair (.int .i64) (.pair (.int .i64) (.pair (.int .i64) (.pair (.int .i64) (.int .i64)))))))))]⟩
  | 66 => ⟨[(.ro, (.sl (.pair (.int .i64) (.pair (.int .i64) (.pair (.int .i64) (.pair (.int .i64) (.pair (.int .i64) (.pair (.int .i64) (.int .i64)))))))))], [(false, .bool)]⟩
  | 67 => ⟨[(.ro, (.sl (.pair (.int .i64) (.pair (.int .i64) (.pair (.int .i64) (.pair (.int .i64) (.pair (.int .i64) (.pair (.int .i64) (.int .i64)))))))))], [(false, .bool)]⟩
  | 68 => ⟨[(.ps, (.pair (.sl (.int .u8)) (.pair (.int .i64) (.int .u64)))), (.ro, (.sl (.int .i64)))], [(false, (.int .i64))]⟩
  | 69 => ⟨[(.ro, (.int .i64)), (.ro, (.int .i64)), (.ro, (.int .i64))], [(false, .bool)]⟩
  | 70 => ⟨[(.ro, (.int .i64)), (.ro, (.int .i64))], [(false, (.int .i64))]⟩
  | 71 => ⟨[(.ro, (.pair (.int .i64) (.pair (.int .i64) (.pair (.int .i64) (.pair (.int .i64) (.pair (.int .i64) (.pair (.int .i64) (.pair (.int .i64) (.pair (.int .i64) (.int .i64)))))))))), (.ro, (.int .i64))], [(true, (.sl (.pair (.int .i64) (.pair (.int .i64) (.pair (.int .i64) (.pair (.int .i64) (.pair (.int .i64) (.pair (.int .i64) (.int .i64)))))))))]⟩
  | 75 => ⟨[(.ro, (.int .i64)), (.ro, (.int .i64))], [(false, (.int .i64))]⟩
  | 83 => ⟨[(.ps, (.pair (.sl (.int .u8)) (.pair (.int .i64) (.int .u64))))], [(false, (.int .i64))]⟩
  | 86 => ⟨[(.ro, (.int .i64))], [(false, .bool)]⟩
  | 87 => ⟨[(.ro, (.pair (.int .i64) (.pair (.int .i64) (.pair (.int .i64) (.pair (.int .i64) (.pair (.int .i64) (.pair (.int .i64) (.pair (.int .i64) (.pair (.int .i64) (.int .i64)))))))))), (.ro, (.int .i64))], [(false, (.pair (.int .i64) (.pair (.int .i64) (.pair (.int .i64) (.pair (.int .i64) (.pair (.int .i64) (.pair (.int .i64) (.int .i64))))))))]⟩
  | 88 => ⟨[(.io, (.sl (.pair (.int .i64) (.pair (.int .i64) (.pair (.int .i64) (.pair (.int .i64) (.pair (.int .i64) (.pair (.int .i64) (.int .i64))))))))), (.ro, (.int .i64)), (.cl 59, .bool)], []⟩
  | 89 => ⟨[(.ro, (.sl (.int .i64))), (.ro, (.int .i64)), (.ro, (.int .i64))], [(false, .bool)]⟩
  | 90 => ⟨[(.ps, (.pair (.sl (.int .u8)) (.pair (.int .i64) (.int .u64))))], [(false, (.pair (.int .i64) (.pair (.int .i64) (.pair (.int .i64) (.pair (.int .i64) (.pair (.int .i64) (.int .i64)))))))]⟩
  | 91 => ⟨[(.ps, (.pair (.sl (.int .u8)) (.pair (.int .i64) (.int .u64))))], [(false, (.pair (.int .i64) (.pair (.int .i64) (.pair (.int .i64) (.pair (.int .i64) (.pair (.int .i64) (.int .i64)))))))]⟩
  | 92 => ⟨[(.ro, (.pair (.int .i64) (.pair (.int .i64) (.pair (.int .i64) (.pair (.int .i64) (.pair (.int .i64) (.int .i64)))))))], [(false, .bool)]⟩
  | 93 => ⟨[(.ro, (.pair (.int .i64) (.pair (.int .i64) (.pair (.int .i64) (.pair (.int .i64) (.pair (.int .i64) (.int .i64)))))))], [(false, .bool)]⟩
  | 94 => ⟨[(.ro, (.pair (.int .i64) (.pair (.int .i64) (.pair (.int .i64) (.pair (.int .i64) (.pair (.int .i64) (.pair (.int .i64) (.pair (.int .i64) (.pair (.int .i64) (.int .i64)))))))))), (.ro, (.int .i64))], [(false, (.pair (.int .i64) (.pair (.int .i64) (.pair (.int .i64) (.pair (.int .i64) (.pair (.int .i64) (.pair (.int .i64) (.int .i64))))))))]⟩
  | 97 => ⟨[(.ro, (.pair (.int .i64) (.pair (.int .i64) (.pair (.int .i64) (.pair (.int .i64) (.pair (.int .i64) (.pair (.int .i64) (.pair (.int .i64) (.pair (.int .i64) (.int .i64)))))))))), (.ro, (.int .i64))], [(false, (.int .i64))]⟩
  | 98 => ⟨[(.ro, (.sl (.int .i64)))], [(false, (.int .i64))]⟩
  | 99 => ⟨[(.io, (.sl (.pair (.int .i64) (.pair (.int .i64) (.pair (.int .i64) (.pair (.int .i64) (.pair (.int .i64) (.pair (.int .i64) (.int .i64))))))))), (.ro, (.int .i64)), (.ro, (.int .i64)), (.cl 59, .bool)], []⟩
  | 100 => ⟨[(.io, (.sl (.pair (.int .i64) (.pair (.int .i64) (.pair (.int .i64) (.pair (.int .i64) (.pair (.int .i64) (.pair (.int .i64) (.int .i64))))))))), (.ro, (.int .i64)), (.ro, (.int .i64)), (.ro, (.int .i64)), (.cl 59, .bool)], []⟩
  | 101 => ⟨[(.ro, (.pair (.int .i64) (.pair (.int .i64) (.pair (.int .i64) (.pair (.int .i64) (.pair (.int .i64) (.int .i64)))))))], [(false, (.pair (.int .i64) (.pair (.int .i64) (.pair (.int .i64) (.int .i64)))))]⟩
  | 102 => ⟨[(.ro, (.int .i64))], [(false, .bool)]⟩
  | 103 => ⟨[(.ro, (.pair (.int .i64) (.pair (.int .i64) (.pair (.int .i64) (.pair (.int .i64) (.pair (.int .i64) (.pair (.int .i64) (.pair (.int .i64) (.pair (.int .i64) (.int .i64)))))))))), (.ro, (.int .i64))], [(false, (.int .i64))]⟩
  | 104 => ⟨[(.ro, (.sl (.int .i64))), (.ro, (.int .i64))], [(false, (.int .i64))]⟩
  | 105 => ⟨[(.ro, (.sl (.int .i64)))], [(true, (.sl (.int .i64)))]⟩
  | 106 => ⟨[(.io, (.sl (.pair (.int .i64) (.pair (.int .i64) (.pair (.int .i64) (.pair (.int .i64) (.pair (.int .i64) (.pair (.int .i64) (.int .i64))))))))), (.ro, (.int .i64)), (.ro, (.int .i64)), (.ro, (.int .i64)), (.cl 59, .bool)], []⟩
  | 107 => ⟨[(.ro, (.sl (.int .i64)))], [(false, (.int .i64))]⟩
  | 108 => ⟨[(.ro, (.sl (.int .i64)))], [(true, (.sl (.int .i64)))]⟩
  | 109 => ⟨[(.io, (.sl (.pair (.int .i64) (.pair (.int .i64) (.pair (.int .i64) (.pair (.int .i64) (.pair (.int .i64) (.pair (.int .i64) (.int .i64))))))))), (.ro, (.int .i64)), (.ro, (.int .i64)), (.ro, (.int .i64)), (.cl 59, .bool)], []⟩
  | _ => ⟨[], []⟩
def pvLoops : FuncId → Nat → LoopA
  | 4, 0 => ⟨[(4, false, .bool), (27, false, (.int .i64)), (160, false, (.int .i64))], [], [], []⟩
  | 4, 1 => ⟨[(4, false, .bool), (34, false, (.int .i64)), (197, false, (.int .i64))], [], [], []⟩
  | 19, 0 => ⟨[(5, true, (.sl (.pair (.int .i64) (.pair (.int .i64) (.pair (.int .i64) (.pair (.int .i64) (.pair (.int .i64) (.pair (.int .i64) (.pair (.int .i64) (.pair (.int .i64) (.int .i64)))))))))))], [(4, (.pair (.sl (.int .u8)) (.pair (.int .i64) (.int .u64))))], [], []⟩
  | 20, 0 => ⟨[(4, true, (.sl (.pair (.int .i64) (.pair (.int .i64) (.pair (.int .i64) (.pair (.int .i64) (.pair (.int .i64) (.pair (.int .i64) (.int .i64))))))))), (5, false, .bool), (6, true, (.sl (.pair (.int .i64) (.pair (.int .i64) (.pair (.int .i64) (.pair (.int .i64) (.pair (.int .i64) (.pair (.int .i64) (.int .i64))))))))), (21, false, (.int .i64))], [], [], []⟩
  | 20, 1 => ⟨[(44, false, (.int .i64))], [], [(6, (.pair (.int .i64) (.pair (.int .i64) (.pair (.int .i64) (.pair (.int .i64) (.pair (.int .i64) (.pair (.int .i64) (.int .i64))))))))], []⟩
  | 21, 0 => ⟨[(4, true, (.sl (.pair (.int .i64) (.pair (.int .i64) (.pair (.int .i64) (.pair (.int .i64) (.pair (.int .i64) (.pair (.int .i64) (.int .i64))))))))), (5, false, .bool), (10, false, (.int .i64))], [], [], []⟩
  | 23, 0 => ⟨[(6, false, (.int .i64)), (19, false, (.int .i64))], [], [], []⟩
  | 24, 0 => ⟨[(6, false, (.int .i64)), (19, false, (.int .i64))], [], [], []⟩
  | 26, 0 => ⟨[(6, false, (.int .i64)), (24, false, (.int .i64))], [], [], []⟩
  | 26, 1 => ⟨[(8, false, (.int .i64)), (31, false, (.int .i64))], [], [], []⟩
  | 27, 0 => ⟨[(6, false, (.int .i64)), (22, false, (.int .i64))], [], [], []⟩
  | 27, 1 => ⟨[(9, false, (.int .i64)), (31, false, (.int .i64))], [], [], []⟩
  | 28, 0 => ⟨[(4, false, .bool), (13, false, (.int .i64))], [], [], []⟩
  | 56, 0 => ⟨[(2, false, .bool), (14, false, (.int .i64))], [], [], []⟩
  | 57, 0 => ⟨[(5, true, (.sl (.pair (.int .i64) (.pair (.int .i64) (.pair (.int .i64) (.pair (.int .i64) (.pair (.int .i64) (.pair (.int .i64) (.int .i64))))))))), (9, false, (.int .i64))], [], [], []⟩
  | 64, 0 => ⟨[(5, true, (.sl (.pair (.int .i64) (.pair (.int .i64) (.pair (.int .i64) (.pair (.int .i64) (.pair (.int .i64) (.pair (.int .i64) (.int .i64))))))))), (14, false, (.int .i64))], [], [], []⟩
  | 64, 1 => ⟨[(5, true, (.sl (.pair (.int .i64) (.pair (.int .i64) (.pair (.int .i64) (.pair (.int .i64) (.pair (.int .i64) (.pair (.int .i64) (.int .i64))))))))), (22, false, (.int .i64))], [], [], []⟩
  | 64, 2 => ⟨[(10, false, (.int .i64))], [], [], []⟩
  | 64, 3 => ⟨[(64, false, (.int .i64))], [], [(5, (.pair (.int .i64) (.pair (.int .i64) (.pair (.int .i64) (.pair (.int .i64) (.pair (.int .i64) (.pair (.int .i64) (.int .i64))))))))], []⟩
  | 65, 0 => ⟨[(3, true, (.sl (.pair (.int .i64) (.pair (.int .i64) (.pair (.int .i64) (.pair (.int .i64) (.pair (.int .i64) (.pair (.int .i64) (.int .i64))))))))), (4, false, (.int .i64))], [(0, (.pair (.sl (.int .u8)) (.pair (.int .i64) (.int .u64))))], [], []⟩
  | 66, 0 => ⟨[(2, false, .bool), (7, false, (.int .i64))], [], [], []⟩
  | 67, 0 => ⟨[(2, false, .bool), (7, false, (.int .i64))], [], [], []⟩
  | 71, 0 => ⟨[(5, true, (.sl (.pair (.int .i64) (.pair (.int .i64) (.pair (.int .i64) (.pair (.int .i64) (.pair (.int .i64) (.pair (.int .i64) (.int .i64))))))))), (6, false, (.int .i64))], [], [], []⟩
  | 87, 0 => ⟨[(5, false, (.int .i64)), (6, false, (.int .i64))], [], [], []⟩
  | 88, 0 => ⟨[(7, false, (.int .i64)), (8, false, (.int .i64))], [], [(0, (.pair (.int .i64) (.pair (.int .i64) (.pair (.int .i64) (.pair (.int .i64) (.pair (.int .i64) (.pair (.int .i64) (.int .i64))))))))], []⟩
  | 88, 1 => ⟨[(6, false, (.int .i64)), (7, false, (.int .i64)), (8, false, (.int .i64))], [], [(0, (.pair (.int .i64) (.pair (.int .i64) (.pair (.int .i64) (.pair (.int .i64) (.pair (.int .i64) (.pair (.int .i64) (.int .i64))))))))], []⟩
  | 88, 2 => ⟨[(7, false, (.int .i64)), (8, false, (.int .i64))], [], [(0, (.pair (.int .i64) (.pair (.int .i64) (.pair (.int .i64) (.pair (.int .i64) (.pair (.int .i64) (.pair (.int .i64) (.int .i64))))))))], []⟩
  | 89, 0 => ⟨[(6, false, .bool), (11, false, (.int .i64))], [], [], []⟩
  | 92, 0 => ⟨[(2, false, .bool), (7, false, (.int .i64))], [], [], []⟩
  | 94, 0 => ⟨[(6, false, (.int .i64))], [(5, (.pair (.int .i64) (.pair (.int .i64) (.pair (.int .i64) (.pair (.int .i64) (.pair (.int .i64) (.pair (.int .i64) (.int .i64))))))))], [], []⟩
  | 98, 0 => ⟨[(3, false, (.int .i64)), (14, false, (.int .i64))], [], [], []⟩
  | 99, 0 => ⟨[(8, false, (.int .i64))], [], [(0, (.pair (.int .i64) (.pair (.int .i64) (.pair (.int .i64) (.pair (.int .i64) (.pair (.int .i64) (.pair (.int .i64) (.int .i64))))))))], []⟩
  | 99, 1 => ⟨[(9, false, (.int .i64))], [], [(0, (.pair (.int .i64) (.pair (.int .i64) (.pair (.int .i64) (.pair (.int .i64) (.pair (.int .i64) (.pair (.int .i64) (.int .i64))))))))], []⟩
  | 100, 0 => ⟨[(10, false, (.int .i64)), (11, false, (.int .i64))], [], [], []⟩
  | 100, 1 => ⟨[(13, false, (.int .i64))], [], [(0, (.pair (.int .i64) (.pair (.int .i64) (.pair (.int .i64) (.pair (.int .i64) (.pair (.int .i64) (.pair (.int .i64) (.int .i64))))))))], []⟩
  | 100, 2 => ⟨[(14, false, (.int .i64)), (15, false, (.int .i64))], [], [], []⟩
  | 100, 3 => ⟨[(17, false, (.int .i64))], [], [(0, (.pair (.int .i64) (.pair (.int .i64) (.pair (.int .i64) (.pair (.int .i64) (.pair (.int .i64) (.pair (.int .i64) (.int .i64))))))))], []⟩
  | 100, 4 => ⟨[(20, false, (.int .i64)), (21, false, (.int .i64))], [], [], []⟩
  | 106, 0 => ⟨[(10, false, (.int .i64)), (11, false, (.int .i64))], [], [(0, (.pair (.int .i64) (.pair (.int .i64) (.pair (.int .i64) (.pair (.int .i64) (.pair (.int .i64) (.pair (.int .i64) (.int .i64))))))))], []⟩
  | 107, 0 => ⟨[(3, false, (.int .i64)), (14, false, (.int .i64))], [], [], []⟩
  | 109, 0 => ⟨[(10, false, (.int .i64))], [], [(0, (.pair (.int .i64) (.pair (.int .i64) (.pair (.int .i64) (.pair (.int .i64) (.pair (.int .i64) (.pair (.int .i64) (.int .i64))))))))], []⟩
  | _, _ => ⟨[], [], [], []⟩
def pvEloops : FuncId → Nat → List (Nat × Value)
  | 4, 0 => [(4, (.bool false)), (6, (.int .i64 0)), (9, (.slice none 0 0)), (27, (.int .i64 0)), (158, (.slice none 0 0)), (159, (.int .i64 0)), (160, (.int .i64 0))]
  | 4, 1 => [(4, (.bool false)), (6, (.int .i64 0)), (9, (.slice none 0 0)), (27, (.int .i64 0)), (34, (.int .i64 0)), (195, (.slice none 0 0)), (196, (.int .i64 0)), (197, (.int .i64 0))]
  | 19, 0 => [(2, (.slice none 0 0)), (3, (.int .i64 0)), (4, (.pointer (some ⟨0, 0, none⟩))), (5, (.slice none 0 0)), (6, (.int .i64 0))]
  | 20, 0 => [(1, (.int .i64 0)), (4, (.slice none 0 0)), (5, (.bool false)), (6, (.slice none 0 0)), (19, (.slice none 0 0)), (20, (.int .i64 0)), (21, (.int .i64 0))]
  | 20, 1 => [(4, (.slice none 0 0)), (5, (.bool false)), (6, (.slice none 0 0)), (43, (.int .i64 0)), (44, (.int .i64 0))]
  | 21, 0 => [(0, (.slice none 0 0)), (1, (.int .i64 0)), (4, (.slice none 0 0)), (5, (.bool false)), (8, (.slice none 0 0)), (9, (.int .i64 0)), (10, (.int .i64 0))]
  | 23, 0 => [(1, (.int .i64 0)), (4, (.int .i64 0)), (5, (.bool false)), (6, (.int .i64 0)), (17, (.slice none 0 0)), (18, (.int .i64 0)), (19, (.int .i64 0))]
  | 24, 0 => [(1, (.int .i64 0)), (4, (.int .i64 0)), (5, (.bool false)), (6, (.int .i64 0)), (17, (.slice none 0 0)), (18, (.int .i64 0)), (19, (.int .i64 0))]
  | 26, 0 => [(0, (.slice none 0 0)), (1, (.int .i64 0)), (4, (.int .i64 0)), (5, (.bool false)), (6, (.int .i64 0)), (23, (.int .i64 0)), (24, (.int .i64 0))]
  | 26, 1 => [(0, (.slice none 0 0)), (1, (.int .i64 0)), (4, (.int .i64 0)), (5, (.bool false)), (6, (.int .i64 0)), (7, (.int .i64 0)), (8, (.int .i64 0)), (23, (.int .i64 0)), (24, (.int .i64 0)), (25, (.bool false)), (26, (.int .i64 0)), (27, (.slice none 0 0)), (28, (.int .i64 0)), (29, (.slice none 0 0)), (30, (.int .i64 0)), (31, (.int .i64 0))]
  | 27, 0 => [(0, (.slice none 0 0)), (1, (.int .i64 0)), (4, (.int .i64 0)), (5, (.bool false)), (6, (.int .i64 0)), (20, (.slice none 0 0)), (21, (.int .i64 0)), (22, (.int .i64 0))]
  | 27, 1 => [(0, (.slice none 0 0)), (1, (.int .i64 0)), (4, (.int .i64 0)), (5, (.bool false)), (6, (.int .i64 0)), (7, (.int .i64 0)), (8, (.pointer (some ⟨0, 0, none⟩))), (9, (.int .i64 0)), (20, (.slice none 0 0)), (21, (.int .i64 0)), (22, (.int .i64 0)), (23, (.bool false)), (24, (.int .i64 0)), (25, (.pointer (some ⟨0, 0, none⟩))), (26, (.agg #[(.int .i64 0), (.int .i64 0), (.int .i64 0), (.int .i64 0), (.int .i64 0), (.int .i64 0), (.int .i64 0)])), (27, (.slice none 0 0)), (28, (.int .i64 0)), (29, (.slice none 0 0)), (30, (.int .i64 0)), (31, (.int .i64 0))]
  | 28, 0 => [(0, (.slice none 0 0)), (1, (.slice none 0 0)), (4, (.bool false)), (12, (.int .i64 0)), (13, (.int .i64 0))]
  | 56, 0 => [(1, (.pointer (some ⟨0, 0, none⟩))), (2, (.bool false)), (13, (.agg #[(.int .i64 0), (.int .i64 0), (.int .i64 0), (.int .i64 0)])), (14, (.int .i64 0))]
  | 57, 0 => [(1, (.int .i64 0)), (2, (.pointer (some ⟨0, 0, none⟩))), (4, (.slice none 0 0)), (5, (.slice none 0 0)), (9, (.int .i64 0))]
  | 64, 0 => [(1, (.int .i64 0)), (4, (.slice none 0 0)), (5, (.slice none 0 0)), (12, (.slice none 0 0)), (13, (.int .i64 0)), (14, (.int .i64 0))]
  | 64, 1 => [(1, (.int .i64 0)), (4, (.slice none 0 0)), (5, (.slice none 0 0)), (7, (.pointer (some ⟨0, 0, none⟩))), (12, (.slice none 0 0)), (13, (.int .i64 0)), (14, (.int .i64 0)), (15, (.bool false)), (16, (.pointer (some ⟨0, 0, none⟩))), (17, (.agg #[(.int .i64 0), (.int .i64 0), (.int .i64 0), (.int .i64 0), (.int .i64 0), (.int .i64 0), (.int .i64 0), (.int .i64 0), (.int .i64 0)])), (18, (.agg #[(.int .i64 0), (.int .i64 0), (.int .i64 0), (.int .i64 0), (.int .i64 0), (.int .i64 0), (.int .i64 0), (.int .i64 0), (.int .i64 0)])), (19, (.int .i64 0)), (20, (.slice none 0 0)), (21, (.int .i64 0)), (22, (.int .i64 0))]
  | 64, 2 => [(1, (.int .i64 0)), (4, (.slice none 0 0)), (5, (.slice none 0 0)), (7, (.pointer (some ⟨0, 0, none⟩))), (9, (.pointer (some ⟨0, 0, none⟩))), (10, (.int .i64 0)), (12, (.slice none 0 0)), (13, (.int .i64 0)), (14, (.int .i64 0)), (15, (.bool false)), (16, (.pointer (some ⟨0, 0, none⟩))), (17, (.agg #[(.int .i64 0), (.int .i64 0), (.int .i64 0), (.int .i64 0), (.int .i64 0), (.int .i64 0), (.int .i64 0), (.int .i64 0), (.int .i64 0)])), (18, (.agg #[(.int .i64 0), (.int .i64 0), (.int .i64 0), (.int .i64 0), (.int .i64 0), (.int .i64 0), (.int .i64 0), (.int .i64 0), (.int .i64 0)])), (19, (.int .i64 0)), (20, (.slice none 0 0)), (21, (.int .i64 0)), (22, (.int .i64 0)), (23, (.bool false)), (24, (.pointer (some ⟨0, 0, none⟩))), (25, (.agg #[(.int .i64 0), (.int .i64 0), (.int .i64 0), (.int .i64 0), (.int .i64 0), (.int .i64 0), (.int .i64 0)])), (26, (.slice none 0 0)), (27, (.int .i64 0))]
  | 64, 3 => [(4, (.slice none 0 0)), (5, (.slice none 0 0)), (63, (.int .i64 0)), (64, (.int .i64 0))]
  | 65, 0 => [(0, (.pointer (some ⟨0, 0, none⟩))), (2, (.slice none 0 0)), (3, (.slice none 0 0)), (4, (.int .i64 0)), (5, (.int .i64 0))]
  | 66, 0 => [(0, (.slice none 0 0)), (2, (.bool false)), (5, (.slice none 0 0)), (6, (.int .i64 0)), (7, (.int .i64 0))]
  | 67, 0 => [(0, (.slice none 0 0)), (2, (.bool false)), (5, (.slice none 0 0)), (6, (.int .i64 0)), (7, (.int .i64 0))]
  | 71, 0 => [(1, (.int .i64 0)), (2, (.pointer (some ⟨0, 0, none⟩))), (4, (.slice none 0 0)), (5, (.slice none 0 0)), (6, (.int .i64 0))]
  | 87, 0 => [(1, (.int .i64 0)), (2, (.pointer (some ⟨0, 0, none⟩))), (4, (.pointer (some ⟨0, 0, none⟩))), (5, (.int .i64 0)), (6, (.int .i64 0))]
  | 88, 0 => [(0, (.slice none 0 0)), (1, (.int .i64 0)), (2, .nilFunc), (6, (.int .i64 0)), (7, (.int .i64 0)), (8, (.int .i64 0))]
  | 88, 1 => [(0, (.slice none 0 0)), (1, (.int .i64 0)), (2, .nilFunc), (6, (.int .i64 0)), (7, (.int .i64 0)), (8, (.int .i64 0))]
  | 88, 2 => [(0, (.slice none 0 0)), (1, (.int .i64 0)), (2, .nilFunc), (6, (.int .i64 0)), (7, (.int .i64 0)), (8, (.int .i64 0)), (28, (.int .i64 0)), (29, (.int .i64 0)), (30, (.bool false)), (31, (.int .i64 0)), (32, (.int .i64 0))]
  | 89, 0 => [(1, (.int .i64 0)), (2, (.int .i64 0)), (6, (.bool false)), (9, (.slice none 0 0)), (10, (.int .i64 0)), (11, (.int .i64 0))]
  | 92, 0 => [(1, (.pointer (some ⟨0, 0, none⟩))), (2, (.bool false)), (6, (.agg #[(.int .i64 0), (.int .i64 0), (.int .i64 0), (.int .i64 0)])), (7, (.int .i64 0))]
  | 94, 0 => [(1, (.int .i64 0)), (2, (.pointer (some ⟨0, 0, none⟩))), (4, (.pointer (some ⟨0, 0, none⟩))), (5, (.pointer (some ⟨0, 0, none⟩))), (6, (.int .i64 0))]
  | 98, 0 => [(2, (.int .i64 0)), (3, (.int .i64 0)), (12, (.slice none 0 0)), (13, (.int .i64 0)), (14, (.int .i64 0))]
  | 99, 0 => [(0, (.slice none 0 0)), (1, (.int .i64 0)), (2, (.int .i64 0)), (3, .nilFunc), (8, (.int .i64 0))]
  | 99, 1 => [(0, (.slice none 0 0)), (1, (.int .i64 0)), (2, (.int .i64 0)), (3, .nilFunc), (8, (.int .i64 0)), (9, (.int .i64 0)), (12, (.int .i64 0)), (13, (.int .i64 0)), (14, (.bool false)), (17, (.int .i64 0))]
  | 100, 0 => [(0, (.slice none 0 0)), (1, (.int .i64 0)), (2, (.int .i64 0)), (3, (.int .i64 0)), (4, .nilFunc), (10, (.int .i64 0)), (11, (.int .i64 0))]
  | 100, 1 => [(0, (.slice none 0 0)), (1, (.int .i64 0)), (2, (.int .i64 0)), (3, (.int .i64 0)), (4, .nilFunc), (10, (.int .i64 0)), (13, (.int .i64 0))]
  | 100, 2 => [(0, (.slice none 0 0)), (1, (.int .i64 0)), (2, (.int .i64 0)), (3, (.int .i64 0)), (4, .nilFunc), (14, (.int .i64 0)), (15, (.int .i64 0))]
  | 100, 3 => [(0, (.slice none 0 0)), (1, (.int .i64 0)), (2, (.int .i64 0)), (3, (.int .i64 0)), (4, .nilFunc), (14, (.int .i64 0)), (17, (.int .i64 0))]
  | 100, 4 => [(0, (.slice none 0 0)), (1, (.int .i64 0)), (2, (.int .i64 0)), (3, (.int .i64 0)), (4, .nilFunc), (18, (.int .i64 0)), (19, (.int .i64 0)), (20, (.int .i64 0)), (21, (.int .i64 0)), (22, (.int .i64 0))]
  | 106, 0 => [(0, (.slice none 0 0)), (2, (.int .i64 0)), (4, .nilFunc), (10, (.int .i64 0)), (11, (.int .i64 0))]
  | 107, 0 => [(2, (.int .i64 0)), (3, (.int .i64 0)), (12, (.slice none 0 0)), (13, (.int .i64 0)), (14, (.int .i64 0))]
  | 109, 0 => [(0, (.slice none 0 0)), (1, (.int .i64 0)), (2, (.int .i64 0)), (3, (.int .i64 0)), (10, (.int .i64 0))]
  | _, _ => []
def pvInline : FuncId → Bool
  | 58 => true
  | 59 => true
  | _ => false
def pvOwn : FuncId → Bool

  | _ => false
def pvExt : FuncId → Option (List Value → Nat → Go.Ev.Heap → Option (Value × Go.Ev.Heap))
  | _ => none
def pvVext : (f : FuncId) → Option (TupT (pvSig f).ptys → Option (TupT (pvSig f).rtys))
  | _ => none
noncomputable def pvAnn : AnnV := ⟨fuelN, pvSig, pvLoops, pvEloops, pvInline, pvOwn, pvExt, pvVext⟩

/-- (*loop.example/g00838/spec.l1Cur).next -/
noncomputable def g83 (d : Nat) (x1 : ((List Int) × Int × Int)) : Option (Int × ((List Int) × Int × Int)) := (lev Try.prog pvAnn d).call 83 (x1)
/-- (*loop.example/g00838/spec.l1Cur).pick -/
noncomputable def g48 (d : Nat) (x1 : ((List Int) × Int × Int)) (n2 : Int) : Option (Int × ((List Int) × Int × Int)) := (lev Try.prog pvAnn d).call 48 (x1, n2)
/-- (*loop.example/g00838/spec.l1Cur).one -/
noncomputable def g44 (d : Nat) (x1 : ((List Int) × Int × Int)) (n2 : Int) : Option (Bool × ((List Int) × Int × Int)) := (lev Try.prog pvAnn d).call 44 (x1, n2)
/-- (*loop.example/g00838/spec.l1Cur).among -/
noncomputable def g68 (d : Nat) (x1 : ((List Int) × Int × Int)) (l2 : List Int) : Option (Int × ((List Int) × Int × Int)) := (lev Try.prog pvAnn d).call 68 (x1, l2)
/-- (*loop.example/g00838/spec.l1Cur).flow -/
noncomputable def g53 (d : Nat) (x1 : ((List Int) × Int × Int)) : Option ((Int × Int × Int × Int × Int × Int × Int × Int × Int) × ((List Int) × Int × Int)) := (lev Try.prog pvAnn d).call 53 (x1)
/-- (*loop.example/g00838/spec.l1Cur).tick -/
noncomputable def g54 (d : Nat) (x1 : ((List Int) × Int × Int)) : Option (Int × ((List Int) × Int × Int)) := (lev Try.prog pvAnn d).call 54 (x1)
/-- loop.example/g00838/spec.DrawMergeFlows -/
noncomputable def g19 (d : Nat) (l1 : List Int) : Option ((List (Int × Int × Int × Int × Int × Int × Int × Int × Int)) × Int) := (lev Try.prog pvAnn d).call 19 (l1)
/-- loop.example/g00838/impl.isTicks -/
noncomputable def g55 (d : Nat) (n1 : Int) : Option Bool := (lev Try.prog pvAnn d).call 55 (n1)
/-- loop.example/g00838/impl.isSize -/
noncomputable def g86 (d : Nat) (n1 : Int) : Option Bool := (lev Try.prog pvAnn d).call 86 (n1)
/-- loop.example/g00838/impl.IsFlow -/
noncomputable def g56 (d : Nat) (x1 : (Int × Int × Int × Int × Int × Int × Int × Int × Int)) : Option Bool := (lev Try.prog pvAnn d).call 56 (x1)
/-- slices.Clone[[]int,int] -/
noncomputable def g105 (d : Nat) (l1 : List Int) : Option (List Int) := (lev Try.prog pvAnn d).call 105 (l1)
/-- loop.example/g00838/impl.mixOf -/
noncomputable def g98 (d : Nat) (l1 : List Int) : Option Int := (lev Try.prog pvAnn d).call 98 (l1)
/-- loop.example/g00838/impl.gapOf -/
noncomputable def g97 (d : Nat) (x1 : (Int × Int × Int × Int × Int × Int × Int × Int × Int)) (n2 : Int) : Option Int := (lev Try.prog pvAnn d).call 97 (x1, n2)
/-- loop.example/g00838/impl.packetAt -/
noncomputable def g87 (d : Nat) (x1 : (Int × Int × Int × Int × Int × Int × Int × Int × Int)) (n2 : Int) : Option (Int × Int × Int × Int × Int × Int × Int) := (lev Try.prog pvAnn d).call 87 (x1, n2)
/-- loop.example/g00838/impl.flowUntil -/
noncomputable def g57 (d : Nat) (x1 : (Int × Int × Int × Int × Int × Int × Int × Int × Int)) (n2 : Int) : Option (List (Int × Int × Int × Int × Int × Int × Int)) := (lev Try.prog pvAnn d).call 57 (x1, n2)
/-- slices.Clone[[]loop.example/g00838/impl.Timed,loop.example/g00838/impl.Timed] -/
noncomputable def g61 (d : Nat) (l1 : List (Int × Int × Int × Int × Int × Int × Int)) : Option (List (Int × Int × Int × Int × Int × Int × Int)) := (lev Try.prog pvAnn d).call 61 (l1)
/-- loop.example/g00838/impl.compareInts -/
noncomputable def g60 (d : Nat) (n1 : Int) (n2 : Int) : Option Int := (lev Try.prog pvAnn d).call 60 (n1, n2)
/-- slices.insertionSortCmpFunc[loop.example/g00838/impl.Timed] -/
noncomputable def g99 (d : Nat) (l1 : List (Int × Int × Int × Int × Int × Int × Int)) (n2 : Int) (n3 : Int) (b4 : Bool) : Option (List (Int × Int × Int × Int × Int × Int × Int)) := (lev Try.prog pvAnn d).call 99 (l1, n2, n3, b4)
/-- slices.swapRangeCmpFunc[loop.example/g00838/impl.Timed] -/
noncomputable def g109 (d : Nat) (l1 : List (Int × Int × Int × Int × Int × Int × Int)) (n2 : Int) (n3 : Int) (n4 : Int) (b5 : Bool) : Option (List (Int × Int × Int × Int × Int × Int × Int)) := (lev Try.prog pvAnn d).call 109 (l1, n2, n3, n4, b5)
/-- slices.rotateCmpFunc[loop.example/g00838/impl.Timed] -/
noncomputable def g106 (d : Nat) (l1 : List (Int × Int × Int × Int × Int × Int × Int)) (n2 : Int) (n3 : Int) (n4 : Int) (b5 : Bool) : Option (List (Int × Int × Int × Int × Int × Int × Int)) := (lev Try.prog pvAnn d).call 106 (l1, n2, n3, n4, b5)
/-- slices.symMergeCmpFunc[loop.example/g00838/impl.Timed] -/
noncomputable def g100 (d : Nat) (l1 : List (Int × Int × Int × Int × Int × Int × Int)) (n2 : Int) (n3 : Int) (n4 : Int) (b5 : Bool) : Option (List (Int × Int × Int × Int × Int × Int × Int)) := (lev Try.prog pvAnn d).call 100 (l1, n2, n3, n4, b5)
/-- slices.stableCmpFunc[loop.example/g00838/impl.Timed] -/
noncomputable def g88 (d : Nat) (l1 : List (Int × Int × Int × Int × Int × Int × Int)) (n2 : Int) (b3 : Bool) : Option (List (Int × Int × Int × Int × Int × Int × Int)) := (lev Try.prog pvAnn d).call 88 (l1, n2, b3)
/-- loop.example/g00838/impl.MergeFlows -/
noncomputable def g20 (d : Nat) (l1 : List (Int × Int × Int × Int × Int × Int × Int × Int × Int)) (n2 : Int) : Option ((List (Int × Int × Int × Int × Int × Int × Int)) × Bool) := (lev Try.prog pvAnn d).call 20 (l1, n2)
/-- loop.example/g00838/spec.l1In -/
noncomputable def g69 (d : Nat) (n1 : Int) (n2 : Int) (n3 : Int) : Option Bool := (lev Try.prog pvAnn d).call 69 (n1, n2, n3)
/-- loop.example/g00838/spec.l1All -/
noncomputable def g89 (d : Nat) (l1 : List Int) (n2 : Int) (n3 : Int) : Option Bool := (lev Try.prog pvAnn d).call 89 (l1, n2, n3)
/-- loop.example/g00838/spec.tfGood -/
noncomputable def g62 (d : Nat) (x1 : (Int × Int × Int × Int × Int × Int × Int × Int × Int)) : Option Bool := (lev Try.prog pvAnn d).call 62 (x1)
/-- loop.example/g00838/spec.tfTick -/
noncomputable def g63 (d : Nat) (n1 : Int) : Option Bool := (lev Try.prog pvAnn d).call 63 (n1)
/-- loop.example/g00838/spec.l1Own -/
noncomputable def g108 (d : Nat) (l1 : List Int) : Option (List Int) := (lev Try.prog pvAnn d).call 108 (l1)
/-- loop.example/g00838/spec.tfMix -/
noncomputable def g107 (d : Nat) (l1 : List Int) : Option Int := (lev Try.prog pvAnn d).call 107 (l1)
/-- loop.example/g00838/spec.tfBelow -/
noncomputable def g104 (d : Nat) (l1 : List Int) (n2 : Int) : Option Int := (lev Try.prog pvAnn d).call 104 (l1, n2)
/-- loop.example/g00838/spec.tfGap -/
noncomputable def g103 (d : Nat) (x1 : (Int × Int × Int × Int × Int × Int × Int × Int × Int)) (n2 : Int) : Option Int := (lev Try.prog pvAnn d).call 103 (x1, n2)
/-- loop.example/g00838/spec.tfPacket -/
noncomputable def g94 (d : Nat) (x1 : (Int × Int × Int × Int × Int × Int × Int × Int × Int)) (n2 : Int) : Option (Int × Int × Int × Int × Int × Int × Int) := (lev Try.prog pvAnn d).call 94 (x1, n2)
/-- loop.example/g00838/spec.tfUntil -/
noncomputable def g71 (d : Nat) (x1 : (Int × Int × Int × Int × Int × Int × Int × Int × Int)) (n2 : Int) : Option (List (Int × Int × Int × Int × Int × Int × Int)) := (lev Try.prog pvAnn d).call 71 (x1, n2)
/-- loop.example/g00838/spec.l1Least -/
noncomputable def g75 (d : Nat) (n1 : Int) (n2 : Int) : Option Int := (lev Try.prog pvAnn d).call 75 (n1, n2)
/-- loop.example/g00838/spec.tfMerge -/
noncomputable def g64 (d : Nat) (l1 : List (Int × Int × Int × Int × Int × Int × Int × Int × Int)) (n2 : Int) : Option (List (Int × Int × Int × Int × Int × Int × Int)) := (lev Try.prog pvAnn d).call 64 (l1, n2)
/-- loop.example/g00838/spec.MergeFlows -/
noncomputable def g21 (d : Nat) (l1 : List (Int × Int × Int × Int × Int × Int × Int × Int × Int)) (n2 : Int) : Option ((List (Int × Int × Int × Int × Int × Int × Int)) × Bool) := (lev Try.prog pvAnn d).call 21 (l1, n2)
/-- (*loop.example/g00838/spec.l1Cur).packet -/
noncomputable def g90 (d : Nat) (x1 : ((List Int) × Int × Int)) : Option ((Int × Int × Int × Int × Int × Int) × ((List Int) × Int × Int)) := (lev Try.prog pvAnn d).call 90 (x1)
/-- (*loop.example/g00838/spec.l1Cur).anyPacket -/
noncomputable def g91 (d : Nat) (x1 : ((List Int) × Int × Int)) : Option ((Int × Int × Int × Int × Int × Int) × ((List Int) × Int × Int)) := (lev Try.prog pvAnn d).call 91 (x1)
/-- (*loop.example/g00838/spec.l1Cur).timed -/
noncomputable def g65 (d : Nat) (x1 : ((List Int) × Int × Int)) : Option ((List (Int × Int × Int × Int × Int × Int × Int)) × ((List Int) × Int × Int)) := (lev Try.prog pvAnn d).call 65 (x1)
/-- loop.example/g00838/spec.DrawBytesUntil -/
noncomputable def g22 (d : Nat) (l1 : List Int) : Option ((List (Int × Int × Int × Int × Int × Int × Int)) × Int) := (lev Try.prog pvAnn d).call 22 (l1)
/-- loop.example/g00838/impl.fieldsOf -/
noncomputable def g101 (d : Nat) (x1 : (Int × Int × Int × Int × Int × Int)) : Option (Int × Int × Int × Int) := (lev Try.prog pvAnn d).call 101 (x1)
/-- loop.example/g00838/impl.IsPacket -/
noncomputable def g92 (d : Nat) (x1 : (Int × Int × Int × Int × Int × Int)) : Option Bool := (lev Try.prog pvAnn d).call 92 (x1)
/-- loop.example/g00838/impl.areTimed -/
noncomputable def g66 (d : Nat) (l1 : List (Int × Int × Int × Int × Int × Int × Int)) : Option Bool := (lev Try.prog pvAnn d).call 66 (l1)
/-- loop.example/g00838/impl.BytesUntil -/
noncomputable def g23 (d : Nat) (l1 : List (Int × Int × Int × Int × Int × Int × Int)) (n2 : Int) : Option (Int × Bool) := (lev Try.prog pvAnn d).call 23 (l1, n2)
/-- loop.example/g00838/spec.pkWord -/
noncomputable def g102 (d : Nat) (n1 : Int) : Option Bool := (lev Try.prog pvAnn d).call 102 (n1)
/-- loop.example/g00838/spec.pkGood -/
noncomputable def g93 (d : Nat) (x1 : (Int × Int × Int × Int × Int × Int)) : Option Bool := (lev Try.prog pvAnn d).call 93 (x1)
/-- loop.example/g00838/spec.tfTimed -/
noncomputable def g67 (d : Nat) (l1 : List (Int × Int × Int × Int × Int × Int × Int)) : Option Bool := (lev Try.prog pvAnn d).call 67 (l1)
/-- loop.example/g00838/spec.BytesUntil -/
noncomputable def g24 (d : Nat) (l1 : List (Int × Int × Int × Int × Int × Int × Int)) (n2 : Int) : Option (Int × Bool) := (lev Try.prog pvAnn d).call 24 (l1, n2)
/-- loop.example/g00838/spec.DrawPeakIn -/
noncomputable def g25 (d : Nat) (l1 : List Int) : Option ((List (Int × Int × Int × Int × Int × Int × Int)) × Int) := (lev Try.prog pvAnn d).call 25 (l1)
/-- loop.example/g00838/impl.PeakIn -/
noncomputable def g26 (d : Nat) (l1 : List (Int × Int × Int × Int × Int × Int × Int)) (n2 : Int) : Option (Int × Bool) := (lev Try.prog pvAnn d).call 26 (l1, n2)
/-- loop.example/g00838/spec.l1Most -/
noncomputable def g70 (d : Nat) (n1 : Int) (n2 : Int) : Option Int := (lev Try.prog pvAnn d).call 70 (n1, n2)
/-- loop.example/g00838/spec.PeakIn -/
noncomputable def g27 (d : Nat) (l1 : List (Int × Int × Int × Int × Int × Int × Int)) (n2 : Int) : Option (Int × Bool) := (lev Try.prog pvAnn d).call 27 (l1, n2)
/-- loop.example/g00838/laws.qTimed -/
noncomputable def g28 (d : Nat) (l1 : List (Int × Int × Int × Int × Int × Int × Int)) (l2 : List (Int × Int × Int × Int × Int × Int × Int)) : Option Bool := (lev Try.prog pvAnn d).call 28 (l1, l2)
/-- loop.example/g00838/impl.FlowUntil -/
noncomputable def g29 (d : Nat) (x1 : (Int × Int × Int × Int × Int × Int × Int × Int × Int)) (n2 : Int) : Option ((List (Int × Int × Int × Int × Int × Int × Int)) × Bool) := (lev Try.prog pvAnn d).call 29 (x1, n2)
/-- loop.example/g00838/spec.FlowUntil -/
noncomputable def g30 (d : Nat) (x1 : (Int × Int × Int × Int × Int × Int × Int × Int × Int)) (n2 : Int) : Option ((List (Int × Int × Int × Int × Int × Int × Int)) × Bool) := (lev Try.prog pvAnn d).call 30 (x1, n2)
/-- loop.example/g00838/laws.FnMerged -/
noncomputable def g4 (d : Nat) (l1 : List Int) (l2 : List Int) : Option Bool := (lev Try.prog pvAnn d).call 4 (l1, l2)

noncomputable def j83_0 (d : Nat) (x1 : ((List Int) × Int × Int)) (n2 : Int) : Option (Int × ((List Int) × Int × Int)) :=
 oif (decide (((IntKind.i64.wrap (x1.2.1 + 1)) : Int) ≤ ((x1.1.length : Nat) : Int))) (
 some (n2, (x1.1, (IntKind.i64.wrap (x1.2.1 + 1)), (IntKind.u64.wrap ((IntKind.u64.wrap ((IntKind.u64.wrap (x1.2.2 * 6364136223846793005)) + (IntKind.u64.wrap n2))) + 1442695040888963407))))) (
 some ((IntKind.i64.wrap (IntKind.u64.wrap ((BitVec.ofInt IntKind.u64.bits ((IntKind.u64.wrap ((IntKind.u64.wrap ((IntKind.u64.wrap (x1.2.2 * 6364136223846793005)) + (IntKind.u64.wrap n2))) + 1442695040888963407)).fdiv (2 ^ (min (40 : Int).toNat IntKind.u64.bits))) &&& BitVec.ofInt IntKind.u64.bits 255).toNat : Int))), (x1.1, (IntKind.i64.wrap (x1.2.1 + 1)), (IntKind.u64.wrap ((IntKind.u64.wrap ((IntKind.u64.wrap (x1.2.2 * 6364136223846793005)) + (IntKind.u64.wrap n2))) + 1442695040888963407)))))
theorem e83 (d : Nat) (x1 : ((List Int) × Int × Int)) : g83 (d + 1) x1 =
 oif (decide ((x1.2.1 : Int) < ((x1.1.length : Nat) : Int))) (
 oif (decide (0 ≤ (x1.2.1 : Int))) (
 obind (x1.1[(x1.2.1 : Int).toNat]?) fun n2 =>
 j83_0 d x1 (IntKind.i64.wrap n2)) none) (
 j83_0 d x1 0) := by kernel_rfl

theorem e48 (d : Nat) (x1 : ((List Int) × Int × Int)) (n2 : Int) : g48 (d + 1) x1 n2 =
 oif (decide ((n2 : Int) ≤ 1)) (
 some (0, x1)) (
 obind (g83 d x1) fun r3 =>
 oif (decide ((n2 : Int) > 200)) (
 obind (g83 d r3.2) fun r4 =>
 oif ((n2 : Int) == 0) none (
 some (((IntKind.i64.wrap ((IntKind.i64.wrap (r3.1 * 256)) + r4.1)).tmod n2), r4.2))) (
 oif ((n2 : Int) == 0) none (
 some ((r3.1.tmod n2), r3.2)))) := by kernel_rfl

theorem e44 (d : Nat) (x1 : ((List Int) × Int × Int)) (n2 : Int) : g44 (d + 1) x1 n2 =
 obind (g48 d x1 n2) fun r3 =>
 some (((r3.1 : Int) == 0), r3.2) := by kernel_rfl

theorem e68 (d : Nat) (x1 : ((List Int) × Int × Int)) (l2 : List Int) : g68 (d + 1) x1 l2 =
 obind (g48 d x1 ((l2.length : Nat) : Int)) fun r3 =>
 oif (decide (0 ≤ (r3.1 : Int))) (
 obind (l2[(r3.1 : Int).toNat]?) fun n4 =>
 some (n4, r3.2)) none := by kernel_rfl

noncomputable def j53_0 (d : Nat) (r4 : (Int × ((List Int) × Int × Int))) (r5 : (Int × ((List Int) × Int × Int))) (r6 : (Int × ((List Int) × Int × Int))) (n12 : Int) (n13 : Int) (n14 : Int) (n15 : Int) (n16 : Int) (n17 : Int) (l18 : List Int) (n19 : Int) (n20 : Int) : Option ((Int × Int × Int × Int × Int × Int × Int × Int × Int) × ((List Int) × Int × Int)) :=
 some ((n12, n13, r4.1, r5.1, r6.1, n14, n15, n16, n17), (l18, n19, n20))
theorem e53 (d : Nat) (x1 : ((List Int) × Int × Int)) : g53 (d + 1) x1 =
 obind (g48 d x1 60000) fun r2 =>
 obind (g48 d r2.2 9) fun r3 =>
 obind (g48 d r3.2 9) fun r4 =>
 obind (g68 d r4.2 [22, 80, 443]) fun r5 =>
 obind (g48 d r5.2 40) fun r6 =>
 obind (g48 d r6.2 20) fun r7 =>
 obind (g68 d r7.2 [1, 2, 5, 20, 500]) fun r8 =>
 obind (g48 d r8.2 4) fun r9 =>
 obind (g68 d r9.2 [1, 100, 576, 1500]) fun r10 =>
 obind (g48 d r10.2 24) fun r11 =>
 oif ((r11.1 : Int) == 0) (
 obind (g68 d r11.2 [(-1), 1000000000, 1000000001]) fun r12 =>
 j53_0 d r4 r5 r6 r12.1 r3.1 r7.1 r8.1 (IntKind.i64.wrap ((1 : Int) + r9.1)) r10.1 r12.2.1 r12.2.2.1 r12.2.2.2) (
 oif ((r11.1 : Int) == 1) (
 obind (g68 d r11.2 [(-1), 65535, 65536]) fun r13 =>
 j53_0 d r4 r5 r6 r2.1 r13.1 r7.1 r8.1 (IntKind.i64.wrap ((1 : Int) + r9.1)) r10.1 r13.2.1 r13.2.2.1 r13.2.2.2) (
 oif ((r11.1 : Int) == 2) (
 obind (g68 d r11.2 [(-1), 10000, 10001]) fun r14 =>
 j53_0 d r4 r5 r6 r2.1 r3.1 r14.1 r8.1 (IntKind.i64.wrap ((1 : Int) + r9.1)) r10.1 r14.2.1 r14.2.2.1 r14.2.2.2) (
 oif ((r11.1 : Int) == 3) (
 obind (g68 d r11.2 [0, 501]) fun r15 =>
 j53_0 d r4 r5 r6 r2.1 r3.1 r7.1 r15.1 (IntKind.i64.wrap ((1 : Int) + r9.1)) r10.1 r15.2.1 r15.2.2.1 r15.2.2.2) (
 oif ((r11.1 : Int) == 4) (
 obind (g68 d r11.2 [0, 10, 11]) fun r16 =>
 j53_0 d r4 r5 r6 r2.1 r3.1 r7.1 r8.1 r16.1 r10.1 r16.2.1 r16.2.2.1 r16.2.2.2) (
 oif ((r11.1 : Int) == 5) (
 obind (g68 d r11.2 [0, 1501]) fun r17 =>
 j53_0 d r4 r5 r6 r2.1 r3.1 r7.1 r8.1 (IntKind.i64.wrap ((1 : Int) + r9.1)) r17.1 r17.2.1 r17.2.2.1 r17.2.2.2) (
 j53_0 d r4 r5 r6 r2.1 r3.1 r7.1 r8.1 (IntKind.i64.wrap ((1 : Int) + r9.1)) r10.1 r11.2.1 r11.2.2.1 r11.2.2.2)))))) := by kernel_rfl

theorem e54 (d : Nat) (x1 : ((List Int) × Int × Int)) : g54 (d + 1) x1 =
 obind (g48 d x1 60) fun r2 =>
 obind (g48 d r2.2 300) fun r3 =>
 obind (g68 d r3.2 [0, 1, r2.1, r3.1, 100000, 100001, (-1)]) fun r4 =>
 some (r4.1, r4.2) := by kernel_rfl

noncomputable def j19_0 (d : Nat)  (l9 : List Int) (n10 : Int) (n11 : Int) (l12 : List (Int × Int × Int × Int × Int × Int × Int × Int × Int)) : Option ((List (Int × Int × Int × Int × Int × Int × Int × Int × Int)) × Int) :=
 obind (g54 d (l9, n10, n11)) fun r13 =>
 some (l12, r13.1)
noncomputable def l19_0_b (d : Nat) (n4 : Int) (kx19_0_0 : (List Int) → Int → Int → (List (Int × Int × Int × Int × Int × Int × Int × Int × Int)) → Option ((List (Int × Int × Int × Int × Int × Int × Int × Int × Int)) × Int)) (ag8 : ((List (Int × Int × Int × Int × Int × Int × Int × Int × Int)) × ((List Int) × Int × Int)) → Option ((List (Int × Int × Int × Int × Int × Int × Int × Int × Int)) × Int)) (l9 : List (Int × Int × Int × Int × Int × Int × Int × Int × Int)) (x10 : ((List Int) × Int × Int)) : Option ((List (Int × Int × Int × Int × Int × Int × Int × Int × Int)) × Int) :=
 oif (decide ((((l9.length : Nat) : Int) : Int) < n4)) (
 obind (g53 d x10) fun r11 =>
 oif (Nat.ble ((l9.length + [r11.1].length) * 72) roomMax) (
 ag8 ((l9 ++ [r11.1]), r11.2)) none) (
 kx19_0_0 x10.1 x10.2.1 x10.2.2 l9)
noncomputable def l19_0 (d : Nat) (n4 : Int) (kx19_0_0 : (List Int) → Int → Int → (List (Int × Int × Int × Int × Int × Int × Int × Int × Int)) → Option ((List (Int × Int × Int × Int × Int × Int × Int × Int × Int)) × Int)) (ag8 : ((List (Int × Int × Int × Int × Int × Int × Int × Int × Int)) × ((List Int) × Int × Int)) → Option ((List (Int × Int × Int × Int × Int × Int × Int × Int × Int)) × Int)) (s : ((List (Int × Int × Int × Int × Int × Int × Int × Int × Int)) × ((List Int) × Int × Int))) : Option ((List (Int × Int × Int × Int × Int × Int × Int × Int × Int)) × Int) := l19_0_b d n4 kx19_0_0 ag8 s.1 s.2
noncomputable def j19_1 (d : Nat)  (n4 : Int) (l5 : List Int) (n6 : Int) (n7 : Int) : Option ((List (Int × Int × Int × Int × Int × Int × Int × Int × Int)) × Int) :=
 iterP (l19_0 d n4 (j19_0 d)) fuelN ([], (l5, n6, n7))
theorem e19 (d : Nat) (l1 : List Int) : g19 (d + 1) l1 =
 obind (g48 d (l1, 0, 0) 4) fun r2 =>
 obind (g44 d r2.2 16) fun r3 =>
 oif r3.1 (
 obind (g48 d r3.2 2) fun r4 =>
 j19_1 d (IntKind.i64.wrap ((6 : Int) + r4.1)) r4.2.1 r4.2.2.1 r4.2.2.2) (
 j19_1 d r2.1 r3.2.1 r3.2.2.1 r3.2.2.2) := by kernel_rfl

theorem e55 (d : Nat) (n1 : Int) : g55 (d + 1) n1 =
 oif (decide ((n1 : Int) ≥ 0)) (
 some (decide ((n1 : Int) ≤ 100000))) (
 some false) := by kernel_rfl

theorem e86 (d : Nat) (n1 : Int) : g86 (d + 1) n1 =
 oif (decide ((n1 : Int) ≥ 1)) (
 some (decide ((n1 : Int) ≤ 1500))) (
 some false) := by kernel_rfl

noncomputable def j56_0 (d : Nat) (x1 : (Int × Int × Int × Int × Int × Int × Int × Int × Int)) (b3 : Bool) : Option Bool :=
 oif (decide ((x1.1 : Int) ≥ 0)) (
 oif (decide ((x1.1 : Int) ≤ 1000000000)) (
 oif (decide ((x1.2.2.2.2.2.1 : Int) ≥ 0)) (
 oif (decide ((x1.2.2.2.2.2.1 : Int) ≤ 10000)) (
 oif (decide ((x1.2.2.2.2.2.2.1 : Int) ≥ 1)) (
 oif (decide ((x1.2.2.2.2.2.2.1 : Int) ≤ 500)) (
 oif (decide ((x1.2.2.2.2.2.2.2.1 : Int) ≥ 1)) (
 oif (decide ((x1.2.2.2.2.2.2.2.1 : Int) ≤ 10)) (
 obind (g86 d x1.2.2.2.2.2.2.2.2) fun r4 =>
 some r4) (
 some false)) (
 some false)) (
 some false)) (
 some false)) (
 some false)) (
 some false)) (
 some false)) (
 some false)
noncomputable def l56_0_b (d : Nat) (x1 : (Int × Int × Int × Int × Int × Int × Int × Int × Int)) (kx56_0_0 : Bool → Option Bool) (ag2 : (Bool × Int) → Option Bool) (b3 : Bool) (n4 : Int) : Option Bool :=
 oif (decide ((n4 : Int) < 4)) (
 oif (decide (0 ≤ (n4 : Int))) (
 obind (([x1.2.1, x1.2.2.1, x1.2.2.2.1, x1.2.2.2.2.1] : List Int)[(n4 : Int).toNat]?) fun n5 =>
 oif (decide ((n5 : Int) < 0)) (
 some false) (
 oif (decide ((n5 : Int) > 65535)) (
 some false) (
 ag2 (b3, (IntKind.i64.wrap (n4 + 1)))))) none) (
 kx56_0_0 b3)
noncomputable def l56_0 (d : Nat) (x1 : (Int × Int × Int × Int × Int × Int × Int × Int × Int)) (kx56_0_0 : Bool → Option Bool) (ag2 : (Bool × Int) → Option Bool) (s : (Bool × Int)) : Option Bool := l56_0_b d x1 kx56_0_0 ag2 s.1 s.2
theorem e56 (d : Nat) (x1 : (Int × Int × Int × Int × Int × Int × Int × Int × Int)) : g56 (d + 1) x1 =
 iterP (l56_0 d x1 (j56_0 d x1)) fuelN (false, 0) := by kernel_rfl

theorem e105 (d : Nat) (l1 : List Int) : g105 (d + 1) l1 =
 nilB l1.length (
 some []) (
 oif (Nat.ble ((([] : List Int).length + l1.length) * 8) roomMax) (
 some (([] : List Int) ++ l1)) none) := by kernel_rfl

noncomputable def j98_0 (d : Nat)  (n4 : Int) : Option Int :=
 some n4
noncomputable def l98_0_b (d : Nat) (r2 : List Int) (kx98_0_0 : Int → Option Int) (ag3 : (Int × Int) → Option Int) (n4 : Int) (n5 : Int) : Option Int :=
 oif (decide ((n5 : Int) < (((r2 ++ [3, 1]).length : Nat) : Int))) (
 oif (decide (0 ≤ (n5 : Int))) (
 oif (Nat.blt ((n5 : Int).toNat) ((r2 ++ [3, 1]).length)) (
 obind ((r2 ++ [3, 1])[(n5 : Int).toNat]?) fun n6 =>
 ag3 (((IntKind.i64.wrap (((IntKind.i64.wrap ((IntKind.i64.wrap ((IntKind.i64.wrap ((31 : Int) * n4)) + n6)) + 7)).tmod 1000003) * (IntKind.i64.wrap ((IntKind.i64.wrap (((IntKind.i64.wrap ((IntKind.i64.wrap ((IntKind.i64.wrap ((31 : Int) * n4)) + n6)) + 7)).tmod 1000003).tdiv 32)) + 3)))).tmod 1000003), (IntKind.i64.wrap (n5 + 1)))) none) none) (
 kx98_0_0 n4)
noncomputable def l98_0 (d : Nat) (r2 : List Int) (kx98_0_0 : Int → Option Int) (ag3 : (Int × Int) → Option Int) (s : (Int × Int)) : Option Int := l98_0_b d r2 kx98_0_0 ag3 s.1 s.2
theorem e98 (d : Nat) (l1 : List Int) : g98 (d + 1) l1 =
 obind (g105 d l1) fun r2 =>
 oif (Nat.ble ((r2.length + [3, 1].length) * 8) roomMax) (
 iterP (l98_0 d r2 (j98_0 d)) fuelN ((IntKind.i64.wrap ((7919 : Int) + ((l1.length : Nat) : Int))), 0)) none := by kernel_rfl

theorem e97 (d : Nat) (x1 : (Int × Int × Int × Int × Int × Int × Int × Int × Int)) (n2 : Int) : g97 (d + 1) x1 n2 =
 obind (g98 d [x1.1, n2, 1, x1.2.2.2.2.2.2.1]) fun r3 =>
 oif ((x1.2.2.2.2.2.2.1 : Int) == 0) none (
 some (IntKind.i64.wrap ((1 : Int) + (r3.tmod x1.2.2.2.2.2.2.1)))) := by kernel_rfl

noncomputable def j87_0 (d : Nat) (x1 : (Int × Int × Int × Int × Int × Int × Int × Int × Int)) (n2 : Int) (n4 : Int) : Option (Int × Int × Int × Int × Int × Int × Int) :=
 obind (g98 d [x1.1, n2, 2, x1.2.2.2.2.2.2.2.2]) fun r5 =>
 oif ((x1.2.2.2.2.2.2.2.2 : Int) == 0) none (
 some (n4, (IntKind.i64.wrap (n2 + 1)), x1.2.1, x1.2.2.1, x1.2.2.2.1, x1.2.2.2.2.1, (IntKind.i64.wrap ((1 : Int) + (r5.tmod x1.2.2.2.2.2.2.2.2)))))
noncomputable def l87_0_b (d : Nat) (x1 : (Int × Int × Int × Int × Int × Int × Int × Int × Int)) (n2 : Int) (kx87_0_0 : Int → Option (Int × Int × Int × Int × Int × Int × Int)) (ag3 : (Int × Int) → Option (Int × Int × Int × Int × Int × Int × Int)) (n4 : Int) (n5 : Int) : Option (Int × Int × Int × Int × Int × Int × Int) :=
 oif ((x1.2.2.2.2.2.2.2.1 : Int) == 0) none (
 oif (decide ((n5 : Int) ≤ (IntKind.i64.wrap (n2.tdiv x1.2.2.2.2.2.2.2.1)))) (
 obind (g97 d x1 n5) fun r6 =>
 ag3 ((IntKind.i64.wrap (n4 + r6)), (IntKind.i64.wrap (n5 + 1)))) (
 kx87_0_0 n4))
noncomputable def l87_0 (d : Nat) (x1 : (Int × Int × Int × Int × Int × Int × Int × Int × Int)) (n2 : Int) (kx87_0_0 : Int → Option (Int × Int × Int × Int × Int × Int × Int)) (ag3 : (Int × Int) → Option (Int × Int × Int × Int × Int × Int × Int)) (s : (Int × Int)) : Option (Int × Int × Int × Int × Int × Int × Int) := l87_0_b d x1 n2 kx87_0_0 ag3 s.1 s.2
theorem e87 (d : Nat) (x1 : (Int × Int × Int × Int × Int × Int × Int × Int × Int)) (n2 : Int) : g87 (d + 1) x1 n2 =
 iterP (l87_0 d x1 n2 (j87_0 d x1 n2)) fuelN (x1.2.2.2.2.2.1, 1) := by kernel_rfl

noncomputable def j57_0 (d : Nat)  (l4 : List (Int × Int × Int × Int × Int × Int × Int)) : Option (List (Int × Int × Int × Int × Int × Int × Int)) :=
 some l4
noncomputable def l57_0_b (d : Nat) (x1 : (Int × Int × Int × Int × Int × Int × Int × Int × Int)) (n2 : Int) (kx57_0_0 : (List (Int × Int × Int × Int × Int × Int × Int)) → Option (List (Int × Int × Int × Int × Int × Int × Int))) (ag3 : ((List (Int × Int × Int × Int × Int × Int × Int)) × Int) → Option (List (Int × Int × Int × Int × Int × Int × Int))) (l4 : List (Int × Int × Int × Int × Int × Int × Int)) (n5 : Int) : Option (List (Int × Int × Int × Int × Int × Int × Int)) :=
 oif (decide ((n5 : Int) < 60)) (
 obind (g87 d x1 n5) fun r6 =>
 oif (decide ((r6.1 : Int) > n2)) (
 kx57_0_0 l4) (
 oif (Nat.ble ((l4.length + [r6].length) * 56) roomMax) (
 ag3 ((l4 ++ [r6]), (IntKind.i64.wrap (n5 + 1)))) none)) (
 kx57_0_0 l4)
noncomputable def l57_0 (d : Nat) (x1 : (Int × Int × Int × Int × Int × Int × Int × Int × Int)) (n2 : Int) (kx57_0_0 : (List (Int × Int × Int × Int × Int × Int × Int)) → Option (List (Int × Int × Int × Int × Int × Int × Int))) (ag3 : ((List (Int × Int × Int × Int × Int × Int × Int)) × Int) → Option (List (Int × Int × Int × Int × Int × Int × Int))) (s : ((List (Int × Int × Int × Int × Int × Int × Int)) × Int)) : Option (List (Int × Int × Int × Int × Int × Int × Int)) := l57_0_b d x1 n2 kx57_0_0 ag3 s.1 s.2
theorem e57 (d : Nat) (x1 : (Int × Int × Int × Int × Int × Int × Int × Int × Int)) (n2 : Int) : g57 (d + 1) x1 n2 =
 iterP (l57_0 d x1 n2 (j57_0 d)) fuelN (([] : List (Int × Int × Int × Int × Int × Int × Int)), 0) := by kernel_rfl

theorem e61 (d : Nat) (l1 : List (Int × Int × Int × Int × Int × Int × Int)) : g61 (d + 1) l1 =
 nilB l1.length (
 some []) (
 oif (Nat.ble ((([] : List (Int × Int × Int × Int × Int × Int × Int)).length + l1.length) * 56) roomMax) (
 some (([] : List (Int × Int × Int × Int × Int × Int × Int)) ++ l1)) none) := by kernel_rfl

theorem e60 (d : Nat) (n1 : Int) (n2 : Int) : g60 (d + 1) n1 n2 =
 oif (decide ((n1 : Int) < n2)) (
 some (-1)) (
 oif (decide ((n1 : Int) > n2)) (
 some 1) (
 some 0)) := by kernel_rfl

noncomputable def j99_0 (d : Nat)  (l6 : List (Int × Int × Int × Int × Int × Int × Int)) : Option (List (Int × Int × Int × Int × Int × Int × Int)) :=
 some l6
noncomputable def j99_1 (d : Nat) (ag5 : (Int × (List (Int × Int × Int × Int × Int × Int × Int))) → Option (List (Int × Int × Int × Int × Int × Int × Int))) (n6 : Int) (n9 : Int) (n10 : Int) (b11 : Bool) (b12 : Bool) (l13 : List (Int × Int × Int × Int × Int × Int × Int)) : Option (List (Int × Int × Int × Int × Int × Int × Int)) :=
 ag5 ((IntKind.i64.wrap (n6 + 1)), l13)
noncomputable def j99_2 (d : Nat) (kx99_1_0 : Int → Int → Bool → Bool → (List (Int × Int × Int × Int × Int × Int × Int)) → Option (List (Int × Int × Int × Int × Int × Int × Int))) (n2 : Int) (ag8 : (Int × (List (Int × Int × Int × Int × Int × Int × Int))) → Option (List (Int × Int × Int × Int × Int × Int × Int))) (n9 : Int) (l10 : List (Int × Int × Int × Int × Int × Int × Int)) (b11 : Bool) (b12 : Bool) : Option (List (Int × Int × Int × Int × Int × Int × Int)) :=
 oif b12 (
 oif (decide (0 ≤ ((IntKind.i64.wrap (n9 - 1)) : Int))) (
 oif (Nat.blt (((IntKind.i64.wrap (n9 - 1)) : Int).toNat) l10.length) (
 obind (l10[((IntKind.i64.wrap (n9 - 1)) : Int).toNat]?) fun x13 =>
 oif (decide (0 ≤ (n9 : Int))) (
 oif (Nat.blt ((n9 : Int).toNat) l10.length) (
 obind (l10[(n9 : Int).toNat]?) fun x14 =>
 oif (decide (0 ≤ (n9 : Int))) (
 oif (Nat.blt ((n9 : Int).toNat) l10.length) (
 obind (l10[(n9 : Int).toNat]?) fun x15 =>
 oif (decide (0 ≤ ((IntKind.i64.wrap (n9 - 1)) : Int))) (
 oif (Nat.blt (((IntKind.i64.wrap (n9 - 1)) : Int).toNat) ((l10.set ((n9 : Int).toNat) x13).length)) (
 obind ((l10.set ((n9 : Int).toNat) x13)[((IntKind.i64.wrap (n9 - 1)) : Int).toNat]?) fun x16 =>
 ag8 ((IntKind.i64.wrap (n9 - 1)), ((l10.set ((n9 : Int).toNat) x13).set (((IntKind.i64.wrap (n9 - 1)) : Int).toNat) x14))) none) none) none) none) none) none) none) none) (
 kx99_1_0 n9 n9 (decide ((n9 : Int) > n2)) b11 l10)
noncomputable def l99_1_b (d : Nat) (n2 : Int) (kx99_1_0 : Int → Int → Bool → Bool → (List (Int × Int × Int × Int × Int × Int × Int)) → Option (List (Int × Int × Int × Int × Int × Int × Int))) (ag8 : (Int × (List (Int × Int × Int × Int × Int × Int × Int))) → Option (List (Int × Int × Int × Int × Int × Int × Int))) (n9 : Int) (l10 : List (Int × Int × Int × Int × Int × Int × Int)) : Option (List (Int × Int × Int × Int × Int × Int × Int)) :=
 oif (decide ((n9 : Int) > n2)) (
 oif (decide (0 ≤ (n9 : Int))) (
 oif (Nat.blt ((n9 : Int).toNat) l10.length) (
 obind (l10[(n9 : Int).toNat]?) fun x11 =>
 oif (decide (0 ≤ ((IntKind.i64.wrap (n9 - 1)) : Int))) (
 oif (Nat.blt (((IntKind.i64.wrap (n9 - 1)) : Int).toNat) l10.length) (
 obind (l10[((IntKind.i64.wrap (n9 - 1)) : Int).toNat]?) fun x12 =>
 obind (g60 d x11.1 x12.1) fun r13 =>
 j99_2 d kx99_1_0 n2 ag8 n9 l10 true (decide ((r13 : Int) < 0))) none) none) none) none) (
 j99_2 d kx99_1_0 n2 ag8 n9 l10 false false)
noncomputable def l99_1 (d : Nat) (n2 : Int) (kx99_1_0 : Int → Int → Bool → Bool → (List (Int × Int × Int × Int × Int × Int × Int)) → Option (List (Int × Int × Int × Int × Int × Int × Int))) (ag8 : (Int × (List (Int × Int × Int × Int × Int × Int × Int))) → Option (List (Int × Int × Int × Int × Int × Int × Int))) (s : (Int × (List (Int × Int × Int × Int × Int × Int × Int)))) : Option (List (Int × Int × Int × Int × Int × Int × Int)) := l99_1_b d n2 kx99_1_0 ag8 s.1 s.2
noncomputable def l99_0_b (d : Nat) (n2 : Int) (n3 : Int) (kx99_0_0 : (List (Int × Int × Int × Int × Int × Int × Int)) → Option (List (Int × Int × Int × Int × Int × Int × Int))) (ag5 : (Int × (List (Int × Int × Int × Int × Int × Int × Int))) → Option (List (Int × Int × Int × Int × Int × Int × Int))) (n6 : Int) (l7 : List (Int × Int × Int × Int × Int × Int × Int)) : Option (List (Int × Int × Int × Int × Int × Int × Int)) :=
 oif (decide ((n6 : Int) < n3)) (
 iterP (l99_1 d n2 (j99_1 d ag5 n6)) fuelN (n6, l7)) (
 kx99_0_0 l7)
noncomputable def l99_0 (d : Nat) (n2 : Int) (n3 : Int) (kx99_0_0 : (List (Int × Int × Int × Int × Int × Int × Int)) → Option (List (Int × Int × Int × Int × Int × Int × Int))) (ag5 : (Int × (List (Int × Int × Int × Int × Int × Int × Int))) → Option (List (Int × Int × Int × Int × Int × Int × Int))) (s : (Int × (List (Int × Int × Int × Int × Int × Int × Int)))) : Option (List (Int × Int × Int × Int × Int × Int × Int)) := l99_0_b d n2 n3 kx99_0_0 ag5 s.1 s.2
theorem e99 (d : Nat) (l1 : List (Int × Int × Int × Int × Int × Int × Int)) (n2 : Int) (n3 : Int) (b4 : Bool) : g99 (d + 2) l1 n2 n3 b4 =
 iterP (l99_0 d n2 n3 (j99_0 d)) fuelN ((IntKind.i64.wrap (n2 + 1)), l1) := by kernel_rfl

noncomputable def j109_0 (d : Nat)  (l7 : List (Int × Int × Int × Int × Int × Int × Int)) : Option (List (Int × Int × Int × Int × Int × Int × Int)) :=
 some l7
noncomputable def l109_0_b (d : Nat) (n2 : Int) (n3 : Int) (n4 : Int) (kx109_0_0 : (List (Int × Int × Int × Int × Int × Int × Int)) → Option (List (Int × Int × Int × Int × Int × Int × Int))) (ag6 : (Int × (List (Int × Int × Int × Int × Int × Int × Int))) → Option (List (Int × Int × Int × Int × Int × Int × Int))) (n7 : Int) (l8 : List (Int × Int × Int × Int × Int × Int × Int)) : Option (List (Int × Int × Int × Int × Int × Int × Int)) :=
 oif (decide ((n7 : Int) < n4)) (
 oif (decide (0 ≤ ((IntKind.i64.wrap (n3 + n7)) : Int))) (
 oif (Nat.blt (((IntKind.i64.wrap (n3 + n7)) : Int).toNat) l8.length) (
 obind (l8[((IntKind.i64.wrap (n3 + n7)) : Int).toNat]?) fun x9 =>
 oif (decide (0 ≤ ((IntKind.i64.wrap (n2 + n7)) : Int))) (
 oif (Nat.blt (((IntKind.i64.wrap (n2 + n7)) : Int).toNat) l8.length) (
 obind (l8[((IntKind.i64.wrap (n2 + n7)) : Int).toNat]?) fun x10 =>
 oif (decide (0 ≤ ((IntKind.i64.wrap (n2 + n7)) : Int))) (
 oif (Nat.blt (((IntKind.i64.wrap (n2 + n7)) : Int).toNat) l8.length) (
 obind (l8[((IntKind.i64.wrap (n2 + n7)) : Int).toNat]?) fun x11 =>
 oif (decide (0 ≤ ((IntKind.i64.wrap (n3 + n7)) : Int))) (
 oif (Nat.blt (((IntKind.i64.wrap (n3 + n7)) : Int).toNat) ((l8.set (((IntKind.i64.wrap (n2 + n7)) : Int).toNat) x9).length)) (
 obind ((l8.set (((IntKind.i64.wrap (n2 + n7)) : Int).toNat) x9)[((IntKind.i64.wrap (n3 + n7)) : Int).toNat]?) fun x12 =>
 ag6 ((IntKind.i64.wrap (n7 + 1)), ((l8.set (((IntKind.i64.wrap (n2 + n7)) : Int).toNat) x9).set (((IntKind.i64.wrap (n3 + n7)) : Int).toNat) x10))) none) none) none) none) none) none) none) none) (
 kx109_0_0 l8)
noncomputable def l109_0 (d : Nat) (n2 : Int) (n3 : Int) (n4 : Int) (kx109_0_0 : (List (Int × Int × Int × Int × Int × Int × Int)) → Option (List (Int × Int × Int × Int × Int × Int × Int))) (ag6 : (Int × (List (Int × Int × Int × Int × Int × Int × Int))) → Option (List (Int × Int × Int × Int × Int × Int × Int))) (s : (Int × (List (Int × Int × Int × Int × Int × Int × Int)))) : Option (List (Int × Int × Int × Int × Int × Int × Int)) := l109_0_b d n2 n3 n4 kx109_0_0 ag6 s.1 s.2
theorem e109 (d : Nat) (l1 : List (Int × Int × Int × Int × Int × Int × Int)) (n2 : Int) (n3 : Int) (n4 : Int) (b5 : Bool) : g109 (d + 1) l1 n2 n3 n4 b5 =
 iterP (l109_0 d n2 n3 n4 (j109_0 d)) fuelN (0, l1) := by kernel_rfl

noncomputable def j106_0 (d : Nat) (n3 : Int) (n7 : Int) (l8 : List (Int × Int × Int × Int × Int × Int × Int)) : Option (List (Int × Int × Int × Int × Int × Int × Int)) :=
 obind (g109 d l8 (IntKind.i64.wrap (n3 - n7)) n3 n7 false) fun r9 =>
 some r9
noncomputable def l106_0_b (d : Nat) (n3 : Int) (kx106_0_0 : Int → (List (Int × Int × Int × Int × Int × Int × Int)) → Option (List (Int × Int × Int × Int × Int × Int × Int))) (ag6 : (Int × Int × (List (Int × Int × Int × Int × Int × Int × Int))) → Option (List (Int × Int × Int × Int × Int × Int × Int))) (n7 : Int) (n8 : Int) (l9 : List (Int × Int × Int × Int × Int × Int × Int)) : Option (List (Int × Int × Int × Int × Int × Int × Int)) :=
 oif ((n7 : Int) != n8) (
 oif (decide ((n7 : Int) > n8)) (
 obind (g109 d l9 (IntKind.i64.wrap (n3 - n7)) n3 n8 false) fun r10 =>
 ag6 ((IntKind.i64.wrap (n7 - n8)), n8, r10)) (
 obind (g109 d l9 (IntKind.i64.wrap (n3 - n7)) (IntKind.i64.wrap ((IntKind.i64.wrap (n3 + n8)) - n7)) n7 false) fun r11 =>
 ag6 (n7, (IntKind.i64.wrap (n8 - n7)), r11))) (
 kx106_0_0 n7 l9)
noncomputable def l106_0 (d : Nat) (n3 : Int) (kx106_0_0 : Int → (List (Int × Int × Int × Int × Int × Int × Int)) → Option (List (Int × Int × Int × Int × Int × Int × Int))) (ag6 : (Int × Int × (List (Int × Int × Int × Int × Int × Int × Int))) → Option (List (Int × Int × Int × Int × Int × Int × Int))) (s : (Int × Int × (List (Int × Int × Int × Int × Int × Int × Int)))) : Option (List (Int × Int × Int × Int × Int × Int × Int)) := l106_0_b d n3 kx106_0_0 ag6 s.1 s.2.1 s.2.2
theorem e106 (d : Nat) (l1 : List (Int × Int × Int × Int × Int × Int × Int)) (n2 : Int) (n3 : Int) (n4 : Int) (b5 : Bool) : g106 (d + 1) l1 n2 n3 n4 b5 =
 iterP (l106_0 d n3 (j106_0 d n3)) fuelN ((IntKind.i64.wrap (n3 - n2)), (IntKind.i64.wrap (n4 - n3)), l1) := by kernel_rfl

noncomputable def j100_0 (d : Nat)  (l9 : List (Int × Int × Int × Int × Int × Int × Int)) : Option (List (Int × Int × Int × Int × Int × Int × Int)) :=
 some l9
noncomputable def l100_1_b (d : Nat) (n7 : Int) (kx100_1_0 : (List (Int × Int × Int × Int × Int × Int × Int)) → Option (List (Int × Int × Int × Int × Int × Int × Int))) (ag8 : (Int × (List (Int × Int × Int × Int × Int × Int × Int))) → Option (List (Int × Int × Int × Int × Int × Int × Int))) (n9 : Int) (l10 : List (Int × Int × Int × Int × Int × Int × Int)) : Option (List (Int × Int × Int × Int × Int × Int × Int)) :=
 oif (decide ((n9 : Int) < (IntKind.i64.wrap (n7 - 1)))) (
 oif (decide (0 ≤ ((IntKind.i64.wrap (n9 + 1)) : Int))) (
 oif (Nat.blt (((IntKind.i64.wrap (n9 + 1)) : Int).toNat) l10.length) (
 obind (l10[((IntKind.i64.wrap (n9 + 1)) : Int).toNat]?) fun x11 =>
 oif (decide (0 ≤ (n9 : Int))) (
 oif (Nat.blt ((n9 : Int).toNat) l10.length) (
 obind (l10[(n9 : Int).toNat]?) fun x12 =>
 oif (decide (0 ≤ (n9 : Int))) (
 oif (Nat.blt ((n9 : Int).toNat) l10.length) (
 obind (l10[(n9 : Int).toNat]?) fun x13 =>
 oif (decide (0 ≤ ((IntKind.i64.wrap (n9 + 1)) : Int))) (
 oif (Nat.blt (((IntKind.i64.wrap (n9 + 1)) : Int).toNat) ((l10.set ((n9 : Int).toNat) x11).length)) (
 obind ((l10.set ((n9 : Int).toNat) x11)[((IntKind.i64.wrap (n9 + 1)) : Int).toNat]?) fun x14 =>
 ag8 ((IntKind.i64.wrap (n9 + 1)), ((l10.set ((n9 : Int).toNat) x11).set (((IntKind.i64.wrap (n9 + 1)) : Int).toNat) x12))) none) none) none) none) none) none) none) none) (
 kx100_1_0 l10)
noncomputable def l100_1 (d : Nat) (n7 : Int) (kx100_1_0 : (List (Int × Int × Int × Int × Int × Int × Int)) → Option (List (Int × Int × Int × Int × Int × Int × Int))) (ag8 : (Int × (List (Int × Int × Int × Int × Int × Int × Int))) → Option (List (Int × Int × Int × Int × Int × Int × Int))) (s : (Int × (List (Int × Int × Int × Int × Int × Int × Int)))) : Option (List (Int × Int × Int × Int × Int × Int × Int)) := l100_1_b d n7 kx100_1_0 ag8 s.1 s.2
noncomputable def j100_1 (d : Nat) (l1 : List (Int × Int × Int × Int × Int × Int × Int)) (n2 : Int) (n7 : Int) : Option (List (Int × Int × Int × Int × Int × Int × Int)) :=
 iterP (l100_1 d n7 (j100_0 d)) fuelN (n2, l1)
noncomputable def l100_0_b (d : Nat) (l1 : List (Int × Int × Int × Int × Int × Int × Int)) (n2 : Int) (kx100_0_0 : Int → Option (List (Int × Int × Int × Int × Int × Int × Int))) (ag6 : (Int × Int) → Option (List (Int × Int × Int × Int × Int × Int × Int))) (n7 : Int) (n8 : Int) : Option (List (Int × Int × Int × Int × Int × Int × Int)) :=
 oif (decide ((n7 : Int) < n8)) (
 oif (decide (0 ≤ ((IntKind.i64.wrap ((IntKind.u64.wrap (IntKind.i64.wrap (n7 + n8))).fdiv (2 ^ (min (1 : Int).toNat IntKind.u64.bits)))) : Int))) (
 oif (Nat.blt (((IntKind.i64.wrap ((IntKind.u64.wrap (IntKind.i64.wrap (n7 + n8))).fdiv (2 ^ (min (1 : Int).toNat IntKind.u64.bits)))) : Int).toNat) l1.length) (
 obind (l1[((IntKind.i64.wrap ((IntKind.u64.wrap (IntKind.i64.wrap (n7 + n8))).fdiv (2 ^ (min (1 : Int).toNat IntKind.u64.bits)))) : Int).toNat]?) fun x9 =>
 oif (decide (0 ≤ (n2 : Int))) (
 oif (Nat.blt ((n2 : Int).toNat) l1.length) (
 obind (l1[(n2 : Int).toNat]?) fun x10 =>
 obind (g60 d x9.1 x10.1) fun r11 =>
 oif (decide ((r11 : Int) < 0)) (
 ag6 ((IntKind.i64.wrap ((IntKind.i64.wrap ((IntKind.u64.wrap (IntKind.i64.wrap (n7 + n8))).fdiv (2 ^ (min (1 : Int).toNat IntKind.u64.bits)))) + 1)), n8)) (
 ag6 (n7, (IntKind.i64.wrap ((IntKind.u64.wrap (IntKind.i64.wrap (n7 + n8))).fdiv (2 ^ (min (1 : Int).toNat IntKind.u64.bits))))))) none) none) none) none) (
 kx100_0_0 n7)
noncomputable def l100_0 (d : Nat) (l1 : List (Int × Int × Int × Int × Int × Int × Int)) (n2 : Int) (kx100_0_0 : Int → Option (List (Int × Int × Int × Int × Int × Int × Int))) (ag6 : (Int × Int) → Option (List (Int × Int × Int × Int × Int × Int × Int))) (s : (Int × Int)) : Option (List (Int × Int × Int × Int × Int × Int × Int)) := l100_0_b d l1 n2 kx100_0_0 ag6 s.1 s.2
noncomputable def j100_2 (d : Nat)  (l18 : List (Int × Int × Int × Int × Int × Int × Int)) : Option (List (Int × Int × Int × Int × Int × Int × Int)) :=
 some l18
noncomputable def l100_3_b (d : Nat) (n16 : Int) (kx100_3_0 : (List (Int × Int × Int × Int × Int × Int × Int)) → Option (List (Int × Int × Int × Int × Int × Int × Int))) (ag17 : (Int × (List (Int × Int × Int × Int × Int × Int × Int))) → Option (List (Int × Int × Int × Int × Int × Int × Int))) (n18 : Int) (l19 : List (Int × Int × Int × Int × Int × Int × Int)) : Option (List (Int × Int × Int × Int × Int × Int × Int)) :=
 oif (decide ((n18 : Int) > n16)) (
 oif (decide (0 ≤ ((IntKind.i64.wrap (n18 - 1)) : Int))) (
 oif (Nat.blt (((IntKind.i64.wrap (n18 - 1)) : Int).toNat) l19.length) (
 obind (l19[((IntKind.i64.wrap (n18 - 1)) : Int).toNat]?) fun x20 =>
 oif (decide (0 ≤ (n18 : Int))) (
 oif (Nat.blt ((n18 : Int).toNat) l19.length) (
 obind (l19[(n18 : Int).toNat]?) fun x21 =>
 oif (decide (0 ≤ (n18 : Int))) (
 oif (Nat.blt ((n18 : Int).toNat) l19.length) (
 obind (l19[(n18 : Int).toNat]?) fun x22 =>
 oif (decide (0 ≤ ((IntKind.i64.wrap (n18 - 1)) : Int))) (
 oif (Nat.blt (((IntKind.i64.wrap (n18 - 1)) : Int).toNat) ((l19.set ((n18 : Int).toNat) x20).length)) (
 obind ((l19.set ((n18 : Int).toNat) x20)[((IntKind.i64.wrap (n18 - 1)) : Int).toNat]?) fun x23 =>
 ag17 ((IntKind.i64.wrap (n18 - 1)), ((l19.set ((n18 : Int).toNat) x20).set (((IntKind.i64.wrap (n18 - 1)) : Int).toNat) x21))) none) none) none) none) none) none) none) none) (
 kx100_3_0 l19)
noncomputable def l100_3 (d : Nat) (n16 : Int) (kx100_3_0 : (List (Int × Int × Int × Int × Int × Int × Int)) → Option (List (Int × Int × Int × Int × Int × Int × Int))) (ag17 : (Int × (List (Int × Int × Int × Int × Int × Int × Int))) → Option (List (Int × Int × Int × Int × Int × Int × Int))) (s : (Int × (List (Int × Int × Int × Int × Int × Int × Int)))) : Option (List (Int × Int × Int × Int × Int × Int × Int)) := l100_3_b d n16 kx100_3_0 ag17 s.1 s.2
noncomputable def j100_3 (d : Nat) (l1 : List (Int × Int × Int × Int × Int × Int × Int)) (n3 : Int) (n16 : Int) : Option (List (Int × Int × Int × Int × Int × Int × Int)) :=
 iterP (l100_3 d n16 (j100_2 d)) fuelN (n3, l1)
noncomputable def l100_2_b (d : Nat) (l1 : List (Int × Int × Int × Int × Int × Int × Int)) (n3 : Int) (kx100_2_0 : Int → Option (List (Int × Int × Int × Int × Int × Int × Int))) (ag15 : (Int × Int) → Option (List (Int × Int × Int × Int × Int × Int × Int))) (n16 : Int) (n17 : Int) : Option (List (Int × Int × Int × Int × Int × Int × Int)) :=
 oif (decide ((n16 : Int) < n17)) (
 oif (decide (0 ≤ (n3 : Int))) (
 oif (Nat.blt ((n3 : Int).toNat) l1.length) (
 obind (l1[(n3 : Int).toNat]?) fun x18 =>
 oif (decide (0 ≤ ((IntKind.i64.wrap ((IntKind.u64.wrap (IntKind.i64.wrap (n16 + n17))).fdiv (2 ^ (min (1 : Int).toNat IntKind.u64.bits)))) : Int))) (
 oif (Nat.blt (((IntKind.i64.wrap ((IntKind.u64.wrap (IntKind.i64.wrap (n16 + n17))).fdiv (2 ^ (min (1 : Int).toNat IntKind.u64.bits)))) : Int).toNat) l1.length) (
 obind (l1[((IntKind.i64.wrap ((IntKind.u64.wrap (IntKind.i64.wrap (n16 + n17))).fdiv (2 ^ (min (1 : Int).toNat IntKind.u64.bits)))) : Int).toNat]?) fun x19 =>
 obind (g60 d x18.1 x19.1) fun r20 =>
 oif (!(decide ((r20 : Int) < 0))) (
 ag15 ((IntKind.i64.wrap ((IntKind.i64.wrap ((IntKind.u64.wrap (IntKind.i64.wrap (n16 + n17))).fdiv (2 ^ (min (1 : Int).toNat IntKind.u64.bits)))) + 1)), n17)) (
 ag15 (n16, (IntKind.i64.wrap ((IntKind.u64.wrap (IntKind.i64.wrap (n16 + n17))).fdiv (2 ^ (min (1 : Int).toNat IntKind.u64.bits))))))) none) none) none) none) (
 kx100_2_0 n16)
noncomputable def l100_2 (d : Nat) (l1 : List (Int × Int × Int × Int × Int × Int × Int)) (n3 : Int) (kx100_2_0 : Int → Option (List (Int × Int × Int × Int × Int × Int × Int))) (ag15 : (Int × Int) → Option (List (Int × Int × Int × Int × Int × Int × Int))) (s : (Int × Int)) : Option (List (Int × Int × Int × Int × Int × Int × Int)) := l100_2_b d l1 n3 kx100_2_0 ag15 s.1 s.2
noncomputable def j100_4 (d : Nat) (n2 : Int) (n3 : Int) (n4 : Int) (n27 : Int) (l31 : List (Int × Int × Int × Int × Int × Int × Int)) (b32 : Bool) : Option (List (Int × Int × Int × Int × Int × Int × Int)) :=
 oif b32 (
 obind (g100 (d + 1) l31 (IntKind.i64.wrap ((IntKind.u64.wrap (IntKind.i64.wrap (n2 + n4))).fdiv (2 ^ (min (1 : Int).toNat IntKind.u64.bits)))) (IntKind.i64.wrap ((IntKind.i64.wrap ((IntKind.i64.wrap ((IntKind.u64.wrap (IntKind.i64.wrap (n2 + n4))).fdiv (2 ^ (min (1 : Int).toNat IntKind.u64.bits)))) + n3)) - n27)) n4 false) fun r33 =>
 some r33) (
 some l31)
noncomputable def j100_5 (d : Nat) (n2 : Int) (n3 : Int) (n4 : Int) (n27 : Int) (l31 : List (Int × Int × Int × Int × Int × Int × Int)) : Option (List (Int × Int × Int × Int × Int × Int × Int)) :=
 oif (decide (((IntKind.i64.wrap ((IntKind.u64.wrap (IntKind.i64.wrap (n2 + n4))).fdiv (2 ^ (min (1 : Int).toNat IntKind.u64.bits)))) : Int) < (IntKind.i64.wrap ((IntKind.i64.wrap ((IntKind.i64.wrap ((IntKind.u64.wrap (IntKind.i64.wrap (n2 + n4))).fdiv (2 ^ (min (1 : Int).toNat IntKind.u64.bits)))) + n3)) - n27)))) (
 j100_4 d n2 n3 n4 n27 l31 (decide (((IntKind.i64.wrap ((IntKind.i64.wrap ((IntKind.i64.wrap ((IntKind.u64.wrap (IntKind.i64.wrap (n2 + n4))).fdiv (2 ^ (min (1 : Int).toNat IntKind.u64.bits)))) + n3)) - n27)) : Int) < n4))) (
 j100_4 d n2 n3 n4 n27 l31 false)
noncomputable def j100_6 (d : Nat) (n2 : Int) (n3 : Int) (n4 : Int) (n27 : Int) (l29 : List (Int × Int × Int × Int × Int × Int × Int)) (b30 : Bool) : Option (List (Int × Int × Int × Int × Int × Int × Int)) :=
 oif b30 (
 obind (g100 (d + 1) l29 n2 n27 (IntKind.i64.wrap ((IntKind.u64.wrap (IntKind.i64.wrap (n2 + n4))).fdiv (2 ^ (min (1 : Int).toNat IntKind.u64.bits)))) false) fun r31 =>
 j100_5 d n2 n3 n4 n27 r31) (
 j100_5 d n2 n3 n4 n27 l29)
noncomputable def j100_7 (d : Nat) (n2 : Int) (n3 : Int) (n4 : Int) (n27 : Int) (l29 : List (Int × Int × Int × Int × Int × Int × Int)) : Option (List (Int × Int × Int × Int × Int × Int × Int)) :=
 oif (decide ((n2 : Int) < n27)) (
 j100_6 d n2 n3 n4 n27 l29 (decide ((n27 : Int) < (IntKind.i64.wrap ((IntKind.u64.wrap (IntKind.i64.wrap (n2 + n4))).fdiv (2 ^ (min (1 : Int).toNat IntKind.u64.bits))))))) (
 j100_6 d n2 n3 n4 n27 l29 false)
noncomputable def j100_8 (d : Nat) (l1 : List (Int × Int × Int × Int × Int × Int × Int)) (n2 : Int) (n3 : Int) (n4 : Int) (n27 : Int) (b28 : Bool) : Option (List (Int × Int × Int × Int × Int × Int × Int)) :=
 oif b28 (
 obind (g106 (d + 1) l1 n27 n3 (IntKind.i64.wrap ((IntKind.i64.wrap ((IntKind.i64.wrap ((IntKind.u64.wrap (IntKind.i64.wrap (n2 + n4))).fdiv (2 ^ (min (1 : Int).toNat IntKind.u64.bits)))) + n3)) - n27)) false) fun r29 =>
 j100_7 d n2 n3 n4 n27 r29) (
 j100_7 d n2 n3 n4 n27 l1)
noncomputable def j100_9 (d : Nat) (l1 : List (Int × Int × Int × Int × Int × Int × Int)) (n2 : Int) (n3 : Int) (n4 : Int) (n27 : Int) : Option (List (Int × Int × Int × Int × Int × Int × Int)) :=
 oif (decide ((n27 : Int) < n3)) (
 j100_8 d l1 n2 n3 n4 n27 (decide ((n3 : Int) < (IntKind.i64.wrap ((IntKind.i64.wrap ((IntKind.i64.wrap ((IntKind.u64.wrap (IntKind.i64.wrap (n2 + n4))).fdiv (2 ^ (min (1 : Int).toNat IntKind.u64.bits)))) + n3)) - n27))))) (
 j100_8 d l1 n2 n3 n4 n27 false)
noncomputable def l100_4_b (d : Nat) (l1 : List (Int × Int × Int × Int × Int × Int × Int)) (n2 : Int) (n3 : Int) (n4 : Int) (kx100_4_0 : Int → Option (List (Int × Int × Int × Int × Int × Int × Int))) (ag26 : (Int × Int) → Option (List (Int × Int × Int × Int × Int × Int × Int))) (n27 : Int) (n28 : Int) : Option (List (Int × Int × Int × Int × Int × Int × Int)) :=
 oif (decide ((n27 : Int) < n28)) (
 oif (decide (0 ≤ ((IntKind.i64.wrap ((IntKind.i64.wrap ((IntKind.i64.wrap ((IntKind.i64.wrap ((IntKind.u64.wrap (IntKind.i64.wrap (n2 + n4))).fdiv (2 ^ (min (1 : Int).toNat IntKind.u64.bits)))) + n3)) - 1)) - (IntKind.i64.wrap ((IntKind.u64.wrap (IntKind.i64.wrap (n27 + n28))).fdiv (2 ^ (min (1 : Int).toNat IntKind.u64.bits)))))) : Int))) (
 oif (Nat.blt (((IntKind.i64.wrap ((IntKind.i64.wrap ((IntKind.i64.wrap ((IntKind.i64.wrap ((IntKind.u64.wrap (IntKind.i64.wrap (n2 + n4))).fdiv (2 ^ (min (1 : Int).toNat IntKind.u64.bits)))) + n3)) - 1)) - (IntKind.i64.wrap ((IntKind.u64.wrap (IntKind.i64.wrap (n27 + n28))).fdiv (2 ^ (min (1 : Int).toNat IntKind.u64.bits)))))) : Int).toNat) l1.length) (
 obind (l1[((IntKind.i64.wrap ((IntKind.i64.wrap ((IntKind.i64.wrap ((IntKind.i64.wrap ((IntKind.u64.wrap (IntKind.i64.wrap (n2 + n4))).fdiv (2 ^ (min (1 : Int).toNat IntKind.u64.bits)))) + n3)) - 1)) - (IntKind.i64.wrap ((IntKind.u64.wrap (IntKind.i64.wrap (n27 + n28))).fdiv (2 ^ (min (1 : Int).toNat IntKind.u64.bits)))))) : Int).toNat]?) fun x29 =>
 oif (decide (0 ≤ ((IntKind.i64.wrap ((IntKind.u64.wrap (IntKind.i64.wrap (n27 + n28))).fdiv (2 ^ (min (1 : Int).toNat IntKind.u64.bits)))) : Int))) (
 oif (Nat.blt (((IntKind.i64.wrap ((IntKind.u64.wrap (IntKind.i64.wrap (n27 + n28))).fdiv (2 ^ (min (1 : Int).toNat IntKind.u64.bits)))) : Int).toNat) l1.length) (
 obind (l1[((IntKind.i64.wrap ((IntKind.u64.wrap (IntKind.i64.wrap (n27 + n28))).fdiv (2 ^ (min (1 : Int).toNat IntKind.u64.bits)))) : Int).toNat]?) fun x30 =>
 obind (g60 d x29.1 x30.1) fun r31 =>
 oif (!(decide ((r31 : Int) < 0))) (
 ag26 ((IntKind.i64.wrap ((IntKind.i64.wrap ((IntKind.u64.wrap (IntKind.i64.wrap (n27 + n28))).fdiv (2 ^ (min (1 : Int).toNat IntKind.u64.bits)))) + 1)), n28)) (
 ag26 (n27, (IntKind.i64.wrap ((IntKind.u64.wrap (IntKind.i64.wrap (n27 + n28))).fdiv (2 ^ (min (1 : Int).toNat IntKind.u64.bits))))))) none) none) none) none) (
 kx100_4_0 n27)
noncomputable def l100_4 (d : Nat) (l1 : List (Int × Int × Int × Int × Int × Int × Int)) (n2 : Int) (n3 : Int) (n4 : Int) (kx100_4_0 : Int → Option (List (Int × Int × Int × Int × Int × Int × Int))) (ag26 : (Int × Int) → Option (List (Int × Int × Int × Int × Int × Int × Int))) (s : (Int × Int)) : Option (List (Int × Int × Int × Int × Int × Int × Int)) := l100_4_b d l1 n2 n3 n4 kx100_4_0 ag26 s.1 s.2
noncomputable def j100_10 (d : Nat) (l1 : List (Int × Int × Int × Int × Int × Int × Int)) (n2 : Int) (n3 : Int) (n4 : Int) (n24 : Int) (n25 : Int) : Option (List (Int × Int × Int × Int × Int × Int × Int)) :=
 iterP (l100_4 d l1 n2 n3 n4 (j100_9 d l1 n2 n3 n4)) fuelN (n24, n25)
theorem e100 (d : Nat) (l1 : List (Int × Int × Int × Int × Int × Int × Int)) (n2 : Int) (n3 : Int) (n4 : Int) (b5 : Bool) : g100 (d + 2) l1 n2 n3 n4 b5 =
 oif (((IntKind.i64.wrap (n3 - n2)) : Int) == 1) (
 iterP (l100_0 d l1 n2 (j100_1 d l1 n2)) fuelN (n3, n4)) (
 oif (((IntKind.i64.wrap (n4 - n3)) : Int) == 1) (
 iterP (l100_2 d l1 n3 (j100_3 d l1 n3)) fuelN (n2, n3)) (
 oif (decide ((n3 : Int) > (IntKind.i64.wrap ((IntKind.u64.wrap (IntKind.i64.wrap (n2 + n4))).fdiv (2 ^ (min (1 : Int).toNat IntKind.u64.bits)))))) (
 j100_10 d l1 n2 n3 n4 (IntKind.i64.wrap ((IntKind.i64.wrap ((IntKind.i64.wrap ((IntKind.u64.wrap (IntKind.i64.wrap (n2 + n4))).fdiv (2 ^ (min (1 : Int).toNat IntKind.u64.bits)))) + n3)) - n4)) (IntKind.i64.wrap ((IntKind.u64.wrap (IntKind.i64.wrap (n2 + n4))).fdiv (2 ^ (min (1 : Int).toNat IntKind.u64.bits))))) (
 j100_10 d l1 n2 n3 n4 n2 n3))) := by kernel_rfl

noncomputable def j88_0 (d : Nat)  (l10 : List (Int × Int × Int × Int × Int × Int × Int)) : Option (List (Int × Int × Int × Int × Int × Int × Int)) :=
 some l10
noncomputable def j88_1 (d : Nat) (n2 : Int) (ag9 : (Int × Int × Int × (List (Int × Int × Int × Int × Int × Int × Int))) → Option (List (Int × Int × Int × Int × Int × Int × Int))) (n10 : Int) (n15 : Int) (n16 : Int) (n17 : Int) (l18 : List (Int × Int × Int × Int × Int × Int × Int)) : Option (List (Int × Int × Int × Int × Int × Int × Int)) :=
 oif (decide (((IntKind.i64.wrap (n15 + n10)) : Int) < n2)) (
 obind (g100 d l18 n15 (IntKind.i64.wrap (n15 + n10)) n2 false) fun r19 =>
 ag9 ((IntKind.i64.wrap (n10 * 2)), n15, n16, r19)) (
 ag9 ((IntKind.i64.wrap (n10 * 2)), n15, n16, l18))
noncomputable def l88_2_b (d : Nat) (n2 : Int) (n10 : Int) (kx88_2_0 : Int → Int → Int → (List (Int × Int × Int × Int × Int × Int × Int)) → Option (List (Int × Int × Int × Int × Int × Int × Int))) (ag14 : (Int × Int × (List (Int × Int × Int × Int × Int × Int × Int))) → Option (List (Int × Int × Int × Int × Int × Int × Int))) (n15 : Int) (n16 : Int) (l17 : List (Int × Int × Int × Int × Int × Int × Int)) : Option (List (Int × Int × Int × Int × Int × Int × Int)) :=
 oif (decide ((n16 : Int) ≤ n2)) (
 obind (g100 d l17 n15 (IntKind.i64.wrap (n15 + n10)) n16 false) fun r18 =>
 ag14 (n16, (IntKind.i64.wrap (n16 + (IntKind.i64.wrap ((2 : Int) * n10)))), r18)) (
 kx88_2_0 n15 n16 n16 l17)
noncomputable def l88_2 (d : Nat) (n2 : Int) (n10 : Int) (kx88_2_0 : Int → Int → Int → (List (Int × Int × Int × Int × Int × Int × Int)) → Option (List (Int × Int × Int × Int × Int × Int × Int))) (ag14 : (Int × Int × (List (Int × Int × Int × Int × Int × Int × Int))) → Option (List (Int × Int × Int × Int × Int × Int × Int))) (s : (Int × Int × (List (Int × Int × Int × Int × Int × Int × Int)))) : Option (List (Int × Int × Int × Int × Int × Int × Int)) := l88_2_b d n2 n10 kx88_2_0 ag14 s.1 s.2.1 s.2.2
noncomputable def l88_1_b (d : Nat) (n2 : Int) (kx88_1_0 : (List (Int × Int × Int × Int × Int × Int × Int)) → Option (List (Int × Int × Int × Int × Int × Int × Int))) (ag9 : (Int × Int × Int × (List (Int × Int × Int × Int × Int × Int × Int))) → Option (List (Int × Int × Int × Int × Int × Int × Int))) (n10 : Int) (n11 : Int) (n12 : Int) (l13 : List (Int × Int × Int × Int × Int × Int × Int)) : Option (List (Int × Int × Int × Int × Int × Int × Int)) :=
 oif (decide ((n10 : Int) < n2)) (
 iterP (l88_2 d n2 n10 (j88_1 d n2 ag9 n10)) fuelN (0, (IntKind.i64.wrap ((2 : Int) * n10)), l13)) (
 kx88_1_0 l13)
noncomputable def l88_1 (d : Nat) (n2 : Int) (kx88_1_0 : (List (Int × Int × Int × Int × Int × Int × Int)) → Option (List (Int × Int × Int × Int × Int × Int × Int))) (ag9 : (Int × Int × Int × (List (Int × Int × Int × Int × Int × Int × Int))) → Option (List (Int × Int × Int × Int × Int × Int × Int))) (s : (Int × Int × Int × (List (Int × Int × Int × Int × Int × Int × Int)))) : Option (List (Int × Int × Int × Int × Int × Int × Int)) := l88_1_b d n2 kx88_1_0 ag9 s.1 s.2.1 s.2.2.1 s.2.2.2
noncomputable def j88_2 (d : Nat) (n2 : Int) (n5 : Int) (n6 : Int) (l7 : List (Int × Int × Int × Int × Int × Int × Int)) : Option (List (Int × Int × Int × Int × Int × Int × Int)) :=
 obind (g99 d l7 n5 n2 false) fun r8 =>
 iterP (l88_1 d n2 (j88_0 d)) fuelN (20, n5, n6, r8)
noncomputable def l88_0_b (d : Nat) (n2 : Int) (kx88_0_0 : Int → Int → (List (Int × Int × Int × Int × Int × Int × Int)) → Option (List (Int × Int × Int × Int × Int × Int × Int))) (ag4 : (Int × Int × (List (Int × Int × Int × Int × Int × Int × Int))) → Option (List (Int × Int × Int × Int × Int × Int × Int))) (n5 : Int) (n6 : Int) (l7 : List (Int × Int × Int × Int × Int × Int × Int)) : Option (List (Int × Int × Int × Int × Int × Int × Int)) :=
 oif (decide ((n6 : Int) ≤ n2)) (
 obind (g99 d l7 n5 n6 false) fun r8 =>
 ag4 (n6, (IntKind.i64.wrap (n6 + 20)), r8)) (
 kx88_0_0 n5 n6 l7)
noncomputable def l88_0 (d : Nat) (n2 : Int) (kx88_0_0 : Int → Int → (List (Int × Int × Int × Int × Int × Int × Int)) → Option (List (Int × Int × Int × Int × Int × Int × Int))) (ag4 : (Int × Int × (List (Int × Int × Int × Int × Int × Int × Int))) → Option (List (Int × Int × Int × Int × Int × Int × Int))) (s : (Int × Int × (List (Int × Int × Int × Int × Int × Int × Int)))) : Option (List (Int × Int × Int × Int × Int × Int × Int)) := l88_0_b d n2 kx88_0_0 ag4 s.1 s.2.1 s.2.2
theorem e88 (d : Nat) (l1 : List (Int × Int × Int × Int × Int × Int × Int)) (n2 : Int) (b3 : Bool) : g88 (d + 1) l1 n2 b3 =
 iterP (l88_0 d n2 (j88_2 d n2)) fuelN (0, 20, l1) := by kernel_rfl

noncomputable def j20_0 (d : Nat)  (l11 : List (Int × Int × Int × Int × Int × Int × Int)) : Option ((List (Int × Int × Int × Int × Int × Int × Int)) × Bool) :=
 some (l11, true)
noncomputable def l20_1_b (d : Nat) (r9 : List (Int × Int × Int × Int × Int × Int × Int)) (kx20_1_0 : (List (Int × Int × Int × Int × Int × Int × Int)) → Option ((List (Int × Int × Int × Int × Int × Int × Int)) × Bool)) (ag10 : (Int × (List (Int × Int × Int × Int × Int × Int × Int))) → Option ((List (Int × Int × Int × Int × Int × Int × Int)) × Bool)) (n11 : Int) (l12 : List (Int × Int × Int × Int × Int × Int × Int)) : Option ((List (Int × Int × Int × Int × Int × Int × Int)) × Bool) :=
 oif (decide ((n11 : Int) < ((r9.length : Nat) : Int))) (
 oif (decide (0 ≤ (n11 : Int))) (
 oif (Nat.blt ((n11 : Int).toNat) l12.length) (
 obind (l12[(n11 : Int).toNat]?) fun x13 =>
 ag10 ((IntKind.i64.wrap (n11 + 1)), (l12.set ((n11 : Int).toNat) (x13.1, (IntKind.i64.wrap (n11 + 1)), x13.2.2)))) none) none) (
 kx20_1_0 l12)
noncomputable def l20_1 (d : Nat) (r9 : List (Int × Int × Int × Int × Int × Int × Int)) (kx20_1_0 : (List (Int × Int × Int × Int × Int × Int × Int)) → Option ((List (Int × Int × Int × Int × Int × Int × Int)) × Bool)) (ag10 : (Int × (List (Int × Int × Int × Int × Int × Int × Int))) → Option ((List (Int × Int × Int × Int × Int × Int × Int)) × Bool)) (s : (Int × (List (Int × Int × Int × Int × Int × Int × Int)))) : Option ((List (Int × Int × Int × Int × Int × Int × Int)) × Bool) := l20_1_b d r9 kx20_1_0 ag10 s.1 s.2
noncomputable def j20_1 (d : Nat)  (b5 : Bool) (l6 : List (Int × Int × Int × Int × Int × Int × Int)) (l7 : List (Int × Int × Int × Int × Int × Int × Int)) : Option ((List (Int × Int × Int × Int × Int × Int × Int)) × Bool) :=
 obind (g88 d l7 ((l7.length : Nat) : Int) false) fun r8 =>
 oif (decide (0 ≤ ((if (60 : Int) < ((r8.length : Nat) : Int) then 60 else ((r8.length : Nat) : Int)) : Int))) (
 oif (Nat.ble (((if (60 : Int) < ((r8.length : Nat) : Int) then 60 else ((r8.length : Nat) : Int)) : Int).toNat) r8.length) (
 obind (g61 (d + 1) (r8.take (((if (60 : Int) < ((r8.length : Nat) : Int) then 60 else ((r8.length : Nat) : Int)) : Int).toNat))) fun r9 =>
 iterP (l20_1 d r9 (j20_0 d)) fuelN (0, r9)) none) none
noncomputable def l20_0_b (d : Nat) (l1 : List (Int × Int × Int × Int × Int × Int × Int × Int × Int)) (n2 : Int) (kx20_0_0 : Bool → (List (Int × Int × Int × Int × Int × Int × Int)) → (List (Int × Int × Int × Int × Int × Int × Int)) → Option ((List (Int × Int × Int × Int × Int × Int × Int)) × Bool)) (ag4 : ((List (Int × Int × Int × Int × Int × Int × Int)) × Bool × (List (Int × Int × Int × Int × Int × Int × Int)) × Int) → Option ((List (Int × Int × Int × Int × Int × Int × Int)) × Bool)) (l5 : List (Int × Int × Int × Int × Int × Int × Int)) (b6 : Bool) (l7 : List (Int × Int × Int × Int × Int × Int × Int)) (n8 : Int) : Option ((List (Int × Int × Int × Int × Int × Int × Int)) × Bool) :=
 oif (decide ((n8 : Int) < ((l1.length : Nat) : Int))) (
 oif (decide (0 ≤ (n8 : Int))) (
 obind (l1[(n8 : Int).toNat]?) fun x9 =>
 obind (g56 (d + 1) x9) fun r10 =>
 oif (!r10) (
 some ([], false)) (
 obind (g57 (d + 1) x9 n2) fun r11 =>
 oif (Nat.ble ((l7.length + r11.length) * 56) roomMax) (
 ag4 (l5, b6, (l7 ++ r11), (IntKind.i64.wrap (n8 + 1)))) none)) none) (
 kx20_0_0 b6 l5 l7)
noncomputable def l20_0 (d : Nat) (l1 : List (Int × Int × Int × Int × Int × Int × Int × Int × Int)) (n2 : Int) (kx20_0_0 : Bool → (List (Int × Int × Int × Int × Int × Int × Int)) → (List (Int × Int × Int × Int × Int × Int × Int)) → Option ((List (Int × Int × Int × Int × Int × Int × Int)) × Bool)) (ag4 : ((List (Int × Int × Int × Int × Int × Int × Int)) × Bool × (List (Int × Int × Int × Int × Int × Int × Int)) × Int) → Option ((List (Int × Int × Int × Int × Int × Int × Int)) × Bool)) (s : ((List (Int × Int × Int × Int × Int × Int × Int)) × Bool × (List (Int × Int × Int × Int × Int × Int × Int)) × Int)) : Option ((List (Int × Int × Int × Int × Int × Int × Int)) × Bool) := l20_0_b d l1 n2 kx20_0_0 ag4 s.1 s.2.1 s.2.2.1 s.2.2.2
noncomputable def j20_2 (d : Nat) (l1 : List (Int × Int × Int × Int × Int × Int × Int × Int × Int)) (n2 : Int) (b3 : Bool) : Option ((List (Int × Int × Int × Int × Int × Int × Int)) × Bool) :=
 oif b3 (
 some ([], false)) (
 iterP (l20_0 d l1 n2 (j20_1 d)) fuelN ([], false, ([] : List (Int × Int × Int × Int × Int × Int × Int)), 0))
theorem e20 (d : Nat) (l1 : List (Int × Int × Int × Int × Int × Int × Int × Int × Int)) (n2 : Int) : g20 (d + 2) l1 n2 =
 oif (decide ((((l1.length : Nat) : Int) : Int) > 6)) (
 j20_2 d l1 n2 true) (
 obind (g55 (d + 1) n2) fun r3 =>
 j20_2 d l1 n2 (!r3)) := by kernel_rfl

theorem e69 (d : Nat) (n1 : Int) (n2 : Int) (n3 : Int) : g69 (d + 1) n1 n2 n3 =
 oif (decide ((n1 : Int) ≥ n2)) (
 some (decide ((n1 : Int) ≤ n3))) (
 some false) := by kernel_rfl

noncomputable def j89_0 (d : Nat)  (b5 : Bool) : Option Bool :=
 some true
noncomputable def l89_0_b (d : Nat) (l1 : List Int) (n2 : Int) (n3 : Int) (kx89_0_0 : Bool → Option Bool) (ag4 : (Bool × Int) → Option Bool) (b5 : Bool) (n6 : Int) : Option Bool :=
 oif (decide ((n6 : Int) < ((l1.length : Nat) : Int))) (
 oif (decide (0 ≤ (n6 : Int))) (
 obind (l1[(n6 : Int).toNat]?) fun n7 =>
 obind (g69 d n7 n2 n3) fun r8 =>
 oif (!r8) (
 some false) (
 ag4 (b5, (IntKind.i64.wrap (n6 + 1))))) none) (
 kx89_0_0 b5)
noncomputable def l89_0 (d : Nat) (l1 : List Int) (n2 : Int) (n3 : Int) (kx89_0_0 : Bool → Option Bool) (ag4 : (Bool × Int) → Option Bool) (s : (Bool × Int)) : Option Bool := l89_0_b d l1 n2 n3 kx89_0_0 ag4 s.1 s.2
theorem e89 (d : Nat) (l1 : List Int) (n2 : Int) (n3 : Int) : g89 (d + 1) l1 n2 n3 =
 iterP (l89_0 d l1 n2 n3 (j89_0 d)) fuelN (false, 0) := by kernel_rfl

theorem e62 (d : Nat) (x1 : (Int × Int × Int × Int × Int × Int × Int × Int × Int)) : g62 (d + 1) x1 =
 obind (g69 d x1.1 0 1000000000) fun r2 =>
 oif r2 (
 obind (g89 d [x1.2.1, x1.2.2.1, x1.2.2.2.1, x1.2.2.2.2.1] 0 65535) fun r3 =>
 oif r3 (
 obind (g69 d x1.2.2.2.2.2.1 0 10000) fun r4 =>
 oif r4 (
 obind (g69 d x1.2.2.2.2.2.2.1 1 500) fun r5 =>
 oif r5 (
 obind (g69 d x1.2.2.2.2.2.2.2.1 1 10) fun r6 =>
 oif r6 (
 obind (g69 d x1.2.2.2.2.2.2.2.2 1 1500) fun r7 =>
 some r7) (
 some false)) (
 some false)) (
 some false)) (
 some false)) (
 some false) := by kernel_rfl

theorem e63 (d : Nat) (n1 : Int) : g63 (d + 1) n1 =
 obind (g69 d n1 0 100000) fun r2 =>
 some r2 := by kernel_rfl

theorem e108 (d : Nat) (l1 : List Int) : g108 (d + 1) l1 =
 oif (Nat.ble ((([] : List Int).length + l1.length) * 8) roomMax) (
 some (([] : List Int) ++ l1)) none := by kernel_rfl

noncomputable def j107_0 (d : Nat)  (n4 : Int) : Option Int :=
 some n4
noncomputable def l107_0_b (d : Nat) (r2 : List Int) (kx107_0_0 : Int → Option Int) (ag3 : (Int × Int) → Option Int) (n4 : Int) (n5 : Int) : Option Int :=
 oif (decide ((n5 : Int) < (((r2 ++ [3, 1]).length : Nat) : Int))) (
 oif (decide (0 ≤ (n5 : Int))) (
 oif (Nat.blt ((n5 : Int).toNat) ((r2 ++ [3, 1]).length)) (
 obind ((r2 ++ [3, 1])[(n5 : Int).toNat]?) fun n6 =>
 ag3 (((IntKind.i64.wrap (((IntKind.i64.wrap ((IntKind.i64.wrap ((IntKind.i64.wrap ((31 : Int) * n4)) + n6)) + 7)).tmod 1000003) * (IntKind.i64.wrap ((IntKind.i64.wrap (((IntKind.i64.wrap ((IntKind.i64.wrap ((IntKind.i64.wrap ((31 : Int) * n4)) + n6)) + 7)).tmod 1000003).tdiv 32)) + 3)))).tmod 1000003), (IntKind.i64.wrap (n5 + 1)))) none) none) (
 kx107_0_0 n4)
noncomputable def l107_0 (d : Nat) (r2 : List Int) (kx107_0_0 : Int → Option Int) (ag3 : (Int × Int) → Option Int) (s : (Int × Int)) : Option Int := l107_0_b d r2 kx107_0_0 ag3 s.1 s.2
theorem e107 (d : Nat) (l1 : List Int) : g107 (d + 1) l1 =
 obind (g108 d l1) fun r2 =>
 oif (Nat.ble ((r2.length + [3, 1].length) * 8) roomMax) (
 iterP (l107_0 d r2 (j107_0 d)) fuelN ((IntKind.i64.wrap ((7919 : Int) + ((l1.length : Nat) : Int))), 0)) none := by kernel_rfl

theorem e104 (d : Nat) (l1 : List Int) (n2 : Int) : g104 (d + 1) l1 n2 =
 obind (g108 d l1) fun r3 =>
 oif (Nat.ble ((r3.length + [n2].length) * 8) roomMax) (
 obind (g107 d (r3 ++ [n2])) fun r4 =>
 oif ((n2 : Int) == 0) none (
 some (r4.tmod n2))) none := by kernel_rfl

theorem e103 (d : Nat) (x1 : (Int × Int × Int × Int × Int × Int × Int × Int × Int)) (n2 : Int) : g103 (d + 1) x1 n2 =
 obind (g104 d [x1.1, n2, 1] x1.2.2.2.2.2.2.1) fun r3 =>
 some (IntKind.i64.wrap ((1 : Int) + r3)) := by kernel_rfl

noncomputable def j94_0 (d : Nat) (x1 : (Int × Int × Int × Int × Int × Int × Int × Int × Int)) (n2 : Int) (n4 : Int) (n5 : Int) (n6 : Int) (n7 : Int) (n8 : Int) (n9 : Int) (n10 : Int) : Option (Int × Int × Int × Int × Int × Int × Int) :=
 obind (g104 d [x1.1, n2, 2] x1.2.2.2.2.2.2.2.2) fun r11 =>
 some (n4, (IntKind.i64.wrap (n2 + 1)), x1.2.1, x1.2.2.1, x1.2.2.2.1, x1.2.2.2.2.1, (IntKind.i64.wrap ((1 : Int) + r11)))
noncomputable def l94_0_b (d : Nat) (x1 : (Int × Int × Int × Int × Int × Int × Int × Int × Int)) (n2 : Int) (kx94_0_0 : Int → Int → Int → Int → Int → Int → Int → Option (Int × Int × Int × Int × Int × Int × Int)) (ag3 : (Int × (Int × Int × Int × Int × Int × Int × Int)) → Option (Int × Int × Int × Int × Int × Int × Int)) (n4 : Int) (x5 : (Int × Int × Int × Int × Int × Int × Int)) : Option (Int × Int × Int × Int × Int × Int × Int) :=
 oif ((x1.2.2.2.2.2.2.2.1 : Int) == 0) none (
 oif (decide ((n4 : Int) ≤ (IntKind.i64.wrap (n2.tdiv x1.2.2.2.2.2.2.2.1)))) (
 obind (g103 d x1 n4) fun r6 =>
 ag3 ((IntKind.i64.wrap (n4 + 1)), ((IntKind.i64.wrap (x5.1 + r6)), x5.2))) (
 kx94_0_0 x5.1 x5.2.1 x5.2.2.1 x5.2.2.2.1 x5.2.2.2.2.1 x5.2.2.2.2.2.1 x5.2.2.2.2.2.2))
noncomputable def l94_0 (d : Nat) (x1 : (Int × Int × Int × Int × Int × Int × Int × Int × Int)) (n2 : Int) (kx94_0_0 : Int → Int → Int → Int → Int → Int → Int → Option (Int × Int × Int × Int × Int × Int × Int)) (ag3 : (Int × (Int × Int × Int × Int × Int × Int × Int)) → Option (Int × Int × Int × Int × Int × Int × Int)) (s : (Int × (Int × Int × Int × Int × Int × Int × Int))) : Option (Int × Int × Int × Int × Int × Int × Int) := l94_0_b d x1 n2 kx94_0_0 ag3 s.1 s.2
theorem e94 (d : Nat) (x1 : (Int × Int × Int × Int × Int × Int × Int × Int × Int)) (n2 : Int) : g94 (d + 1) x1 n2 =
 iterP (l94_0 d x1 n2 (j94_0 d x1 n2)) fuelN (1, (x1.2.2.2.2.2.1, 0, 0, 0, 0, 0, 0)) := by kernel_rfl

noncomputable def j71_0 (d : Nat)  (l4 : List (Int × Int × Int × Int × Int × Int × Int)) : Option (List (Int × Int × Int × Int × Int × Int × Int)) :=
 some l4
noncomputable def l71_0_b (d : Nat) (x1 : (Int × Int × Int × Int × Int × Int × Int × Int × Int)) (n2 : Int) (kx71_0_0 : (List (Int × Int × Int × Int × Int × Int × Int)) → Option (List (Int × Int × Int × Int × Int × Int × Int))) (ag3 : ((List (Int × Int × Int × Int × Int × Int × Int)) × Int) → Option (List (Int × Int × Int × Int × Int × Int × Int))) (l4 : List (Int × Int × Int × Int × Int × Int × Int)) (n5 : Int) : Option (List (Int × Int × Int × Int × Int × Int × Int)) :=
 oif (decide ((n5 : Int) < 60)) (
 obind (g94 d x1 n5) fun r6 =>
 oif (decide ((r6.1 : Int) > n2)) (
 kx71_0_0 l4) (
 oif (Nat.ble ((l4.length + [r6].length) * 56) roomMax) (
 ag3 ((l4 ++ [r6]), (IntKind.i64.wrap (n5 + 1)))) none)) (
 kx71_0_0 l4)
noncomputable def l71_0 (d : Nat) (x1 : (Int × Int × Int × Int × Int × Int × Int × Int × Int)) (n2 : Int) (kx71_0_0 : (List (Int × Int × Int × Int × Int × Int × Int)) → Option (List (Int × Int × Int × Int × Int × Int × Int))) (ag3 : ((List (Int × Int × Int × Int × Int × Int × Int)) × Int) → Option (List (Int × Int × Int × Int × Int × Int × Int))) (s : ((List (Int × Int × Int × Int × Int × Int × Int)) × Int)) : Option (List (Int × Int × Int × Int × Int × Int × Int)) := l71_0_b d x1 n2 kx71_0_0 ag3 s.1 s.2
theorem e71 (d : Nat) (x1 : (Int × Int × Int × Int × Int × Int × Int × Int × Int)) (n2 : Int) : g71 (d + 1) x1 n2 =
 iterP (l71_0 d x1 n2 (j71_0 d)) fuelN ([], 0) := by kernel_rfl

theorem e75 (d : Nat) (n1 : Int) (n2 : Int) : g75 (d + 1) n1 n2 =
 oif (decide ((n1 : Int) < n2)) (
 some n1) (
 some n2) := by kernel_rfl

noncomputable def j64_0 (d : Nat) (r5 : Int) (l7 : List (Int × Int × Int × Int × Int × Int × Int)) : Option (List (Int × Int × Int × Int × Int × Int × Int)) :=
 some (l7.take ((r5 : Int).toNat))
noncomputable def l64_3_b (d : Nat) (r5 : Int) (kx64_3_0 : (List (Int × Int × Int × Int × Int × Int × Int)) → Option (List (Int × Int × Int × Int × Int × Int × Int))) (ag6 : (Int × (List (Int × Int × Int × Int × Int × Int × Int))) → Option (List (Int × Int × Int × Int × Int × Int × Int))) (n7 : Int) (l8 : List (Int × Int × Int × Int × Int × Int × Int)) : Option (List (Int × Int × Int × Int × Int × Int × Int)) :=
 oif (decide ((n7 : Int) < (((r5 : Int).toNat : Nat) : Int))) (
 oif (decide (0 ≤ (n7 : Int))) (
 oif (Nat.blt ((n7 : Int).toNat) ((r5 : Int).toNat)) (
 obind (l8[(n7 : Int).toNat]?) fun x9 =>
 ag6 ((IntKind.i64.wrap (n7 + 1)), (l8.set ((n7 : Int).toNat) (x9.1, (IntKind.i64.wrap (n7 + 1)), x9.2.2)))) none) none) (
 kx64_3_0 l8)
noncomputable def l64_3 (d : Nat) (r5 : Int) (kx64_3_0 : (List (Int × Int × Int × Int × Int × Int × Int)) → Option (List (Int × Int × Int × Int × Int × Int × Int))) (ag6 : (Int × (List (Int × Int × Int × Int × Int × Int × Int))) → Option (List (Int × Int × Int × Int × Int × Int × Int))) (s : (Int × (List (Int × Int × Int × Int × Int × Int × Int)))) : Option (List (Int × Int × Int × Int × Int × Int × Int)) := l64_3_b d r5 kx64_3_0 ag6 s.1 s.2
noncomputable def j64_1 (d : Nat)  (l4 : List (Int × Int × Int × Int × Int × Int × Int)) : Option (List (Int × Int × Int × Int × Int × Int × Int)) :=
 obind (g75 d ((l4.length : Nat) : Int) 60) fun r5 =>
 oif (decide (0 ≤ (r5 : Int))) (
 oif (Nat.ble ((r5 : Int).toNat) l4.length) (
 iterP (l64_3 d r5 (j64_0 d r5)) fuelN (0, l4)) none) none
noncomputable def j64_2 (d : Nat) (ag3 : ((List (Int × Int × Int × Int × Int × Int × Int)) × Int) → Option (List (Int × Int × Int × Int × Int × Int × Int))) (n5 : Int) (n9 : Int) (l10 : List (Int × Int × Int × Int × Int × Int × Int)) : Option (List (Int × Int × Int × Int × Int × Int × Int)) :=
 ag3 (l10, (IntKind.i64.wrap (n5 + 1)))
noncomputable def j64_3 (d : Nat) (ag8 : ((List (Int × Int × Int × Int × Int × Int × Int)) × Int) → Option (List (Int × Int × Int × Int × Int × Int × Int))) (l9 : List (Int × Int × Int × Int × Int × Int × Int)) (n10 : Int) (x11 : (Int × Int × Int × Int × Int × Int × Int)) (n13 : Int) (n14 : Int) (b15 : Bool) (b16 : Bool) : Option (List (Int × Int × Int × Int × Int × Int × Int)) :=
 oif (decide (0 ≤ (n13 : Int))) (
 oif (Nat.ble ((n13 : Int).toNat) l9.length) (
 oif (Nat.ble ((([] : List (Int × Int × Int × Int × Int × Int × Int)).length + (l9.take ((n13 : Int).toNat)).length) * 56) roomMax) (
 oif (Nat.ble (((([] : List (Int × Int × Int × Int × Int × Int × Int)) ++ (l9.take ((n13 : Int).toNat))).length + [x11].length) * 56) roomMax) (
 oif (decide (0 ≤ (n13 : Int))) (
 oif (Nat.ble ((n13 : Int).toNat) l9.length) (
 oif (Nat.ble ((((([] : List (Int × Int × Int × Int × Int × Int × Int)) ++ (l9.take ((n13 : Int).toNat))) ++ [x11]).length + (l9.drop (0 + (n13 : Int).toNat)).length) * 56) roomMax) (
 ag8 ((((([] : List (Int × Int × Int × Int × Int × Int × Int)) ++ (l9.take ((n13 : Int).toNat))) ++ [x11]) ++ (l9.drop (0 + (n13 : Int).toNat))), (IntKind.i64.wrap (n10 + 1)))) none) none) none) none) none) none) none
noncomputable def l64_2_b (d : Nat) (l9 : List (Int × Int × Int × Int × Int × Int × Int)) (x11 : (Int × Int × Int × Int × Int × Int × Int)) (kx64_2_0 : Int → Int → Bool → Bool → Option (List (Int × Int × Int × Int × Int × Int × Int))) (ag12 : Int → Option (List (Int × Int × Int × Int × Int × Int × Int))) (n13 : Int) : Option (List (Int × Int × Int × Int × Int × Int × Int)) :=
 oif (decide ((n13 : Int) > 0)) (
 oif (decide (0 ≤ ((IntKind.i64.wrap (n13 - 1)) : Int))) (
 oif (Nat.blt (((IntKind.i64.wrap (n13 - 1)) : Int).toNat) l9.length) (
 obind (l9[((IntKind.i64.wrap (n13 - 1)) : Int).toNat]?) fun x14 =>
 oif (decide ((x14.1 : Int) > x11.1)) (
 ag12 (IntKind.i64.wrap (n13 - 1))) (
 kx64_2_0 n13 n13 (decide ((n13 : Int) > 0)) true)) none) none) (
 kx64_2_0 n13 n13 (decide ((n13 : Int) > 0)) false)
noncomputable def l64_2 (d : Nat) (l9 : List (Int × Int × Int × Int × Int × Int × Int)) (x11 : (Int × Int × Int × Int × Int × Int × Int)) (kx64_2_0 : Int → Int → Bool → Bool → Option (List (Int × Int × Int × Int × Int × Int × Int))) (ag12 : Int → Option (List (Int × Int × Int × Int × Int × Int × Int))) (s : Int) : Option (List (Int × Int × Int × Int × Int × Int × Int)) := l64_2_b d l9 x11 kx64_2_0 ag12 s
noncomputable def l64_1_b (d : Nat) (r7 : List (Int × Int × Int × Int × Int × Int × Int)) (kx64_1_0 : Int → (List (Int × Int × Int × Int × Int × Int × Int)) → Option (List (Int × Int × Int × Int × Int × Int × Int))) (ag8 : ((List (Int × Int × Int × Int × Int × Int × Int)) × Int) → Option (List (Int × Int × Int × Int × Int × Int × Int))) (l9 : List (Int × Int × Int × Int × Int × Int × Int)) (n10 : Int) : Option (List (Int × Int × Int × Int × Int × Int × Int)) :=
 oif (decide ((n10 : Int) < ((r7.length : Nat) : Int))) (
 oif (decide (0 ≤ (n10 : Int))) (
 oif (Nat.blt ((n10 : Int).toNat) r7.length) (
 obind (r7[(n10 : Int).toNat]?) fun x11 =>
 iterP (l64_2 d l9 x11 (j64_3 d ag8 l9 n10 x11)) fuelN ((l9.length : Nat) : Int)) none) none) (
 kx64_1_0 n10 l9)
noncomputable def l64_1 (d : Nat) (r7 : List (Int × Int × Int × Int × Int × Int × Int)) (kx64_1_0 : Int → (List (Int × Int × Int × Int × Int × Int × Int)) → Option (List (Int × Int × Int × Int × Int × Int × Int))) (ag8 : ((List (Int × Int × Int × Int × Int × Int × Int)) × Int) → Option (List (Int × Int × Int × Int × Int × Int × Int))) (s : ((List (Int × Int × Int × Int × Int × Int × Int)) × Int)) : Option (List (Int × Int × Int × Int × Int × Int × Int)) := l64_1_b d r7 kx64_1_0 ag8 s.1 s.2
noncomputable def l64_0_b (d : Nat) (l1 : List (Int × Int × Int × Int × Int × Int × Int × Int × Int)) (n2 : Int) (kx64_0_0 : (List (Int × Int × Int × Int × Int × Int × Int)) → Option (List (Int × Int × Int × Int × Int × Int × Int))) (ag3 : ((List (Int × Int × Int × Int × Int × Int × Int)) × Int) → Option (List (Int × Int × Int × Int × Int × Int × Int))) (l4 : List (Int × Int × Int × Int × Int × Int × Int)) (n5 : Int) : Option (List (Int × Int × Int × Int × Int × Int × Int)) :=
 oif (decide ((n5 : Int) < ((l1.length : Nat) : Int))) (
 oif (decide (0 ≤ (n5 : Int))) (
 obind (l1[(n5 : Int).toNat]?) fun x6 =>
 obind (g71 d x6 n2) fun r7 =>
 iterP (l64_1 d r7 (j64_2 d ag3 n5)) fuelN (l4, 0)) none) (
 kx64_0_0 l4)
noncomputable def l64_0 (d : Nat) (l1 : List (Int × Int × Int × Int × Int × Int × Int × Int × Int)) (n2 : Int) (kx64_0_0 : (List (Int × Int × Int × Int × Int × Int × Int)) → Option (List (Int × Int × Int × Int × Int × Int × Int))) (ag3 : ((List (Int × Int × Int × Int × Int × Int × Int)) × Int) → Option (List (Int × Int × Int × Int × Int × Int × Int))) (s : ((List (Int × Int × Int × Int × Int × Int × Int)) × Int)) : Option (List (Int × Int × Int × Int × Int × Int × Int)) := l64_0_b d l1 n2 kx64_0_0 ag3 s.1 s.2
theorem e64 (d : Nat) (l1 : List (Int × Int × Int × Int × Int × Int × Int × Int × Int)) (n2 : Int) : g64 (d + 1) l1 n2 =
 iterP (l64_0 d l1 n2 (j64_1 d)) fuelN ([], 0) := by kernel_rfl

noncomputable def j21_0 (d : Nat) (l1 : List (Int × Int × Int × Int × Int × Int × Int × Int × Int)) (n2 : Int) (b4 : Bool) (l5 : List (Int × Int × Int × Int × Int × Int × Int)) : Option ((List (Int × Int × Int × Int × Int × Int × Int)) × Bool) :=
 oif (decide ((((l1.length : Nat) : Int) : Int) > 6)) (
 some ([], false)) (
 obind (g63 d n2) fun r6 =>
 oif (!r6) (
 some ([], false)) (
 obind (g64 d l1 n2) fun r7 =>
 some (r7, true)))
noncomputable def l21_0_b (d : Nat) (l1 : List (Int × Int × Int × Int × Int × Int × Int × Int × Int)) (kx21_0_0 : Bool → (List (Int × Int × Int × Int × Int × Int × Int)) → Option ((List (Int × Int × Int × Int × Int × Int × Int)) × Bool)) (ag3 : ((List (Int × Int × Int × Int × Int × Int × Int)) × Bool × Int) → Option ((List (Int × Int × Int × Int × Int × Int × Int)) × Bool)) (l4 : List (Int × Int × Int × Int × Int × Int × Int)) (b5 : Bool) (n6 : Int) : Option ((List (Int × Int × Int × Int × Int × Int × Int)) × Bool) :=
 oif (decide ((n6 : Int) < ((l1.length : Nat) : Int))) (
 oif (decide (0 ≤ (n6 : Int))) (
 obind (l1[(n6 : Int).toNat]?) fun x7 =>
 obind (g62 d x7) fun r8 =>
 oif (!r8) (
 some ([], false)) (
 ag3 (l4, b5, (IntKind.i64.wrap (n6 + 1))))) none) (
 kx21_0_0 b5 l4)
noncomputable def l21_0 (d : Nat) (l1 : List (Int × Int × Int × Int × Int × Int × Int × Int × Int)) (kx21_0_0 : Bool → (List (Int × Int × Int × Int × Int × Int × Int)) → Option ((List (Int × Int × Int × Int × Int × Int × Int)) × Bool)) (ag3 : ((List (Int × Int × Int × Int × Int × Int × Int)) × Bool × Int) → Option ((List (Int × Int × Int × Int × Int × Int × Int)) × Bool)) (s : ((List (Int × Int × Int × Int × Int × Int × Int)) × Bool × Int)) : Option ((List (Int × Int × Int × Int × Int × Int × Int)) × Bool) := l21_0_b d l1 kx21_0_0 ag3 s.1 s.2.1 s.2.2
theorem e21 (d : Nat) (l1 : List (Int × Int × Int × Int × Int × Int × Int × Int × Int)) (n2 : Int) : g21 (d + 1) l1 n2 =
 iterP (l21_0 d l1 (j21_0 d l1 n2)) fuelN ([], false, 0) := by kernel_rfl

theorem e90 (d : Nat) (x1 : ((List Int) × Int × Int)) : g90 (d + 1) x1 =
 obind (g48 d x1 60000) fun r2 =>
 obind (g48 d r2.2 60000) fun r3 =>
 obind (g68 d r3.2 [1, 2, 3, 65535, r3.1]) fun r4 =>
 obind (g68 d r4.2 [1, 2, 9]) fun r5 =>
 obind (g68 d r5.2 [22, 80, 443]) fun r6 =>
 obind (g68 d r6.2 [0, 1, 5, 255]) fun r7 =>
 obind (g48 d r7.2 1500) fun r8 =>
 obind (g68 d r8.2 [1, 40, 64, 100, 500, 1000, 1500, (IntKind.i64.wrap ((1 : Int) + r8.1))]) fun r9 =>
 some (((IntKind.i64.wrap ((1 : Int) + r2.1)), r4.1, r5.1, r6.1, r7.1, r9.1), r9.2) := by kernel_rfl

noncomputable def j91_0 (d : Nat) (r2 : ((Int × Int × Int × Int × Int × Int) × ((List Int) × Int × Int))) (n7 : Int) (n8 : Int) (n9 : Int) (l10 : List Int) (n11 : Int) (n12 : Int) : Option ((Int × Int × Int × Int × Int × Int) × ((List Int) × Int × Int)) :=
 some ((r2.1.1, r2.1.2.1, n7, n8, n9, r2.1.2.2.2.2.2), (l10, n11, n12))
theorem e91 (d : Nat) (x1 : ((List Int) × Int × Int)) : g91 (d + 1) x1 =
 obind (g90 d x1) fun r2 =>
 obind (g48 d r2.2 20) fun r3 =>
 oif ((r3.1 : Int) == 0) (
 obind (g68 d r3.2 [0, (-1), 100000, 100001]) fun r4 =>
 some ((r4.1, r2.1.2), r4.2)) (
 oif ((r3.1 : Int) == 1) (
 obind (g68 d r3.2 [(-1), 65536]) fun r5 =>
 some ((r2.1.1, r5.1, r2.1.2.2), r5.2)) (
 oif ((r3.1 : Int) == 2) (
 obind (g68 d r3.2 [0, (-1), 1500, 1501]) fun r6 =>
 some ((r2.1.1, r2.1.2.1, r2.1.2.2.1, r2.1.2.2.2.1, r2.1.2.2.2.2.1, r6.1), r6.2)) (
 oif ((r3.1 : Int) == 3) (
 obind (g68 d r3.2 [(-1), 65535, 65536]) fun r7 =>
 j91_0 d r2 r2.1.2.2.1 r2.1.2.2.2.1 r7.1 r7.2.1 r7.2.2.1 r7.2.2.2) (
 oif ((r3.1 : Int) == 4) (
 obind (g68 d r3.2 [(-1), 65536]) fun r8 =>
 j91_0 d r2 r2.1.2.2.1 r8.1 r2.1.2.2.2.2.1 r8.2.1 r8.2.2.1 r8.2.2.2) (
 oif ((r3.1 : Int) == 5) (
 obind (g68 d r3.2 [(-1), 65536]) fun r9 =>
 j91_0 d r2 r9.1 r2.1.2.2.2.1 r2.1.2.2.2.2.1 r9.2.1 r9.2.2.1 r9.2.2.2) (
 j91_0 d r2 r2.1.2.2.1 r2.1.2.2.2.1 r2.1.2.2.2.2.1 r3.2.1 r3.2.2.1 r3.2.2.2)))))) := by kernel_rfl

noncomputable def j65_0 (d : Nat)  (l10 : List Int) (n11 : Int) (n12 : Int) (l13 : List (Int × Int × Int × Int × Int × Int × Int)) : Option ((List (Int × Int × Int × Int × Int × Int × Int)) × ((List Int) × Int × Int)) :=
 oif (decide ((((l13.length : Nat) : Int) : Int) > 0)) (
 obind (g48 d (l10, n11, n12) ((l13.length : Nat) : Int)) fun r14 =>
 oif (decide (0 ≤ (r14.1 : Int))) (
 oif (Nat.blt ((r14.1 : Int).toNat) l13.length) (
 obind (g48 d r14.2 24) fun r15 =>
 oif ((r15.1 : Int) == 0) (
 obind (g68 d r15.2 [(-1), 0, 100001]) fun r16 =>
 obind (l13[(r14.1 : Int).toNat]?) fun x17 =>
 some ((l13.set ((r14.1 : Int).toNat) (r16.1, x17.2)), r16.2)) (
 oif ((r15.1 : Int) == 1) (
 obind (g91 d r15.2) fun r18 =>
 obind (l13[(r14.1 : Int).toNat]?) fun x19 =>
 some ((l13.set ((r14.1 : Int).toNat) (x19.1, r18.1)), r18.2)) (
 oif ((r15.1 : Int) == 2) (
 obind (g48 d r15.2 2) fun r20 =>
 oif (decide (0 ≤ ((IntKind.i64.wrap (((l13.length : Nat) : Int) - 1)) : Int))) (
 oif (Nat.blt (((IntKind.i64.wrap (((l13.length : Nat) : Int) - 1)) : Int).toNat) l13.length) (
 obind (l13[((IntKind.i64.wrap (((l13.length : Nat) : Int) - 1)) : Int).toNat]?) fun x21 =>
 some ((l13.set (((IntKind.i64.wrap (((l13.length : Nat) : Int) - 1)) : Int).toNat) ((IntKind.i64.wrap ((100000 : Int) + r20.1)), x21.2)), r20.2)) none) none) (
 some (l13, r15.2))))) none) none) (
 some (l13, (l10, n11, n12)))
noncomputable def l65_0_b (d : Nat) (n5 : Int) (kx65_0_0 : (List Int) → Int → Int → (List (Int × Int × Int × Int × Int × Int × Int)) → Option ((List (Int × Int × Int × Int × Int × Int × Int)) × ((List Int) × Int × Int))) (ag9 : ((List (Int × Int × Int × Int × Int × Int × Int)) × Int × ((List Int) × Int × Int)) → Option ((List (Int × Int × Int × Int × Int × Int × Int)) × ((List Int) × Int × Int))) (l10 : List (Int × Int × Int × Int × Int × Int × Int)) (n11 : Int) (x12 : ((List Int) × Int × Int)) : Option ((List (Int × Int × Int × Int × Int × Int × Int)) × ((List Int) × Int × Int)) :=
 oif (decide ((((l10.length : Nat) : Int) : Int) < n5)) (
 obind (g90 d x12) fun r13 =>
 oif (Nat.ble ((l10.length + [(n11, (IntKind.i64.wrap (((l10.length : Nat) : Int) + 1)), r13.1.2)].length) * 56) roomMax) (
 obind (g68 d r13.2 [0, 0, 1, 2, 10]) fun r14 =>
 ag9 ((l10 ++ [(n11, (IntKind.i64.wrap (((l10.length : Nat) : Int) + 1)), r13.1.2)]), (IntKind.i64.wrap (n11 + r14.1)), r14.2)) none) (
 kx65_0_0 x12.1 x12.2.1 x12.2.2 l10)
noncomputable def l65_0 (d : Nat) (n5 : Int) (kx65_0_0 : (List Int) → Int → Int → (List (Int × Int × Int × Int × Int × Int × Int)) → Option ((List (Int × Int × Int × Int × Int × Int × Int)) × ((List Int) × Int × Int))) (ag9 : ((List (Int × Int × Int × Int × Int × Int × Int)) × Int × ((List Int) × Int × Int)) → Option ((List (Int × Int × Int × Int × Int × Int × Int)) × ((List Int) × Int × Int))) (s : ((List (Int × Int × Int × Int × Int × Int × Int)) × Int × ((List Int) × Int × Int))) : Option ((List (Int × Int × Int × Int × Int × Int × Int)) × ((List Int) × Int × Int)) := l65_0_b d n5 kx65_0_0 ag9 s.1 s.2.1 s.2.2
noncomputable def j65_1 (d : Nat) (r2 : (Int × ((List Int) × Int × Int))) (n5 : Int) (l6 : List Int) (n7 : Int) (n8 : Int) : Option ((List (Int × Int × Int × Int × Int × Int × Int)) × ((List Int) × Int × Int)) :=
 iterP (l65_0 d n5 (j65_0 d)) fuelN ([], r2.1, (l6, n7, n8))
theorem e65 (d : Nat) (x1 : ((List Int) × Int × Int)) : g65 (d + 1) x1 =
 obind (g48 d x1 5) fun r2 =>
 obind (g48 d r2.2 12) fun r3 =>
 obind (g44 d r3.2 24) fun r4 =>
 oif r4.1 (
 obind (g48 d r4.2 2) fun r5 =>
 j65_1 d r2 (IntKind.i64.wrap ((60 : Int) + r5.1)) r5.2.1 r5.2.2.1 r5.2.2.2) (
 j65_1 d r2 r3.1 r4.2.1 r4.2.2.1 r4.2.2.2) := by kernel_rfl

theorem e22 (d : Nat) (l1 : List Int) : g22 (d + 1) l1 =
 obind (g65 d (l1, 0, 0)) fun r2 =>
 obind (g54 d r2.2) fun r3 =>
 some (r2.1, r3.1) := by kernel_rfl

theorem e101 (d : Nat) (x1 : (Int × Int × Int × Int × Int × Int)) : g101 (d + 1) x1 =
 some (x1.2.1, x1.2.2.1, x1.2.2.2.1, x1.2.2.2.2.1) := by kernel_rfl

noncomputable def j92_0 (d : Nat) (x1 : (Int × Int × Int × Int × Int × Int)) (b4 : Bool) : Option Bool :=
 oif (decide ((x1.1 : Int) ≥ 1)) (
 oif (decide ((x1.1 : Int) ≤ 100000)) (
 oif (decide ((x1.2.2.2.2.2 : Int) ≥ 1)) (
 some (decide ((x1.2.2.2.2.2 : Int) ≤ 1500))) (
 some false)) (
 some false)) (
 some false)
noncomputable def l92_0_b (d : Nat) (r2 : (Int × Int × Int × Int)) (kx92_0_0 : Bool → Option Bool) (ag3 : (Bool × Int) → Option Bool) (b4 : Bool) (n5 : Int) : Option Bool :=
 oif (decide ((n5 : Int) < 4)) (
 oif (decide (0 ≤ (n5 : Int))) (
 obind (([r2.1, r2.2.1, r2.2.2.1, r2.2.2.2] : List Int)[(n5 : Int).toNat]?) fun n6 =>
 oif (decide ((n6 : Int) < 0)) (
 some false) (
 oif (decide ((n6 : Int) > 65535)) (
 some false) (
 ag3 (b4, (IntKind.i64.wrap (n5 + 1)))))) none) (
 kx92_0_0 b4)
noncomputable def l92_0 (d : Nat) (r2 : (Int × Int × Int × Int)) (kx92_0_0 : Bool → Option Bool) (ag3 : (Bool × Int) → Option Bool) (s : (Bool × Int)) : Option Bool := l92_0_b d r2 kx92_0_0 ag3 s.1 s.2
theorem e92 (d : Nat) (x1 : (Int × Int × Int × Int × Int × Int)) : g92 (d + 1) x1 =
 obind (g101 d x1) fun r2 =>
 iterP (l92_0 d r2 (j92_0 d x1)) fuelN (false, 0) := by kernel_rfl

noncomputable def j66_0 (d : Nat) (l1 : List (Int × Int × Int × Int × Int × Int × Int)) (b3 : Bool) : Option Bool :=
 some (decide ((((l1.length : Nat) : Int) : Int) ≤ 60))
noncomputable def j66_1 (d : Nat) (ag2 : (Bool × Int) → Option Bool) (b3 : Bool) (n4 : Int) (b6 : Bool) (b7 : Bool) (b8 : Bool) (b9 : Bool) (b10 : Bool) (b11 : Bool) : Option Bool :=
 oif b11 (
 some false) (
 ag2 (b3, (IntKind.i64.wrap (n4 + 1))))
noncomputable def l66_0_b (d : Nat) (l1 : List (Int × Int × Int × Int × Int × Int × Int)) (kx66_0_0 : Bool → Option Bool) (ag2 : (Bool × Int) → Option Bool) (b3 : Bool) (n4 : Int) : Option Bool :=
 oif (decide ((n4 : Int) < ((l1.length : Nat) : Int))) (
 oif (decide (0 ≤ (n4 : Int))) (
 obind (l1[(n4 : Int).toNat]?) fun x5 =>
 obind (g55 d x5.1) fun r6 =>
 oif (!r6) (
 j66_1 d ag2 b3 n4 r6 (!r6) true true true true) (
 obind (g92 d x5.2) fun r7 =>
 oif (!r7) (
 j66_1 d ag2 b3 n4 r6 (!r6) false (!r7) true true) (
 oif (decide ((n4 : Int) > 0)) (
 oif (decide (0 ≤ ((IntKind.i64.wrap (n4 - 1)) : Int))) (
 obind (l1[((IntKind.i64.wrap (n4 - 1)) : Int).toNat]?) fun x8 =>
 j66_1 d ag2 b3 n4 r6 (!r6) false (!r7) false (decide ((x5.1 : Int) < x8.1))) none) (
 j66_1 d ag2 b3 n4 r6 (!r6) false (!r7) false false)))) none) (
 kx66_0_0 b3)
noncomputable def l66_0 (d : Nat) (l1 : List (Int × Int × Int × Int × Int × Int × Int)) (kx66_0_0 : Bool → Option Bool) (ag2 : (Bool × Int) → Option Bool) (s : (Bool × Int)) : Option Bool := l66_0_b d l1 kx66_0_0 ag2 s.1 s.2
theorem e66 (d : Nat) (l1 : List (Int × Int × Int × Int × Int × Int × Int)) : g66 (d + 1) l1 =
 iterP (l66_0 d l1 (j66_0 d l1)) fuelN (false, 0) := by kernel_rfl

noncomputable def j23_0 (d : Nat)  (n5 : Int) : Option (Int × Bool) :=
 some (n5, true)
noncomputable def l23_0_b (d : Nat) (l1 : List (Int × Int × Int × Int × Int × Int × Int)) (n2 : Int) (kx23_0_0 : Int → Option (Int × Bool)) (ag4 : (Int × Int) → Option (Int × Bool)) (n5 : Int) (n6 : Int) : Option (Int × Bool) :=
 oif (decide ((n6 : Int) < ((l1.length : Nat) : Int))) (
 oif (decide (0 ≤ (n6 : Int))) (
 obind (l1[(n6 : Int).toNat]?) fun x7 =>
 oif (decide ((x7.1 : Int) ≤ n2)) (
 ag4 ((IntKind.i64.wrap (n5 + x7.2.2.2.2.2.2)), (IntKind.i64.wrap (n6 + 1)))) (
 ag4 (n5, (IntKind.i64.wrap (n6 + 1))))) none) (
 kx23_0_0 n5)
noncomputable def l23_0 (d : Nat) (l1 : List (Int × Int × Int × Int × Int × Int × Int)) (n2 : Int) (kx23_0_0 : Int → Option (Int × Bool)) (ag4 : (Int × Int) → Option (Int × Bool)) (s : (Int × Int)) : Option (Int × Bool) := l23_0_b d l1 n2 kx23_0_0 ag4 s.1 s.2
noncomputable def j23_1 (d : Nat) (l1 : List (Int × Int × Int × Int × Int × Int × Int)) (n2 : Int) (b3 : Bool) : Option (Int × Bool) :=
 oif b3 (
 some (0, false)) (
 iterP (l23_0 d l1 n2 (j23_0 d)) fuelN (0, 0))
theorem e23 (d : Nat) (l1 : List (Int × Int × Int × Int × Int × Int × Int)) (n2 : Int) : g23 (d + 1) l1 n2 =
 obind (g66 d l1) fun r3 =>
 oif (!r3) (
 j23_1 d l1 n2 true) (
 obind (g55 d n2) fun r4 =>
 j23_1 d l1 n2 (!r4)) := by kernel_rfl

theorem e102 (d : Nat) (n1 : Int) : g102 (d + 1) n1 =
 obind (g69 d n1 0 65535) fun r2 =>
 some r2 := by kernel_rfl

theorem e93 (d : Nat) (x1 : (Int × Int × Int × Int × Int × Int)) : g93 (d + 1) x1 =
 obind (g69 d x1.1 1 100000) fun r2 =>
 oif r2 (
 obind (g102 d x1.2.1) fun r3 =>
 oif r3 (
 obind (g102 d x1.2.2.1) fun r4 =>
 oif r4 (
 obind (g102 d x1.2.2.2.1) fun r5 =>
 oif r5 (
 obind (g102 d x1.2.2.2.2.1) fun r6 =>
 oif r6 (
 obind (g69 d x1.2.2.2.2.2 1 1500) fun r7 =>
 some r7) (
 some false)) (
 some false)) (
 some false)) (
 some false)) (
 some false) := by kernel_rfl

noncomputable def j67_0 (d : Nat) (l1 : List (Int × Int × Int × Int × Int × Int × Int)) (b3 : Bool) : Option Bool :=
 some (decide ((((l1.length : Nat) : Int) : Int) ≤ 60))
noncomputable def j67_1 (d : Nat) (ag2 : (Bool × Int) → Option Bool) (b3 : Bool) (n4 : Int) (b6 : Bool) (b7 : Bool) (b8 : Bool) (b9 : Bool) (b10 : Bool) (b11 : Bool) : Option Bool :=
 oif b11 (
 some false) (
 ag2 (b3, (IntKind.i64.wrap (n4 + 1))))
noncomputable def l67_0_b (d : Nat) (l1 : List (Int × Int × Int × Int × Int × Int × Int)) (kx67_0_0 : Bool → Option Bool) (ag2 : (Bool × Int) → Option Bool) (b3 : Bool) (n4 : Int) : Option Bool :=
 oif (decide ((n4 : Int) < ((l1.length : Nat) : Int))) (
 oif (decide (0 ≤ (n4 : Int))) (
 obind (l1[(n4 : Int).toNat]?) fun x5 =>
 obind (g63 d x5.1) fun r6 =>
 oif (!r6) (
 j67_1 d ag2 b3 n4 r6 (!r6) true true true true) (
 obind (g93 d x5.2) fun r7 =>
 oif (!r7) (
 j67_1 d ag2 b3 n4 r6 (!r6) false (!r7) true true) (
 oif (decide ((n4 : Int) > 0)) (
 oif (decide (0 ≤ ((IntKind.i64.wrap (n4 - 1)) : Int))) (
 obind (l1[((IntKind.i64.wrap (n4 - 1)) : Int).toNat]?) fun x8 =>
 j67_1 d ag2 b3 n4 r6 (!r6) false (!r7) false (decide ((x8.1 : Int) > x5.1))) none) (
 j67_1 d ag2 b3 n4 r6 (!r6) false (!r7) false false)))) none) (
 kx67_0_0 b3)
noncomputable def l67_0 (d : Nat) (l1 : List (Int × Int × Int × Int × Int × Int × Int)) (kx67_0_0 : Bool → Option Bool) (ag2 : (Bool × Int) → Option Bool) (s : (Bool × Int)) : Option Bool := l67_0_b d l1 kx67_0_0 ag2 s.1 s.2
theorem e67 (d : Nat) (l1 : List (Int × Int × Int × Int × Int × Int × Int)) : g67 (d + 1) l1 =
 iterP (l67_0 d l1 (j67_0 d l1)) fuelN (false, 0) := by kernel_rfl

noncomputable def j24_0 (d : Nat)  (n5 : Int) : Option (Int × Bool) :=
 some (n5, true)
noncomputable def l24_0_b (d : Nat) (l1 : List (Int × Int × Int × Int × Int × Int × Int)) (n2 : Int) (kx24_0_0 : Int → Option (Int × Bool)) (ag4 : (Int × Int) → Option (Int × Bool)) (n5 : Int) (n6 : Int) : Option (Int × Bool) :=
 oif (decide ((n6 : Int) < ((l1.length : Nat) : Int))) (
 oif (decide (0 ≤ (n6 : Int))) (
 obind (l1[(n6 : Int).toNat]?) fun x7 =>
 oif (decide ((x7.1 : Int) ≤ n2)) (
 ag4 ((IntKind.i64.wrap (n5 + x7.2.2.2.2.2.2)), (IntKind.i64.wrap (n6 + 1)))) (
 ag4 (n5, (IntKind.i64.wrap (n6 + 1))))) none) (
 kx24_0_0 n5)
noncomputable def l24_0 (d : Nat) (l1 : List (Int × Int × Int × Int × Int × Int × Int)) (n2 : Int) (kx24_0_0 : Int → Option (Int × Bool)) (ag4 : (Int × Int) → Option (Int × Bool)) (s : (Int × Int)) : Option (Int × Bool) := l24_0_b d l1 n2 kx24_0_0 ag4 s.1 s.2
noncomputable def j24_1 (d : Nat) (l1 : List (Int × Int × Int × Int × Int × Int × Int)) (n2 : Int) (b3 : Bool) : Option (Int × Bool) :=
 oif b3 (
 some (0, false)) (
 iterP (l24_0 d l1 n2 (j24_0 d)) fuelN (0, 0))
theorem e24 (d : Nat) (l1 : List (Int × Int × Int × Int × Int × Int × Int)) (n2 : Int) : g24 (d + 1) l1 n2 =
 obind (g67 d l1) fun r3 =>
 oif (!r3) (
 j24_1 d l1 n2 true) (
 obind (g63 d n2) fun r4 =>
 j24_1 d l1 n2 (!r4)) := by kernel_rfl

theorem e25 (d : Nat) (l1 : List Int) : g25 (d + 1) l1 =
 obind (g65 d (l1, 0, 0)) fun r2 =>
 obind (g68 d r2.2 [1, 2, 5, 30, 100000, 100001, 0]) fun r3 =>
 some (r2.1, r3.1) := by kernel_rfl

noncomputable def j26_0 (d : Nat)  (n5 : Int) : Option (Int × Bool) :=
 some (n5, true)
noncomputable def j26_1 (d : Nat) (ag4 : (Int × Int) → Option (Int × Bool)) (n5 : Int) (n6 : Int) (n8 : Int) (n9 : Int) : Option (Int × Bool) :=
 ag4 ((if n8 > n5 then n8 else n5), (IntKind.i64.wrap (n6 + 1)))
noncomputable def l26_1_b (d : Nat) (l1 : List (Int × Int × Int × Int × Int × Int × Int)) (n2 : Int) (n6 : Int) (kx26_1_0 : Int → Int → Option (Int × Bool)) (ag7 : (Int × Int) → Option (Int × Bool)) (n8 : Int) (n9 : Int) : Option (Int × Bool) :=
 oif (decide ((n9 : Int) < (((l1.drop ((n6 : Int).toNat)).length : Nat) : Int))) (
 oif (decide (0 ≤ (n9 : Int))) (
 obind ((l1.drop ((n6 : Int).toNat))[(n9 : Int).toNat]?) fun x10 =>
 oif (decide (0 ≤ (n6 : Int))) (
 obind (l1[(n6 : Int).toNat]?) fun x11 =>
 oif (decide (((IntKind.i64.wrap (x10.1 - x11.1)) : Int) < n2)) (
 ag7 ((IntKind.i64.wrap (n8 + x10.2.2.2.2.2.2)), (IntKind.i64.wrap (n9 + 1)))) (
 ag7 (n8, (IntKind.i64.wrap (n9 + 1))))) none) none) (
 kx26_1_0 n8 n9)
noncomputable def l26_1 (d : Nat) (l1 : List (Int × Int × Int × Int × Int × Int × Int)) (n2 : Int) (n6 : Int) (kx26_1_0 : Int → Int → Option (Int × Bool)) (ag7 : (Int × Int) → Option (Int × Bool)) (s : (Int × Int)) : Option (Int × Bool) := l26_1_b d l1 n2 n6 kx26_1_0 ag7 s.1 s.2
noncomputable def l26_0_b (d : Nat) (l1 : List (Int × Int × Int × Int × Int × Int × Int)) (n2 : Int) (kx26_0_0 : Int → Option (Int × Bool)) (ag4 : (Int × Int) → Option (Int × Bool)) (n5 : Int) (n6 : Int) : Option (Int × Bool) :=
 oif (decide ((n6 : Int) < ((l1.length : Nat) : Int))) (
 oif (decide (0 ≤ (n6 : Int))) (
 oif (Nat.ble ((n6 : Int).toNat) l1.length) (
 iterP (l26_1 d l1 n2 n6 (j26_1 d ag4 n5 n6)) fuelN (0, 0)) none) none) (
 kx26_0_0 n5)
noncomputable def l26_0 (d : Nat) (l1 : List (Int × Int × Int × Int × Int × Int × Int)) (n2 : Int) (kx26_0_0 : Int → Option (Int × Bool)) (ag4 : (Int × Int) → Option (Int × Bool)) (s : (Int × Int)) : Option (Int × Bool) := l26_0_b d l1 n2 kx26_0_0 ag4 s.1 s.2
noncomputable def j26_2 (d : Nat) (l1 : List (Int × Int × Int × Int × Int × Int × Int)) (n2 : Int) (b3 : Bool) : Option (Int × Bool) :=
 oif b3 (
 some (0, false)) (
 iterP (l26_0 d l1 n2 (j26_0 d)) fuelN (0, 0))
theorem e26 (d : Nat) (l1 : List (Int × Int × Int × Int × Int × Int × Int)) (n2 : Int) : g26 (d + 1) l1 n2 =
 obind (g66 d l1) fun r3 =>
 oif (!r3) (
 j26_2 d l1 n2 true) (
 oif (decide ((n2 : Int) < 1)) (
 j26_2 d l1 n2 true) (
 j26_2 d l1 n2 (decide ((n2 : Int) > 100000)))) := by kernel_rfl

theorem e70 (d : Nat) (n1 : Int) (n2 : Int) : g70 (d + 1) n1 n2 =
 oif (decide ((n1 : Int) > n2)) (
 some n1) (
 some n2) := by kernel_rfl

noncomputable def j27_0 (d : Nat)  (n5 : Int) : Option (Int × Bool) :=
 some (n5, true)
noncomputable def j27_1 (d : Nat) (ag4 : (Int × Int) → Option (Int × Bool)) (n5 : Int) (n6 : Int) (n9 : Int) (n10 : Int) : Option (Int × Bool) :=
 obind (g70 d n5 n9) fun r11 =>
 ag4 (r11, (IntKind.i64.wrap (n6 + 1)))
noncomputable def l27_1_b (d : Nat) (l1 : List (Int × Int × Int × Int × Int × Int × Int)) (n2 : Int) (n6 : Int) (x7 : (Int × Int × Int × Int × Int × Int × Int)) (kx27_1_0 : Int → Int → Option (Int × Bool)) (ag8 : (Int × Int) → Option (Int × Bool)) (n9 : Int) (n10 : Int) : Option (Int × Bool) :=
 oif (decide ((n10 : Int) < (((l1.drop ((n6 : Int).toNat)).length : Nat) : Int))) (
 oif (decide (0 ≤ (n10 : Int))) (
 obind ((l1.drop ((n6 : Int).toNat))[(n10 : Int).toNat]?) fun x11 =>
 oif (decide ((x11.1 : Int) < (IntKind.i64.wrap (x7.1 + n2)))) (
 ag8 ((IntKind.i64.wrap (n9 + x11.2.2.2.2.2.2)), (IntKind.i64.wrap (n10 + 1)))) (
 ag8 (n9, (IntKind.i64.wrap (n10 + 1))))) none) (
 kx27_1_0 n9 n10)
noncomputable def l27_1 (d : Nat) (l1 : List (Int × Int × Int × Int × Int × Int × Int)) (n2 : Int) (n6 : Int) (x7 : (Int × Int × Int × Int × Int × Int × Int)) (kx27_1_0 : Int → Int → Option (Int × Bool)) (ag8 : (Int × Int) → Option (Int × Bool)) (s : (Int × Int)) : Option (Int × Bool) := l27_1_b d l1 n2 n6 x7 kx27_1_0 ag8 s.1 s.2
noncomputable def l27_0_b (d : Nat) (l1 : List (Int × Int × Int × Int × Int × Int × Int)) (n2 : Int) (kx27_0_0 : Int → Option (Int × Bool)) (ag4 : (Int × Int) → Option (Int × Bool)) (n5 : Int) (n6 : Int) : Option (Int × Bool) :=
 oif (decide ((n6 : Int) < ((l1.length : Nat) : Int))) (
 oif (decide (0 ≤ (n6 : Int))) (
 obind (l1[(n6 : Int).toNat]?) fun x7 =>
 oif (decide (0 ≤ (n6 : Int))) (
 oif (Nat.ble ((n6 : Int).toNat) l1.length) (
 iterP (l27_1 d l1 n2 n6 x7 (j27_1 d ag4 n5 n6)) fuelN (0, 0)) none) none) none) (
 kx27_0_0 n5)
noncomputable def l27_0 (d : Nat) (l1 : List (Int × Int × Int × Int × Int × Int × Int)) (n2 : Int) (kx27_0_0 : Int → Option (Int × Bool)) (ag4 : (Int × Int) → Option (Int × Bool)) (s : (Int × Int)) : Option (Int × Bool) := l27_0_b d l1 n2 kx27_0_0 ag4 s.1 s.2
noncomputable def j27_2 (d : Nat) (l1 : List (Int × Int × Int × Int × Int × Int × Int)) (n2 : Int) (b3 : Bool) : Option (Int × Bool) :=
 oif b3 (
 some (0, false)) (
 iterP (l27_0 d l1 n2 (j27_0 d)) fuelN (0, 0))
theorem e27 (d : Nat) (l1 : List (Int × Int × Int × Int × Int × Int × Int)) (n2 : Int) : g27 (d + 1) l1 n2 =
 obind (g67 d l1) fun r3 =>
 oif (!r3) (
 j27_2 d l1 n2 true) (
 obind (g69 d n2 1 100000) fun r4 =>
 j27_2 d l1 n2 (!r4)) := by kernel_rfl

noncomputable def j28_0 (d : Nat)  (b4 : Bool) : Option Bool :=
 some true
noncomputable def l28_0_b (d : Nat) (l1 : List (Int × Int × Int × Int × Int × Int × Int)) (l2 : List (Int × Int × Int × Int × Int × Int × Int)) (kx28_0_0 : Bool → Option Bool) (ag3 : (Bool × Int) → Option Bool) (b4 : Bool) (n5 : Int) : Option Bool :=
 oif (decide ((n5 : Int) < ((l1.length : Nat) : Int))) (
 oif (decide (0 ≤ (n5 : Int))) (
 obind (l1[(n5 : Int).toNat]?) fun x6 =>
 oif (decide (0 ≤ (n5 : Int))) (
 obind (l2[(n5 : Int).toNat]?) fun x7 =>
 oif (!(((x6.1 : Int) == x7.1) && ((((x6.2.1 : Int) == x7.2.1) && (((x6.2.2.1 : Int) == x7.2.2.1) && (((x6.2.2.2.1 : Int) == x7.2.2.2.1) && (((x6.2.2.2.2.1 : Int) == x7.2.2.2.2.1) && (((x6.2.2.2.2.2.1 : Int) == x7.2.2.2.2.2.1) && (((x6.2.2.2.2.2.2 : Int) == x7.2.2.2.2.2.2) && true)))))) && true))) (
 some false) (
 ag3 (b4, (IntKind.i64.wrap (n5 + 1))))) none) none) (
 kx28_0_0 b4)
noncomputable def l28_0 (d : Nat) (l1 : List (Int × Int × Int × Int × Int × Int × Int)) (l2 : List (Int × Int × Int × Int × Int × Int × Int)) (kx28_0_0 : Bool → Option Bool) (ag3 : (Bool × Int) → Option Bool) (s : (Bool × Int)) : Option Bool := l28_0_b d l1 l2 kx28_0_0 ag3 s.1 s.2
theorem e28 (d : Nat) (l1 : List (Int × Int × Int × Int × Int × Int × Int)) (l2 : List (Int × Int × Int × Int × Int × Int × Int)) : g28 (d + 1) l1 l2 =
 oif ((((l1.length : Nat) : Int) : Int) != ((l2.length : Nat) : Int)) (
 some false) (
 iterP (l28_0 d l1 l2 (j28_0 d)) fuelN (false, 0)) := by kernel_rfl

theorem e29 (d : Nat) (x1 : (Int × Int × Int × Int × Int × Int × Int × Int × Int)) (n2 : Int) : g29 (d + 1) x1 n2 =
 obind (g56 d x1) fun r3 =>
 oif (!r3) (
 some ([], false)) (
 obind (g55 d n2) fun r4 =>
 oif (!r4) (
 some ([], false)) (
 obind (g57 d x1 n2) fun r5 =>
 some (r5, true))) := by kernel_rfl

theorem e30 (d : Nat) (x1 : (Int × Int × Int × Int × Int × Int × Int × Int × Int)) (n2 : Int) : g30 (d + 1) x1 n2 =
 obind (g62 d x1) fun r3 =>
 oif (!r3) (
 some ([], false)) (
 obind (g63 d n2) fun r4 =>
 oif (!r4) (
 some ([], false)) (
 obind (g71 d x1 n2) fun r5 =>
 some (r5, true))) := by kernel_rfl

noncomputable def j4_0 (d : Nat) (r5 : ((List (Int × Int × Int × Int × Int × Int × Int)) × Bool)) (n17 : Int) (b19 : Bool) : Option Bool :=
 some ((((r5.1.length : Nat) : Int) : Int) == n17)
noncomputable def l4_1_b (d : Nat) (r3 : ((List (Int × Int × Int × Int × Int × Int × Int × Int × Int)) × Int)) (r5 : ((List (Int × Int × Int × Int × Int × Int × Int)) × Bool)) (kx4_1_0 : Bool → Option Bool) (ag18 : (Bool × Int × Int) → Option Bool) (b19 : Bool) (n20 : Int) (n21 : Int) : Option Bool :=
 oif (decide ((n21 : Int) < ((r5.1.length : Nat) : Int))) (
 oif (decide (0 ≤ (n21 : Int))) (
 oif (Nat.blt ((n21 : Int).toNat) r5.1.length) (
 obind (r5.1[(n21 : Int).toNat]?) fun x22 =>
 oif (decide ((x22.1 : Int) < n20)) (
 some false) (
 oif (decide ((x22.1 : Int) > r3.2)) (
 some false) (
 oif ((x22.2.1 : Int) != (IntKind.i64.wrap (n21 + 1))) (
 some false) (
 ag18 (b19, x22.1, (IntKind.i64.wrap (n21 + 1))))))) none) none) (
 kx4_1_0 b19)
noncomputable def l4_1 (d : Nat) (r3 : ((List (Int × Int × Int × Int × Int × Int × Int × Int × Int)) × Int)) (r5 : ((List (Int × Int × Int × Int × Int × Int × Int)) × Bool)) (kx4_1_0 : Bool → Option Bool) (ag18 : (Bool × Int × Int) → Option Bool) (s : (Bool × Int × Int)) : Option Bool := l4_1_b d r3 r5 kx4_1_0 ag18 s.1 s.2.1 s.2.2
noncomputable def j4_1 (d : Nat) (r3 : ((List (Int × Int × Int × Int × Int × Int × Int × Int × Int)) × Int)) (r5 : ((List (Int × Int × Int × Int × Int × Int × Int)) × Bool)) (b15 : Bool) (n17 : Int) : Option Bool :=
 iterP (l4_1 d r3 r5 (j4_0 d r5 n17)) fuelN (b15, 0, 0)
noncomputable def j4_2 (d : Nat) (r3 : ((List (Int × Int × Int × Int × Int × Int × Int × Int × Int)) × Int)) (r5 : ((List (Int × Int × Int × Int × Int × Int × Int)) × Bool)) (b15 : Bool) (n16 : Int) : Option Bool :=
 oif (decide ((n16 : Int) > 60)) (
 j4_1 d r3 r5 b15 60) (
 j4_1 d r3 r5 b15 n16)
noncomputable def l4_0_b (d : Nat) (r3 : ((List (Int × Int × Int × Int × Int × Int × Int × Int × Int)) × Int)) (kx4_0_0 : Bool → Int → Option Bool) (ag14 : (Bool × Int × Int) → Option Bool) (b15 : Bool) (n16 : Int) (n17 : Int) : Option Bool :=
 oif (decide ((n17 : Int) < ((r3.1.length : Nat) : Int))) (
 oif (decide (0 ≤ (n17 : Int))) (
 oif (Nat.blt ((n17 : Int).toNat) r3.1.length) (
 obind (r3.1[(n17 : Int).toNat]?) fun x18 =>
 obind (g29 d x18 r3.2) fun r19 =>
 obind (g30 d x18 r3.2) fun r20 =>
 oif (!r19.2) (
 some false) (
 oif (!r20.2) (
 some false) (
 obind (g28 d r19.1 r20.1) fun r21 =>
 oif (!r21) (
 some false) (
 ag14 (b15, (IntKind.i64.wrap (n16 + ((r20.1.length : Nat) : Int))), (IntKind.i64.wrap (n17 + 1))))))) none) none) (
 kx4_0_0 b15 n16)
noncomputable def l4_0 (d : Nat) (r3 : ((List (Int × Int × Int × Int × Int × Int × Int × Int × Int)) × Int)) (kx4_0_0 : Bool → Int → Option Bool) (ag14 : (Bool × Int × Int) → Option Bool) (s : (Bool × Int × Int)) : Option Bool := l4_0_b d r3 kx4_0_0 ag14 s.1 s.2.1 s.2.2
noncomputable def j4_3 (d : Nat) (r3 : ((List (Int × Int × Int × Int × Int × Int × Int × Int × Int)) × Int)) (r4 : ((List (Int × Int × Int × Int × Int × Int × Int)) × Bool)) (r5 : ((List (Int × Int × Int × Int × Int × Int × Int)) × Bool))  : Option Bool :=
 oif (!r4.2) (
 some true) (
 iterP (l4_0 d r3 (j4_2 d r3 r5)) fuelN (false, 0, 0))
noncomputable def j4_4 (d : Nat) (r3 : ((List (Int × Int × Int × Int × Int × Int × Int × Int × Int)) × Int)) (r4 : ((List (Int × Int × Int × Int × Int × Int × Int)) × Bool)) (r5 : ((List (Int × Int × Int × Int × Int × Int × Int)) × Bool)) (r9 : ((List (Int × Int × Int × Int × Int × Int × Int)) × Int)) (r11 : (Int × Bool)) (b13 : Bool) : Option Bool :=
 oif b13 (
 obind (g26 d r9.1 (IntKind.i64.wrap (r9.2 + 1))) fun r14 =>
 obind (g23 d r9.1 100000) fun r15 =>
 oif (!r14.2) (
 some false) (
 oif (decide ((r14.1 : Int) < r11.1)) (
 some false) (
 oif (!r15.2) (
 some false) (
 oif (decide ((r14.1 : Int) > r15.1)) (
 some false) (
 j4_3 d r3 r4 r5))))) (
 j4_3 d r3 r4 r5)
noncomputable def j4_5 (d : Nat) (r3 : ((List (Int × Int × Int × Int × Int × Int × Int × Int × Int)) × Int)) (r4 : ((List (Int × Int × Int × Int × Int × Int × Int)) × Bool)) (r5 : ((List (Int × Int × Int × Int × Int × Int × Int)) × Bool)) (r9 : ((List (Int × Int × Int × Int × Int × Int × Int)) × Int)) (r10 : (Int × Bool)) (r11 : (Int × Bool)) (b12 : Bool) : Option Bool :=
 oif b12 (
 some false) (
 oif r10.2 (
 j4_4 d r3 r4 r5 r9 r11 (decide ((r9.2 : Int) < 100000))) (
 j4_4 d r3 r4 r5 r9 r11 false))
theorem e4 (d : Nat) (l1 : List Int) (l2 : List Int) : g4 (d + 1) l1 l2 =
 oif (decide (((IntKind.i64.wrap (((l1.length : Nat) : Int) + ((l2.length : Nat) : Int))) : Int) > 1048576)) (
 some true) (
 obind (g19 d l1) fun r3 =>
 obind (g20 d r3.1 r3.2) fun r4 =>
 obind (g21 d r3.1 r3.2) fun r5 =>
 obind (g22 d l2) fun r6 =>
 obind (g23 d r6.1 r6.2) fun r7 =>
 obind (g24 d r6.1 r6.2) fun r8 =>
 obind (g25 d l2) fun r9 =>
 obind (g26 d r9.1 r9.2) fun r10 =>
 obind (g27 d r9.1 r9.2) fun r11 =>
 oif (!(r4.2 == r5.2)) (
 j4_5 d r3 r4 r5 r9 r10 r11 true) (
 obind (g28 d r4.1 r5.1) fun r12 =>
 oif (!r12) (
 j4_5 d r3 r4 r5 r9 r10 r11 true) (
 oif (!(r7.2 == r8.2)) (
 j4_5 d r3 r4 r5 r9 r10 r11 true) (
 oif ((r7.1 : Int) != r8.1) (
 j4_5 d r3 r4 r5 r9 r10 r11 true) (
 oif (!(r10.2 == r11.2)) (
 j4_5 d r3 r4 r5 r9 r10 r11 true) (
 j4_5 d r3 r4 r5 r9 r10 r11 ((r10.1 : Int) != r11.1))))))) := by kernel_rfl

end Go.Proofs.Ytpjlbjkeekobnaa
