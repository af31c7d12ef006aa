/-
  The residual forms of the program's functions under the interpreter by value, printed by program (wip/pv/gen2.py); each equation is checked by the kernel.
  Conditions: none.
-/
import Derived.Test.YtdogommoghjncaaVDef
import Derived.Test.YtdogommoghjncaaProg
import Derived.Test.YtdogommoghjncaaDelW
import Derived.KernelRfl
set_option linter.all false
set_option maxRecDepth 1000000
namespace Go.Proofs.Ytdogommoghjncaa
open Go.Ev Go.Pv

theorem fuel_is : ∃ n : Nat, n = 4194304 := ⟨_, rfl⟩
noncomputable def fuelN : Nat := Classical.choose fuel_is
theorem fuelN_eq : fuelN = 4194304 := Classical.choose_spec fuel_is
def pvSig : FuncId → Sig
  | 3 => ⟨[(.ro, (.sl (.int .u8))), (.ro, (.sl (.int .u8)))], [(false, .bool)]⟩
  | 9 => ⟨[(.ro, (.sl (.int .u8))), (.ro, (.sl (.int .u8)))], [(false, .bool)]⟩
  | 10 => ⟨[(.ro, (.sl (.int .u8)))], [(false, (.pair (.int .i64) (.pair (.int .i64) (.pair (.os (.os (.pair (.int .i64) (.pair (.int .i64) (.pair (.int .i64) (.pair (.int .i64) (.pair (.int .i64) (.int .i64)))))))) (.pair (.os (.int .i64)) (.pair (.int .i64) .bool)))))), (false, (.pair (.int .i64) (.pair (.int .i64) (.pair (.int .i64) (.pair (.int .i64) (.pair (.int .i64) (.int .i64)))))))]⟩
  | 11 => ⟨[(.ro, (.pair (.int .i64) (.pair (.int .i64) (.pair (.sl (.sl (.pair (.int .i64) (.pair (.int .i64) (.pair (.int .i64) (.pair (.int .i64) (.pair (.int .i64) (.int .i64)))))))) (.pair (.sl (.int .i64)) (.pair (.int .i64) .bool)))))), (.ro, (.pair (.int .i64) (.pair (.int .i64) (.pair (.int .i64) (.pair (.int .i64) (.pair (.int .i64) (.int .i64)))))))], [(false, (.pair (.int .i64) (.pair (.int .i64) (.pair (.os (.os (.pair (.int .i64) (.pair (.int .i64) (.pair (.int .i64) (.pair (.int .i64) (.pair (.int .i64) (.int .i64)))))))) (.pair (.os (.int .i64)) (.pair (.int .i64) .bool)))))), (false, .bool), (false, .bool)]⟩
  | 12 => ⟨[(.ro, (.pair (.int .i64) (.pair (.int .i64) (.pair (.sl (.sl (.pair (.int .i64) (.pair (.int .i64) (.pair (.int .i64) (.pair (.int .i64) (.pair (.int .i64) (.int .i64)))))))) (.pair (.sl (.int .i64)) (.pair (.int .i64) .bool)))))), (.ro, (.pair (.int .i64) (.pair (.int .i64) (.pair (.int .i64) (.pair (.int .i64) (.pair (.int .i64) (.int .i64)))))))], [(false, (.pair (.int .i64) (.pair (.int .i64) (.pair (.os (.os (.pair (.int .i64) (.pair (.int .i64) (.pair (.int .i64) (.pair (.int .i64) (.pair (.int .i64) (.int .i64)))))))) (.pair (.os (.int .i64)) (.pair (.int .i64) .bool)))))), (false, .bool), (false, .bool)]⟩
  | 13 => ⟨[(.ro, (.pair (.int .i64) (.pair (.int .i64) (.pair (.sl (.sl (.pair (.int .i64) (.pair (.int .i64) (.pair (.int .i64) (.pair (.int .i64) (.pair (.int .i64) (.int .i64)))))))) (.pair (.sl (.int .i64)) (.pair (.int .i64) .bool)))))), (.ro, (.pair (.int .i64) (.pair (.int .i64) (.pair (.sl (.sl (.pair (.int .i64) (.pair (.int .i64) (.pair (.int .i64) (.pair (.int .i64) (.pair (.int .i64) (.int .i64)))))))) (.pair (.sl (.int .i64)) (.pair (.int .i64) .bool))))))], [(false, .bool)]⟩
  | 14 => ⟨[(.ro, (.pair (.int .i64) (.pair (.int .i64) (.pair (.int .i64) (.pair (.int .i64) (.pair (.int .i64) (.int .i64))))))), (.ro, (.int .i64))], [(false, (.int .i64)), (false, .bool)]⟩
  | 15 => ⟨[(.ro, (.sl (.int .u8)))], [(false, (.pair (.int .i64) (.pair (.int .i64) (.pair (.os (.os (.pair (.int .i64) (.pair (.int .i64) (.pair (.int .i64) (.pair (.int .i64) (.pair (.int .i64) (.int .i64)))))))) (.pair (.os (.int .i64)) (.pair (.int .i64) .bool)))))), (false, (.int .i64))]⟩
  | 16 => ⟨[(.ro, (.pair (.int .i64) (.pair (.int .i64) (.pair (.sl (.sl (.pair (.int .i64) (.pair (.int .i64) (.pair (.int .i64) (.pair (.int .i64) (.pair (.int .i64) (.int .i64)))))))) (.pair (.sl (.int .i64)) (.pair (.int .i64) .bool)))))), (.ro, (.int .i64))], [(false, (.int .i64)), (false, .bool)]⟩
  | 17 => ⟨[(.ro, (.pair (.int .i64) (.pair (.int .i64) (.pair (.sl (.sl (.pair (.int .i64) (.pair (.int .i64) (.pair (.int .i64) (.pair (.int .i64) (.pair (.int .i64) (.int .i64)))))))) (.pair (.sl (.int .i64)) (.pair (.int .i64) .bool)))))), (.ro, (.int .i64))], [(false, (.int .i64)), (false, .bool)]⟩
  | 18 => ⟨[(.ro, (.pair (.int .i64) (.pair (.int .i64) (.pair (.sl (.sl (.pair (.int .i64) (.pair (.int .i64) (.pair (.int .i64) (.pair (.int .i64) (.pair (.int .i64) (.int .i64)))))))) (.pair (.sl (.int .i64)) (.pair (.int .i64) .bool)))))), (.ro, (.int .i64))], [(false, (.pair (.int .i64) (.pair (.int .i64) (.pair (.os (.os (.pair (.int .i64) (.pair (.int .i64) (.pair (.int .i64) (.pair (.int .i64) (.pair (.int .i64) (.int .i64)))))))) (.pair (.os (.int .i64)) (.pair (.int .i64) .bool)))))), (false, .bool)]⟩
  | 19 => ⟨[(.ro, (.pair (.int .i64) (.pair (.int .i64) (.pair (.sl (.sl (.pair (.int .i64) (.pair (.int .i64) (.pair (.int .i64) (.pair (.int .i64) (.pair (.int .i64) (.int .i64)))))))) (.pair (.sl (.int .i64)) (.pair (.int .i64) .bool)))))), (.ro, (.int .i64))], [(false, (.pair (.int .i64) (.pair (.int .i64) (.pair (.os (.os (.pair (.int .i64) (.pair (.int .i64) (.pair (.int .i64) (.pair (.int .i64) (.pair (.int .i64) (.int .i64)))))))) (.pair (.os (.int .i64)) (.pair (.int .i64) .bool)))))), (false, .bool)]⟩
  | 20 => ⟨[(.ro, (.pair (.int .i64) (.pair (.int .i64) (.pair (.sl (.sl (.pair (.int .i64) (.pair (.int .i64) (.pair (.int .i64) (.pair (.int .i64) (.pair (.int .i64) (.int .i64)))))))) (.pair (.sl (.int .i64)) (.pair (.int .i64) .bool))))))], [(true, (.sl (.int .i64))), (false, .bool)]⟩
  | 21 => ⟨[(.ro, (.sl (.int .i64)))], [(false, (.int .i64))]⟩
  | 22 => ⟨[(.ro, (.sl (.int .u8)))], [(false, (.int .i64)), (false, (.int .i64)), (false, (.int .i64))]⟩
  | 23 => ⟨[(.ro, (.int .i64)), (.ro, (.int .i64)), (.ro, (.int .i64))], [(false, (.pair (.int .i64) (.pair (.int .i64) (.pair (.os (.os (.pair (.int .i64) (.pair (.int .i64) (.pair (.int .i64) (.pair (.int .i64) (.pair (.int .i64) (.int .i64)))))))) (.pair (.os (.int .i64)) (.pair (.int .i64) .bool)))))), (false, .bool)]⟩
  | 24 => ⟨[(.ro, (.int .i64)), (.ro, (.int .i64)), (.ro, (.int .i64))], [(false, (.pair (.int .i64) (.pair (.int .i64) (.pair (.os (.os (.pair (.int .i64) (.pair (.int .i64) (.pair (.int .i64) (.pair (.int .i64) (.pair (.int .i64) (.int .i64)))))))) (.pair (.os (.int .i64)) (.pair (.int .i64) .bool)))))), (false, .bool)]⟩
  | 25 => ⟨[(.ro, (.sl (.int .u8)))], [(false, (.pair (.int .i64) (.pair (.int .i64) (.pair (.os (.os (.pair (.int .i64) (.pair (.int .i64) (.pair (.int .i64) (.pair (.int .i64) (.pair (.int .i64) (.int .i64)))))))) (.pair (.os (.int .i64)) (.pair (.int .i64) .bool))))))]⟩
  | 26 => ⟨[(.ro, (.pair (.int .i64) (.pair (.int .i64) (.pair (.sl (.sl (.pair (.int .i64) (.pair (.int .i64) (.pair (.int .i64) (.pair (.int .i64) (.pair (.int .i64) (.int .i64)))))))) (.pair (.sl (.int .i64)) (.pair (.int .i64) .bool))))))], [(false, (.pair (.int .i64) (.pair (.int .i64) (.pair (.os (.os (.pair (.int .i64) (.pair (.int .i64) (.pair (.int .i64) (.pair (.int .i64) (.pair (.int .i64) (.int .i64)))))))) (.pair (.os (.int .i64)) (.pair (.int .i64) .bool)))))), (false, (.pair (.int .i64) (.pair (.int .i64) (.pair (.int .i64) (.pair (.int .i64) (.pair (.int .i64) (.int .i64))))))), (false, .bool)]⟩
  | 27 => ⟨[(.ro, (.pair (.int .i64) (.pair (.int .i64) (.pair (.sl (.sl (.pair (.int .i64) (.pair (.int .i64) (.pair (.int .i64) (.pair (.int .i64) (.pair (.int .i64) (.int .i64)))))))) (.pair (.sl (.int .i64)) (.pair (.int .i64) .bool))))))], [(false, (.pair (.int .i64) (.pair (.int .i64) (.pair (.os (.os (.pair (.int .i64) (.pair (.int .i64) (.pair (.int .i64) (.pair (.int .i64) (.pair (.int .i64) (.int .i64)))))))) (.pair (.os (.int .i64)) (.pair (.int .i64) .bool)))))), (false, (.pair (.int .i64) (.pair (.int .i64) (.pair (.int .i64) (.pair (.int .i64) (.pair (.int .i64) (.int .i64))))))), (false, .bool)]⟩
  | 49 => ⟨[(.ps, (.pair (.sl (.int .u8)) (.pair (.int .i64) (.int .u64))))], [(false, (.pair (.int .i64) (.pair (.int .i64) (.pair (.os (.os (.pair (.int .i64) (.pair (.int .i64) (.pair (.int .i64) (.pair (.int .i64) (.pair (.int .i64) (.int .i64)))))))) (.pair (.os (.int .i64)) (.pair (.int .i64) .bool))))))]⟩
  | 50 => ⟨[(.ps, (.pair (.sl (.int .u8)) (.pair (.int .i64) (.int .u64))))], [(false, (.pair (.int .i64) (.pair (.int .i64) (.pair (.int .i64) (.pair (.int .i64) (.pair (.int .i64) (.int .i64)))))))]⟩
  | 51 => ⟨[(.ro, (.pair (.int .i64) (.pair (.int .i64) (.pair (.sl (.sl (.pair (.int .i64) (.pair (.int .i64) (.pair (.int .i64) (.pair (.int .i64) (.pair (.int .i64) (.int .i64)))))))) (.pair (.sl (.int .i64)) (.pair (.int .i64) .bool))))))], [(false, .bool)]⟩
  | 52 => ⟨[(.ro, (.pair (.int .i64) (.pair (.int .i64) (.pair (.int .i64) (.pair (.int .i64) (.pair (.int .i64) (.int .i64)))))))], [(false, .bool)]⟩
  | 54 => ⟨[(.ro, (.pair (.int .i64) (.pair (.int .i64) (.pair (.sl (.sl (.pair (.int .i64) (.pair (.int .i64) (.pair (.int .i64) (.pair (.int .i64) (.pair (.int .i64) (.int .i64)))))))) (.pair (.sl (.int .i64)) (.pair (.int .i64) .bool))))))], [(false, (.pair (.int .i64) (.pair (.int .i64) (.pair (.os (.os (.pair (.int .i64) (.pair (.int .i64) (.pair (.int .i64) (.pair (.int .i64) (.pair (.int .i64) (.int .i64)))))))) (.pair (.os (.int .i64)) (.pair (.int .i64) .bool))))))]⟩
  | 56 => ⟨[(.ro, (.pair (.int .i64) (.pair (.int .i64) (.pair (.sl (.sl (.pair (.int .i64) (.pair (.int .i64) (.pair (.int .i64) (.pair (.int .i64) (.pair (.int .i64) (.int .i64)))))))) (.pair (.sl (.int .i64)) (.pair (.int .i64) .bool))))))], [(false, .bool)]⟩
  | 57 => ⟨[(.ro, (.pair (.int .i64) (.pair (.int .i64) (.pair (.int .i64) (.pair (.int .i64) (.pair (.int .i64) (.int .i64)))))))], [(false, .bool)]⟩
  | 58 => ⟨[(.ro, (.pair (.int .i64) (.pair (.int .i64) (.pair (.sl (.sl (.pair (.int .i64) (.pair (.int .i64) (.pair (.int .i64) (.pair (.int .i64) (.pair (.int .i64) (.int .i64)))))))) (.pair (.sl (.int .i64)) (.pair (.int .i64) .bool)))))), (.ro, (.int .i64))], [(false, .bool)]⟩
  | 59 => ⟨[(.ro, (.pair (.int .i64) (.pair (.int .i64) (.pair (.sl (.sl (.pair (.int .i64) (.pair (.int .i64) (.pair (.int .i64) (.pair (.int .i64) (.pair (.int .i64) (.int .i64)))))))) (.pair (.sl (.int .i64)) (.pair (.int .i64) .bool))))))], [(false, (.pair (.int .i64) (.pair (.int .i64) (.pair (.os (.os (.pair (.int .i64) (.pair (.int .i64) (.pair (.int .i64) (.pair (.int .i64) (.pair (.int .i64) (.int .i64)))))))) (.pair (.os (.int .i64)) (.pair (.int .i64) .bool))))))]⟩
  | 61 => ⟨[(.ro, (.sl (.int .i64))), (.ro, (.sl (.int .i64)))], [(false, .bool)]⟩
  | 62 => ⟨[(.ro, (.sl (.pair (.int .i64) (.pair (.int .i64) (.pair (.int .i64) (.pair (.int .i64) (.pair (.int .i64) (.int .i64)))))))), (.ro, (.sl (.pair (.int .i64) (.pair (.int .i64) (.pair (.int .i64) (.pair (.int .i64) (.pair (.int .i64) (.int .i64))))))))], [(false, .bool)]⟩
  | 63 => ⟨[(.ro, (.int .i64))], [(false, .bool)]⟩
  | 64 => ⟨[(.ro, (.pair (.int .i64) (.pair (.int .i64) (.pair (.int .i64) (.pair (.int .i64) (.pair (.int .i64) (.int .i64))))))), (.ro, (.int .i64))], [(false, (.int .i64))]⟩
  | 65 => ⟨[(.ps, (.pair (.sl (.int .u8)) (.pair (.int .i64) (.int .u64)))), (.ro, (.int .i64))], [(false, (.int .i64))]⟩
  | 66 => ⟨[(.ro, (.int .i64)), (.ro, (.int .i64)), (.ro, (.int .i64))], [(false, (.int .i64))]⟩
  | 67 => ⟨[(.ro, (.sl (.pair (.int .i64) (.pair (.int .i64) (.pair (.int .i64) (.pair (.int .i64) (.pair (.int .i64) (.int .i64))))))))], [(false, (.int .i64))]⟩
  | 68 => ⟨[(.ro, (.int .i64)), (.ro, (.int .i64)), (.ro, (.int .i64))], [(false, .bool)]⟩
  | 69 => ⟨[(.ro, (.int .i64)), (.ro, (.int .i64))], [(false, (.int .i64))]⟩
  | 70 => ⟨[(.ro, (.sl (.pair (.int .i64) (.pair (.int .i64) (.pair (.int .i64) (.pair (.int .i64) (.pair (.int .i64) (.int .i64))))))))], [(false, (.int .i64))]⟩
  | 71 => ⟨[(.ps, (.pair (.sl (.int .u8)) (.pair (.int .i64) (.int .u64)))), (.ro, (.sl (.int .i64)))], [(false, (.int .i64))]⟩
  | 72 => ⟨[(.ro, (.sl (.int .u8)))], [(false, (.pair (.int .i64) (.pair (.int .i64) (.pair (.os (.os (.pair (.int .i64) (.pair (.int .i64) (.pair (.int .i64) (.pair (.int .i64) (.pair (.int .i64) (.int .i64)))))))) (.pair (.os (.int .i64)) (.pair (.int .i64) .bool))))))]⟩
  | 90 => ⟨[(.ro, (.pair (.int .i64) (.pair (.int .i64) (.pair (.int .i64) (.pair (.int .i64) (.pair (.int .i64) (.int .i64))))))), (.ro, (.int .i64))], [(false, (.int .i64))]⟩
  | 91 => ⟨[(.ro, (.sl (.pair (.int .i64) (.pair (.int .i64) (.pair (.int .i64) (.pair (.int .i64) (.pair (.int .i64) (.int .i64)))))))), (.ro, (.int .i64))], [(false, (.int .i64))]⟩
  | 93 => ⟨[(.ro, (.sl (.pair (.int .i64) (.pair (.int .i64) (.pair (.int .i64) (.pair (.int .i64) (.pair (.int .i64) (.int .i64))))))))], [(false, .bool)]⟩
  | 94 => ⟨[(.ro, (.sl (.sl (.pair (.int .i64) (.pair (.int .i64) (.pair (.int .i64) (.pair (.int .i64) (.pair (.int .i64) (.int .i64)))))))))], [(true, (.sl (.pair (.int .i64) (.pair (.int .i64) (.pair (.int .i64) (.pair (.int .i64) (.pair (.int .i64) (.int .i64))))))))]⟩
  | 96 => ⟨[(.ps, (.pair (.sl (.int .u8)) (.pair (.int .i64) (.int .u64)))), (.ro, (.int .i64))], [(false, .bool)]⟩
  | 97 => ⟨[(.ps, (.pair (.sl (.int .u8)) (.pair (.int .i64) (.int .u64))))], [(false, (.pair (.int .i64) (.pair (.int .i64) (.pair (.int .i64) (.pair (.int .i64) (.pair (.int .i64) (.int .i64)))))))]⟩
  | 98 => ⟨[(.ps, (.pair (.sl (.int .u8)) (.pair (.int .i64) (.int .u64))))], [(false, (.pair (.int .i64) (.pair (.int .i64) (.pair (.int .i64) (.pair (.int .i64) (.pair (.int .i64) (.int .i64)))))))]⟩
  | 99 => ⟨[(.ro, (.pair (.int .i64) (.pair (.int .i64) (.pair (.sl (.sl (.pair (.int .i64) (.pair (.int .i64) (.pair (.int .i64) (.pair (.int .i64) (.pair (.int .i64) (.int .i64)))))))) (.pair (.sl (.int .i64)) (.pair (.int .i64) .bool)))))), (.ro, (.int .i64))], [(false, .bool)]⟩
  | 100 => ⟨[(.ro, (.pair (.int .i64) (.pair (.int .i64) (.pair (.int .i64) (.pair (.int .i64) (.pair (.int .i64) (.int .i64)))))))], [(false, (.pair (.int .i64) (.pair (.int .i64) (.pair (.int .i64) (.int .i64)))))]⟩
  | 103 => ⟨[(.ro, (.sl (.pair (.int .i64) (.pair (.int .i64) (.pair (.int .i64) (.pair (.int .i64) (.pair (.int .i64) (.int .i64)))))))), (.ro, (.int .i64))], [(false, .bool)]⟩
  | 104 => ⟨[(.ro, (.sl (.sl (.pair (.int .i64) (.pair (.int .i64) (.pair (.int .i64) (.pair (.int .i64) (.pair (.int .i64) (.int .i64)))))))))], [(true, (.sl (.os (.pair (.int .i64) (.pair (.int .i64) (.pair (.int .i64) (.pair (.int .i64) (.pair (.int .i64) (.int .i64)))))))))]⟩
  | 105 => ⟨[(.ro, (.sl (.int .i64)))], [(true, (.sl (.int .i64)))]⟩
  | 106 => ⟨[(.ro, (.sl (.int .i64))), (.ro, (.int .i64)), (.ro, (.int .i64))], [(false, .bool)]⟩
  | 107 => ⟨[(.ro, (.sl (.int .i64))), (.ro, (.int .i64))], [(false, .bool)]⟩
  | 108 => ⟨[(.ro, (.int .i64))], [(false, .bool)]⟩
  | 109 => ⟨[(.ro, (.sl (.int .i64)))], [(true, (.sl (.int .i64)))]⟩
  | 110 => ⟨[(.ps, (.pair (.sl (.int .u8)) (.pair (.int .i64) (.int .u64))))], [(false, (.int .i64))]⟩
  | 113 => ⟨[(.mv, (.sl (.pair (.int .i64) (.pair (.int .i64) (.pair (.int .i64) (.pair (.int .i64) (.pair (.int .i64) (.int .i64)))))))), (.ro, (.int .i64)), (.ro, (.int .i64))], [(true, (.sl (.pair (.int .i64) (.pair (.int .i64) (.pair (.int .i64) (.pair (.int .i64) (.pair (.int .i64) (.int .i64))))))))]⟩
  | 120 => ⟨[(.ro, (.sl (.pair (.int .i64) (.pair (.int .i64) (.pair (.int .i64) (.pair (.int .i64) (.pair (.int .i64) (.int .i64))))))))], [(true, (.sl (.pair (.int .i64) (.pair (.int .i64) (.pair (.int .i64) (.pair (.int .i64) (.pair (.int .i64) (.int .i64))))))))]⟩
  | _ => ⟨[], []⟩
def pvLoops : FuncId → Nat → LoopA
  | 13, 0 => ⟨[(4, false, .bool), (52, false, (.int .i64))], [], [], []⟩
  | 20, 0 => ⟨[(4, true, (.sl (.int .i64))), (14, false, (.int .i64))], [], [], []⟩
  | 21, 0 => ⟨[(3, false, (.int .i64)), (8, false, (.int .i64))], [], [], []⟩
  | 49, 0 => ⟨[(5, false, (.int .i64))], [(0, (.pair (.sl (.int .u8)) (.pair (.int .i64) (.int .u64)))), (4, (.pair (.int .i64) (.pair (.int .i64) (.pair (.os (.os (.pair (.int .i64) (.pair (.int .i64) (.pair (.int .i64) (.pair (.int .i64) (.pair (.int .i64) (.int .i64)))))))) (.pair (.os (.int .i64)) (.pair (.int .i64) .bool))))))], [], []⟩
  | 49, 1 => ⟨[(7, false, (.int .i64))], [(4, (.pair (.int .i64) (.pair (.int .i64) (.pair (.os (.os (.pair (.int .i64) (.pair (.int .i64) (.pair (.int .i64) (.pair (.int .i64) (.pair (.int .i64) (.int .i64)))))))) (.pair (.os (.int .i64)) (.pair (.int .i64) .bool))))))], [], []⟩
  | 49, 2 => ⟨[(8, false, (.int .i64))], [(4, (.pair (.int .i64) (.pair (.int .i64) (.pair (.os (.os (.pair (.int .i64) (.pair (.int .i64) (.pair (.int .i64) (.pair (.int .i64) (.pair (.int .i64) (.int .i64)))))))) (.pair (.os (.int .i64)) (.pair (.int .i64) .bool))))))], [], []⟩
  | 51, 0 => ⟨[(2, false, .bool), (55, false, (.int .i64))], [], [], []⟩
  | 52, 0 => ⟨[(2, false, .bool), (7, false, (.int .i64))], [], [], []⟩
  | 56, 0 => ⟨[(2, false, .bool), (4, true, (.sl (.int .i64))), (54, false, (.int .i64))], [], [], []⟩
  | 56, 1 => ⟨[(2, false, .bool), (4, true, (.sl (.int .i64))), (79, false, (.int .i64))], [], [], []⟩
  | 58, 0 => ⟨[(4, false, .bool), (10, false, (.int .i64))], [], [], []⟩
  | 59, 0 => ⟨[(21, false, (.int .i64))], [(3, (.pair (.int .i64) (.pair (.int .i64) (.pair (.os (.os (.pair (.int .i64) (.pair (.int .i64) (.pair (.int .i64) (.pair (.int .i64) (.pair (.int .i64) (.int .i64)))))))) (.pair (.os (.int .i64)) (.pair (.int .i64) .bool))))))], [], []⟩
  | 61, 0 => ⟨[(4, false, .bool), (13, false, (.int .i64))], [], [], []⟩
  | 62, 0 => ⟨[(4, false, .bool), (13, false, (.int .i64))], [], [], []⟩
  | 64, 0 => ⟨[(5, false, (.int .i64)), (15, false, (.int .i64))], [], [], []⟩
  | 67, 0 => ⟨[(3, false, (.int .i64)), (8, false, (.int .i64))], [], [], []⟩
  | 70, 0 => ⟨[(3, false, (.int .i64)), (8, false, (.int .i64))], [], [], []⟩
  | 74, 0 => ⟨[], [(0, (.pair (.int .i64) (.pair (.int .i64) (.pair (.os (.os (.pair (.int .i64) (.pair (.int .i64) (.pair (.int .i64) (.pair (.int .i64) (.pair (.int .i64) (.int .i64)))))))) (.pair (.os (.int .i64)) (.pair (.int .i64) .bool))))))], [], []⟩
  | 75, 0 => ⟨[(2, false, .bool), (10, false, (.int .i64))], [], [], []⟩
  | 76, 0 => ⟨[], [(0, (.pair (.int .i64) (.pair (.int .i64) (.pair (.os (.os (.pair (.int .i64) (.pair (.int .i64) (.pair (.int .i64) (.pair (.int .i64) (.pair (.int .i64) (.int .i64)))))))) (.pair (.os (.int .i64)) (.pair (.int .i64) .bool))))))], [], []⟩
  | 90, 0 => ⟨[(5, false, (.int .i64)), (16, false, (.int .i64))], [], [], []⟩
  | 91, 0 => ⟨[(4, false, (.int .i64)), (9, false, (.int .i64))], [], [], []⟩
  | 93, 0 => ⟨[(2, false, .bool), (7, false, (.int .i64))], [], [], []⟩
  | 94, 0 => ⟨[(3, false, (.int .i64)), (11, false, (.int .i64))], [], [], []⟩
  | 94, 1 => ⟨[(6, true, (.sl (.pair (.int .i64) (.pair (.int .i64) (.pair (.int .i64) (.pair (.int .i64) (.pair (.int .i64) (.int .i64)))))))), (27, false, (.int .i64))], [], [], []⟩
  | 99, 0 => ⟨[(4, false, .bool), (37, false, (.int .i64))], [], [], []⟩
  | 104, 0 => ⟨[(10, false, (.int .i64))], [], [(3, (.os (.pair (.int .i64) (.pair (.int .i64) (.pair (.int .i64) (.pair (.int .i64) (.pair (.int .i64) (.int .i64))))))))], []⟩
  | 106, 0 => ⟨[(6, false, .bool), (11, false, (.int .i64))], [], [], []⟩
  | 107, 0 => ⟨[(4, false, .bool), (9, false, (.int .i64))], [], [], []⟩
  | 117, 0 => ⟨[(4, false, (.int .i64)), (8, false, (.int .i64))], [], [], []⟩
  | 121, 0 => ⟨[(4, false, (.int .i64)), (8, false, (.int .i64))], [], [], []⟩
  | _, _ => ⟨[], [], [], []⟩
def pvEloops : FuncId → Nat → List (Nat × Value)
  | 13, 0 => [(2, (.pointer (some ⟨0, 0, none⟩))), (3, (.pointer (some ⟨0, 0, none⟩))), (4, (.bool false)), (51, (.int .i64 0)), (52, (.int .i64 0))]
  | 20, 0 => [(2, (.slice none 0 0)), (3, (.bool false)), (4, (.slice none 0 0)), (12, (.slice none 0 0)), (13, (.int .i64 0)), (14, (.int .i64 0))]
  | 21, 0 => [(2, (.int .i64 0)), (3, (.int .i64 0)), (6, (.slice none 0 0)), (7, (.int .i64 0)), (8, (.int .i64 0))]
  | 49, 0 => [(0, (.pointer (some ⟨0, 0, none⟩))), (2, (.pointer (some ⟨0, 0, none⟩))), (3, (.int .i64 0)), (4, (.pointer (some ⟨0, 0, none⟩))), (5, (.int .i64 0))]
  | 49, 1 => [(0, (.pointer (some ⟨0, 0, none⟩))), (2, (.pointer (some ⟨0, 0, none⟩))), (3, (.int .i64 0)), (4, (.pointer (some ⟨0, 0, none⟩))), (7, (.int .i64 0))]
  | 49, 2 => [(2, (.pointer (some ⟨0, 0, none⟩))), (4, (.pointer (some ⟨0, 0, none⟩))), (8, (.int .i64 0))]
  | 51, 0 => [(1, (.pointer (some ⟨0, 0, none⟩))), (2, (.bool false)), (54, (.int .i64 0)), (55, (.int .i64 0))]
  | 52, 0 => [(1, (.pointer (some ⟨0, 0, none⟩))), (2, (.bool false)), (6, (.agg #[(.int .i64 0), (.int .i64 0), (.int .i64 0), (.int .i64 0)])), (7, (.int .i64 0))]
  | 56, 0 => [(1, (.pointer (some ⟨0, 0, none⟩))), (2, (.bool false)), (3, (.int .i64 0)), (4, (.slice none 0 0)), (52, (.slice none 0 0)), (53, (.int .i64 0)), (54, (.int .i64 0))]
  | 56, 1 => [(1, (.pointer (some ⟨0, 0, none⟩))), (2, (.bool false)), (3, (.int .i64 0)), (4, (.slice none 0 0)), (5, (.int .i64 0)), (6, (.slice none 0 0)), (52, (.slice none 0 0)), (53, (.int .i64 0)), (54, (.int .i64 0)), (55, (.bool false)), (56, (.int .i64 0)), (57, (.pointer (some ⟨0, 0, none⟩))), (58, (.slice none 0 0)), (59, (.slice none 0 0)), (60, (.int .i64 0)), (61, (.pointer (some ⟨0, 0, none⟩))), (62, (.int .i64 0)), (63, (.bool false)), (64, (.bool false)), (76, (.bool false)), (77, (.slice none 0 0)), (78, (.int .i64 0)), (79, (.int .i64 0))]
  | 58, 0 => [(1, (.int .i64 0)), (4, (.bool false)), (8, (.slice none 0 0)), (9, (.int .i64 0)), (10, (.int .i64 0))]
  | 59, 0 => [(2, (.pointer (some ⟨0, 0, none⟩))), (3, (.pointer (some ⟨0, 0, none⟩))), (19, (.slice none 0 0)), (20, (.int .i64 0)), (21, (.int .i64 0))]
  | 61, 0 => [(0, (.slice none 0 0)), (1, (.slice none 0 0)), (4, (.bool false)), (12, (.int .i64 0)), (13, (.int .i64 0))]
  | 62, 0 => [(0, (.slice none 0 0)), (1, (.slice none 0 0)), (4, (.bool false)), (12, (.int .i64 0)), (13, (.int .i64 0))]
  | 64, 0 => [(1, (.int .i64 0)), (4, (.int .i64 0)), (5, (.int .i64 0)), (14, (.agg #[(.int .i64 0), (.int .i64 0), (.int .i64 0)])), (15, (.int .i64 0))]
  | 67, 0 => [(2, (.int .i64 0)), (3, (.int .i64 0)), (6, (.slice none 0 0)), (7, (.int .i64 0)), (8, (.int .i64 0))]
  | 70, 0 => [(2, (.int .i64 0)), (3, (.int .i64 0)), (6, (.slice none 0 0)), (7, (.int .i64 0)), (8, (.int .i64 0))]
  | 74, 0 => [(0, (.pointer (some ⟨0, 0, none⟩))), (2, (.pointer (some ⟨0, 0, none⟩)))]
  | 75, 0 => [(2, (.bool false)), (8, (.slice none 0 0)), (9, (.int .i64 0)), (10, (.int .i64 0))]
  | 76, 0 => [(0, (.pointer (some ⟨0, 0, none⟩))), (2, (.pointer (some ⟨0, 0, none⟩)))]
  | 90, 0 => [(1, (.int .i64 0)), (4, (.int .i64 0)), (5, (.int .i64 0)), (14, (.slice none 0 0)), (15, (.int .i64 0)), (16, (.int .i64 0))]
  | 91, 0 => [(1, (.int .i64 0)), (4, (.int .i64 0)), (7, (.slice none 0 0)), (8, (.int .i64 0)), (9, (.int .i64 0))]
  | 93, 0 => [(0, (.slice none 0 0)), (2, (.bool false)), (5, (.slice none 0 0)), (6, (.int .i64 0)), (7, (.int .i64 0))]
  | 94, 0 => [(0, (.slice none 0 0)), (2, (.slice none 0 0)), (3, (.int .i64 0)), (9, (.slice none 0 0)), (10, (.int .i64 0)), (11, (.int .i64 0))]
  | 94, 1 => [(2, (.slice none 0 0)), (6, (.slice none 0 0)), (25, (.slice none 0 0)), (26, (.int .i64 0)), (27, (.int .i64 0))]
  | 99, 0 => [(1, (.int .i64 0)), (2, (.pointer (some ⟨0, 0, none⟩))), (4, (.bool false)), (5, (.slice none 0 0)), (6, (.int .i64 0)), (35, (.slice none 0 0)), (36, (.int .i64 0)), (37, (.int .i64 0))]
  | 104, 0 => [(0, (.slice none 0 0)), (2, (.slice none 0 0)), (3, (.slice none 0 0)), (9, (.int .i64 0)), (10, (.int .i64 0))]
  | 106, 0 => [(1, (.int .i64 0)), (2, (.int .i64 0)), (6, (.bool false)), (9, (.slice none 0 0)), (10, (.int .i64 0)), (11, (.int .i64 0))]
  | 107, 0 => [(1, (.int .i64 0)), (4, (.bool false)), (7, (.slice none 0 0)), (8, (.int .i64 0)), (9, (.int .i64 0))]
  | 117, 0 => [(0, (.slice none 0 0)), (1, .nilFunc), (4, (.int .i64 0)), (7, (.int .i64 0)), (8, (.int .i64 0))]
  | 121, 0 => [(0, (.slice none 0 0)), (1, .nilFunc), (4, (.int .i64 0)), (7, (.int .i64 0)), (8, (.int .i64 0))]
  | _, _ => []
def pvInline : FuncId → Bool
  | 53 => true
  | 55 => true
  | 60 => true
  | 73 => true
  | 74 => true
  | 75 => true
  | 76 => true
  | 101 => true
  | 102 => true
  | 111 => true
  | 112 => true
  | 114 => true
  | 116 => true
  | 117 => true
  | 118 => true
  | 119 => true
  | 121 => true
  | _ => false
def pvOwn : FuncId → Bool
  | 23 => true
  | 24 => true
  | 49 => true
  | 59 => true
  | 104 => true
  | _ => false
def pvExt : FuncId → Option (List Value → Nat → Go.Ev.Heap → Option (Value × Go.Ev.Heap))
  | 113 => some (delX 6 zsDel)
  | _ => none
def pvVext : (f : FuncId) → Option (TupT (pvSig f).ptys → Option (TupT (pvSig f).rtys))
  | 113 => some (fun a => delV tyDel a)
  | _ => none
noncomputable def pvAnn : AnnV := ⟨fuelN, pvSig, pvLoops, pvEloops, pvInline, pvOwn, pvExt, pvVext⟩

/-- loop.example/g00838/laws.big -/
noncomputable def g9 (d : Nat) (l1 : List Int) (l2 : List Int) : Option Bool := (lev Try.prog pvAnn d).call 9 (l1, l2)
/-- loop.example/g00838/spec.l1Own -/
noncomputable def g109 (d : Nat) (l1 : List Int) : Option (List Int) := (lev Try.prog pvAnn d).call 109 (l1)
/-- loop.example/g00838/spec.faOwn -/
noncomputable def g59 (d : Nat) (x1 : (Int × Int × (List (List (Int × Int × Int × Int × Int × Int))) × (List Int) × Int × Bool)) : Option (Int × Int × (List (List (Int × Int × Int × Int × Int × Int))) × (List Int) × Int × Bool) := (lev Try.prog pvAnn d).call 59 (x1)
/-- (*loop.example/g00838/spec.l1Cur).next -/
noncomputable def g110 (d : Nat) (x1 : ((List Int) × Int × Int)) : Option (Int × ((List Int) × Int × Int)) := (lev Try.prog pvAnn d).call 110 (x1)
/-- (*loop.example/g00838/spec.l1Cur).pick -/
noncomputable def g65 (d : Nat) (x1 : ((List Int) × Int × Int)) (n2 : Int) : Option (Int × ((List Int) × Int × Int)) := (lev Try.prog pvAnn d).call 65 (x1, n2)
/-- (*loop.example/g00838/spec.l1Cur).among -/
noncomputable def g71 (d : Nat) (x1 : ((List Int) × Int × Int)) (l2 : List Int) : Option (Int × ((List Int) × Int × Int)) := (lev Try.prog pvAnn d).call 71 (x1, l2)
/-- loop.example/g00838/spec.pkFlow -/
noncomputable def g90 (d : Nat) (x1 : (Int × Int × Int × Int × Int × Int)) (n2 : Int) : Option Int := (lev Try.prog pvAnn d).call 90 (x1, n2)
/-- (*loop.example/g00838/spec.l1Cur).one -/
noncomputable def g96 (d : Nat) (x1 : ((List Int) × Int × Int)) (n2 : Int) : Option (Bool × ((List Int) × Int × Int)) := (lev Try.prog pvAnn d).call 96 (x1, n2)
/-- (*loop.example/g00838/spec.l1Cur).packet -/
noncomputable def g97 (d : Nat) (x1 : ((List Int) × Int × Int)) : Option ((Int × Int × Int × Int × Int × Int) × ((List Int) × Int × Int)) := (lev Try.prog pvAnn d).call 97 (x1)
/-- (*loop.example/g00838/spec.l1Cur).fair -/
noncomputable def g49 (d : Nat) (x1 : ((List Int) × Int × Int)) : Option ((Int × Int × (List (List (Int × Int × Int × Int × Int × Int))) × (List Int) × Int × Bool) × ((List Int) × Int × Int)) := (lev Try.prog pvAnn d).call 49 (x1)
/-- (*loop.example/g00838/spec.l1Cur).anyPacket -/
noncomputable def g98 (d : Nat) (x1 : ((List Int) × Int × Int)) : Option ((Int × Int × Int × Int × Int × Int) × ((List Int) × Int × Int)) := (lev Try.prog pvAnn d).call 98 (x1)
/-- (*loop.example/g00838/spec.l1Cur).comer -/
noncomputable def g50 (d : Nat) (x1 : ((List Int) × Int × Int)) : Option ((Int × Int × Int × Int × Int × Int) × ((List Int) × Int × Int)) := (lev Try.prog pvAnn d).call 50 (x1)
/-- loop.example/g00838/spec.DrawPutFair -/
noncomputable def g10 (d : Nat) (l1 : List Int) : Option ((Int × Int × (List (List (Int × Int × Int × Int × Int × Int))) × (List Int) × Int × Bool) × (Int × Int × Int × Int × Int × Int)) := (lev Try.prog pvAnn d).call 10 (l1)
/-- loop.example/g00838/impl.fieldsOf -/
noncomputable def g100 (d : Nat) (x1 : (Int × Int × Int × Int × Int × Int)) : Option (Int × Int × Int × Int) := (lev Try.prog pvAnn d).call 100 (x1)
/-- loop.example/g00838/impl.IsPacket -/
noncomputable def g52 (d : Nat) (x1 : (Int × Int × Int × Int × Int × Int)) : Option Bool := (lev Try.prog pvAnn d).call 52 (x1)
/-- loop.example/g00838/impl.hasId -/
noncomputable def g103 (d : Nat) (l1 : List (Int × Int × Int × Int × Int × Int)) (n2 : Int) : Option Bool := (lev Try.prog pvAnn d).call 103 (l1, n2)
/-- loop.example/g00838/impl.apartIds -/
noncomputable def g93 (d : Nat) (l1 : List (Int × Int × Int × Int × Int × Int)) : Option Bool := (lev Try.prog pvAnn d).call 93 (l1)
/-- slices.Concat[[]loop.example/g00838/impl.Packet,loop.example/g00838/impl.Packet] -/
noncomputable def g94 (d : Nat) (l1 : List (List (Int × Int × Int × Int × Int × Int))) : Option (List (Int × Int × Int × Int × Int × Int)) := (lev Try.prog pvAnn d).call 94 (l1)
/-- loop.example/g00838/impl.flowOf -/
noncomputable def g64 (d : Nat) (x1 : (Int × Int × Int × Int × Int × Int)) (n2 : Int) : Option Int := (lev Try.prog pvAnn d).call 64 (x1, n2)
/-- loop.example/g00838/impl.flowRight -/
noncomputable def g99 (d : Nat) (x1 : (Int × Int × (List (List (Int × Int × Int × Int × Int × Int))) × (List Int) × Int × Bool)) (n2 : Int) : Option Bool := (lev Try.prog pvAnn d).call 99 (x1, n2)
/-- loop.example/g00838/impl.IsFair -/
noncomputable def g51 (d : Nat) (x1 : (Int × Int × (List (List (Int × Int × Int × Int × Int × Int))) × (List Int) × Int × Bool)) : Option Bool := (lev Try.prog pvAnn d).call 51 (x1)
/-- slices.Clone[[]loop.example/g00838/impl.Packet,loop.example/g00838/impl.Packet] -/
noncomputable def g120 (d : Nat) (l1 : List (Int × Int × Int × Int × Int × Int)) : Option (List (Int × Int × Int × Int × Int × Int)) := (lev Try.prog pvAnn d).call 120 (l1)
/-- loop.example/g00838/impl.copyLists -/
noncomputable def g104 (d : Nat) (l1 : List (List (Int × Int × Int × Int × Int × Int))) : Option (List (List (Int × Int × Int × Int × Int × Int))) := (lev Try.prog pvAnn d).call 104 (l1)
/-- slices.Clone[[]int,int] -/
noncomputable def g105 (d : Nat) (l1 : List Int) : Option (List Int) := (lev Try.prog pvAnn d).call 105 (l1)
/-- loop.example/g00838/impl.copyFair -/
noncomputable def g54 (d : Nat) (x1 : (Int × Int × (List (List (Int × Int × Int × Int × Int × Int))) × (List Int) × Int × Bool)) : Option (Int × Int × (List (List (Int × Int × Int × Int × Int × Int))) × (List Int) × Int × Bool) := (lev Try.prog pvAnn d).call 54 (x1)
/-- loop.example/g00838/impl.PutFair -/
noncomputable def g11 (d : Nat) (x1 : (Int × Int × (List (List (Int × Int × Int × Int × Int × Int))) × (List Int) × Int × Bool)) (x2 : (Int × Int × Int × Int × Int × Int)) : Option ((Int × Int × (List (List (Int × Int × Int × Int × Int × Int))) × (List Int) × Int × Bool) × Bool × Bool) := (lev Try.prog pvAnn d).call 11 (x1, x2)
/-- loop.example/g00838/spec.l1In -/
noncomputable def g68 (d : Nat) (n1 : Int) (n2 : Int) (n3 : Int) : Option Bool := (lev Try.prog pvAnn d).call 68 (n1, n2, n3)
/-- loop.example/g00838/spec.pkWord -/
noncomputable def g108 (d : Nat) (n1 : Int) : Option Bool := (lev Try.prog pvAnn d).call 108 (n1)
/-- loop.example/g00838/spec.pkGood -/
noncomputable def g57 (d : Nat) (x1 : (Int × Int × Int × Int × Int × Int)) : Option Bool := (lev Try.prog pvAnn d).call 57 (x1)
/-- loop.example/g00838/spec.l1All -/
noncomputable def g106 (d : Nat) (l1 : List Int) (n2 : Int) (n3 : Int) : Option Bool := (lev Try.prog pvAnn d).call 106 (l1, n2, n3)
/-- loop.example/g00838/spec.l1Has -/
noncomputable def g107 (d : Nat) (l1 : List Int) (n2 : Int) : Option Bool := (lev Try.prog pvAnn d).call 107 (l1, n2)
/-- loop.example/g00838/spec.faGood -/
noncomputable def g56 (d : Nat) (x1 : (Int × Int × (List (List (Int × Int × Int × Int × Int × Int))) × (List Int) × Int × Bool)) : Option Bool := (lev Try.prog pvAnn d).call 56 (x1)
/-- loop.example/g00838/spec.quAt -/
noncomputable def g91 (d : Nat) (l1 : List (Int × Int × Int × Int × Int × Int)) (n2 : Int) : Option Int := (lev Try.prog pvAnn d).call 91 (l1, n2)
/-- loop.example/g00838/spec.faHas -/
noncomputable def g58 (d : Nat) (x1 : (Int × Int × (List (List (Int × Int × Int × Int × Int × Int))) × (List Int) × Int × Bool)) (n2 : Int) : Option Bool := (lev Try.prog pvAnn d).call 58 (x1, n2)
/-- loop.example/g00838/spec.PutFair -/
noncomputable def g12 (d : Nat) (x1 : (Int × Int × (List (List (Int × Int × Int × Int × Int × Int))) × (List Int) × Int × Bool)) (x2 : (Int × Int × Int × Int × Int × Int)) : Option ((Int × Int × (List (List (Int × Int × Int × Int × Int × Int))) × (List Int) × Int × Bool) × Bool × Bool) := (lev Try.prog pvAnn d).call 12 (x1, x2)
/-- loop.example/g00838/laws.sameInts -/
noncomputable def g61 (d : Nat) (l1 : List Int) (l2 : List Int) : Option Bool := (lev Try.prog pvAnn d).call 61 (l1, l2)
/-- loop.example/g00838/laws.pSamePackets -/
noncomputable def g62 (d : Nat) (l1 : List (Int × Int × Int × Int × Int × Int)) (l2 : List (Int × Int × Int × Int × Int × Int)) : Option Bool := (lev Try.prog pvAnn d).call 62 (l1, l2)
/-- loop.example/g00838/laws.pSameFair -/
noncomputable def g13 (d : Nat) (x1 : (Int × Int × (List (List (Int × Int × Int × Int × Int × Int))) × (List Int) × Int × Bool)) (x2 : (Int × Int × (List (List (Int × Int × Int × Int × Int × Int))) × (List Int) × Int × Bool)) : Option Bool := (lev Try.prog pvAnn d).call 13 (x1, x2)
/-- loop.example/g00838/impl.isFlows -/
noncomputable def g63 (d : Nat) (n1 : Int) : Option Bool := (lev Try.prog pvAnn d).call 63 (n1)
/-- loop.example/g00838/impl.FlowOf -/
noncomputable def g14 (d : Nat) (x1 : (Int × Int × Int × Int × Int × Int)) (n2 : Int) : Option (Int × Bool) := (lev Try.prog pvAnn d).call 14 (x1, n2)
/-- loop.example/g00838/spec.DrawRoundsFor -/
noncomputable def g15 (d : Nat) (l1 : List Int) : Option ((Int × Int × (List (List (Int × Int × Int × Int × Int × Int))) × (List Int) × Int × Bool) × Int) := (lev Try.prog pvAnn d).call 15 (l1)
/-- loop.example/g00838/impl.ticksFor -/
noncomputable def g66 (d : Nat) (n1 : Int) (n2 : Int) (n3 : Int) : Option Int := (lev Try.prog pvAnn d).call 66 (n1, n2, n3)
/-- loop.example/g00838/impl.sumSizes -/
noncomputable def g67 (d : Nat) (l1 : List (Int × Int × Int × Int × Int × Int)) : Option Int := (lev Try.prog pvAnn d).call 67 (l1)
/-- loop.example/g00838/impl.RoundsFor -/
noncomputable def g16 (d : Nat) (x1 : (Int × Int × (List (List (Int × Int × Int × Int × Int × Int))) × (List Int) × Int × Bool)) (n2 : Int) : Option (Int × Bool) := (lev Try.prog pvAnn d).call 16 (x1, n2)
/-- loop.example/g00838/spec.l1Most -/
noncomputable def g69 (d : Nat) (n1 : Int) (n2 : Int) : Option Int := (lev Try.prog pvAnn d).call 69 (n1, n2)
/-- loop.example/g00838/spec.pkSum -/
noncomputable def g70 (d : Nat) (l1 : List (Int × Int × Int × Int × Int × Int)) : Option Int := (lev Try.prog pvAnn d).call 70 (l1)
/-- loop.example/g00838/spec.RoundsFor -/
noncomputable def g17 (d : Nat) (x1 : (Int × Int × (List (List (Int × Int × Int × Int × Int × Int))) × (List Int) × Int × Bool)) (n2 : Int) : Option (Int × Bool) := (lev Try.prog pvAnn d).call 17 (x1, n2)
/-- loop.example/g00838/impl.DropFlow -/
noncomputable def g18 (d : Nat) (x1 : (Int × Int × (List (List (Int × Int × Int × Int × Int × Int))) × (List Int) × Int × Bool)) (n2 : Int) : Option ((Int × Int × (List (List (Int × Int × Int × Int × Int × Int))) × (List Int) × Int × Bool) × Bool) := (lev Try.prog pvAnn d).call 18 (x1, n2)
/-- loop.example/g00838/spec.DropFlow -/
noncomputable def g19 (d : Nat) (x1 : (Int × Int × (List (List (Int × Int × Int × Int × Int × Int))) × (List Int) × Int × Bool)) (n2 : Int) : Option ((Int × Int × (List (List (Int × Int × Int × Int × Int × Int))) × (List Int) × Int × Bool) × Bool) := (lev Try.prog pvAnn d).call 19 (x1, n2)
/-- loop.example/g00838/impl.BacklogOf -/
noncomputable def g20 (d : Nat) (x1 : (Int × Int × (List (List (Int × Int × Int × Int × Int × Int))) × (List Int) × Int × Bool)) : Option ((List Int) × Bool) := (lev Try.prog pvAnn d).call 20 (x1)
/-- loop.example/g00838/laws.pSum -/
noncomputable def g21 (d : Nat) (l1 : List Int) : Option Int := (lev Try.prog pvAnn d).call 21 (l1)
/-- loop.example/g00838/spec.DrawNewFair -/
noncomputable def g22 (d : Nat) (l1 : List Int) : Option (Int × Int × Int) := (lev Try.prog pvAnn d).call 22 (l1)
/-- loop.example/g00838/impl.NewFair -/
noncomputable def g23 (d : Nat) (n1 : Int) (n2 : Int) (n3 : Int) : Option ((Int × Int × (List (List (Int × Int × Int × Int × Int × Int))) × (List Int) × Int × Bool) × Bool) := (lev Try.prog pvAnn d).call 23 (n1, n2, n3)
/-- loop.example/g00838/spec.NewFair -/
noncomputable def g24 (d : Nat) (n1 : Int) (n2 : Int) (n3 : Int) : Option ((Int × Int × (List (List (Int × Int × Int × Int × Int × Int))) × (List Int) × Int × Bool) × Bool) := (lev Try.prog pvAnn d).call 24 (n1, n2, n3)
/-- loop.example/g00838/spec.DrawIsFair -/
noncomputable def g72 (d : Nat) (l1 : List Int) : Option (Int × Int × (List (List (Int × Int × Int × Int × Int × Int))) × (List Int) × Int × Bool) := (lev Try.prog pvAnn d).call 72 (l1)
/-- loop.example/g00838/spec.DrawTakeFair -/
noncomputable def g25 (d : Nat) (l1 : List Int) : Option (Int × Int × (List (List (Int × Int × Int × Int × Int × Int))) × (List Int) × Int × Bool) := (lev Try.prog pvAnn d).call 25 (l1)
/-- slices.Delete[[]loop.example/g00838/impl.Packet,loop.example/g00838/impl.Packet] -/
noncomputable def g113 (d : Nat) (l1 : List (Int × Int × Int × Int × Int × Int)) (n2 : Int) (n3 : Int) : Option (List (Int × Int × Int × Int × Int × Int)) := (lev Try.prog pvAnn d).call 113 (l1, n2, n3)
/-- loop.example/g00838/impl.TakeFair -/
noncomputable def g26 (d : Nat) (x1 : (Int × Int × (List (List (Int × Int × Int × Int × Int × Int))) × (List Int) × Int × Bool)) : Option ((Int × Int × (List (List (Int × Int × Int × Int × Int × Int))) × (List Int) × Int × Bool) × (Int × Int × Int × Int × Int × Int) × Bool) := (lev Try.prog pvAnn d).call 26 (x1)
/-- loop.example/g00838/spec.TakeFair -/
noncomputable def g27 (d : Nat) (x1 : (Int × Int × (List (List (Int × Int × Int × Int × Int × Int))) × (List Int) × Int × Bool)) : Option ((Int × Int × (List (List (Int × Int × Int × Int × Int × Int))) × (List Int) × Int × Bool) × (Int × Int × Int × Int × Int × Int) × Bool) := (lev Try.prog pvAnn d).call 27 (x1)
/-- loop.example/g00838/laws.FnFairness -/
noncomputable def g3 (d : Nat) (l1 : List Int) (l2 : List Int) : Option Bool := (lev Try.prog pvAnn d).call 3 (l1, l2)

theorem e9 (d : Nat) (l1 : List Int) (l2 : List Int) : g9 (d + 1) l1 l2 =
 oif (decide ((((l1.length : Nat) : Int) : Int) > 1048576)) (
 some true) (
 some (decide ((((l2.length : Nat) : Int) : Int) > (IntKind.i64.wrap ((1048576 : Int) - ((l1.length : Nat) : Int)))))) := by kernel_rfl

theorem e109 (d : Nat) (l1 : List Int) : g109 (d + 1) l1 =
 oif (Nat.ble ((([] : List Int).length + l1.length) * 8) roomMax) (
 some (([] : List Int) ++ l1)) none := by kernel_rfl

noncomputable def j59_0 (d : Nat)  (n4 : Int) (n5 : Int) (n6 : Int) (b7 : Bool) (l8 : List (List (Int × Int × Int × Int × Int × Int))) (l9 : List Int) : Option (Int × Int × (List (List (Int × Int × Int × Int × Int × Int))) × (List Int) × Int × Bool) :=
 some (n4, n5, l8, l9, n6, b7)
noncomputable def l59_0_b (d : Nat) (x1 : (Int × Int × (List (List (Int × Int × Int × Int × Int × Int))) × (List Int) × Int × Bool)) (kx59_0_0 : Int → Int → Int → Bool → (List (List (Int × Int × Int × Int × Int × Int))) → (List Int) → Option (Int × Int × (List (List (Int × Int × Int × Int × Int × Int))) × (List Int) × Int × Bool)) (ag3 : (Int × (Int × Int × (List (List (Int × Int × Int × Int × Int × Int))) × (List Int) × Int × Bool)) → Option (Int × Int × (List (List (Int × Int × Int × Int × Int × Int))) × (List Int) × Int × Bool)) (n4 : Int) (x5 : (Int × Int × (List (List (Int × Int × Int × Int × Int × Int))) × (List Int) × Int × Bool)) : Option (Int × Int × (List (List (Int × Int × Int × Int × Int × Int))) × (List Int) × Int × Bool) :=
 oif (decide ((n4 : Int) < ((x1.2.2.1.length : Nat) : Int))) (
 oif (decide (0 ≤ (n4 : Int))) (
 obind (x1.2.2.1[(n4 : Int).toNat]?) fun l6 =>
 oif (Nat.ble ((([] : List (Int × Int × Int × Int × Int × Int)).length + l6.length) * 48) roomMax) (
 oif (Nat.ble ((x5.2.2.1.length + ([(([] : List (Int × Int × Int × Int × Int × Int)) ++ l6)] : List (List (Int × Int × Int × Int × Int × Int))).length) * 24) roomMax) (
 ag3 ((IntKind.i64.wrap (n4 + 1)), (x5.1, x5.2.1, (x5.2.2.1 ++ ([(([] : List (Int × Int × Int × Int × Int × Int)) ++ l6)] : List (List (Int × Int × Int × Int × Int × Int)))), x5.2.2.2))) none) none) none) (
 kx59_0_0 x5.1 x5.2.1 x5.2.2.2.2.1 x5.2.2.2.2.2 x5.2.2.1 x5.2.2.2.1)
noncomputable def l59_0 (d : Nat) (x1 : (Int × Int × (List (List (Int × Int × Int × Int × Int × Int))) × (List Int) × Int × Bool)) (kx59_0_0 : Int → Int → Int → Bool → (List (List (Int × Int × Int × Int × Int × Int))) → (List Int) → Option (Int × Int × (List (List (Int × Int × Int × Int × Int × Int))) × (List Int) × Int × Bool)) (ag3 : (Int × (Int × Int × (List (List (Int × Int × Int × Int × Int × Int))) × (List Int) × Int × Bool)) → Option (Int × Int × (List (List (Int × Int × Int × Int × Int × Int))) × (List Int) × Int × Bool)) (s : (Int × (Int × Int × (List (List (Int × Int × Int × Int × Int × Int))) × (List Int) × Int × Bool))) : Option (Int × Int × (List (List (Int × Int × Int × Int × Int × Int))) × (List Int) × Int × Bool) := l59_0_b d x1 kx59_0_0 ag3 s.1 s.2
theorem e59 (d : Nat) (x1 : (Int × Int × (List (List (Int × Int × Int × Int × Int × Int))) × (List Int) × Int × Bool)) : g59 (d + 1) x1 =
 obind (g109 d x1.2.2.2.1) fun r2 =>
 iterP (l59_0 d x1 (j59_0 d)) fuelN (0, (x1.1, x1.2.1, [], r2, x1.2.2.2.2)) := by kernel_rfl

noncomputable def j110_0 (d : Nat) (x1 : ((List Int) × Int × Int)) (n2 : Int) : Option (Int × ((List Int) × Int × Int)) :=
 oif (decide (((IntKind.i64.wrap (x1.2.1 + 1)) : Int) ≤ ((x1.1.length : Nat) : Int))) (
 some (n2, (x1.1, (IntKind.i64.wrap (x1.2.1 + 1)), (IntKind.u64.wrap ((IntKind.u64.wrap ((IntKind.u64.wrap (x1.2.2 * 6364136223846793005)) + (IntKind.u64.wrap n2))) + 1442695040888963407))))) (
 some ((IntKind.i64.wrap (IntKind.u64.wrap ((BitVec.ofInt IntKind.u64.bits ((IntKind.u64.wrap ((IntKind.u64.wrap ((IntKind.u64.wrap (x1.2.2 * 6364136223846793005)) + (IntKind.u64.wrap n2))) + 1442695040888963407)).fdiv (2 ^ (min (40 : Int).toNat IntKind.u64.bits))) &&& BitVec.ofInt IntKind.u64.bits 255).toNat : Int))), (x1.1, (IntKind.i64.wrap (x1.2.1 + 1)), (IntKind.u64.wrap ((IntKind.u64.wrap ((IntKind.u64.wrap (x1.2.2 * 6364136223846793005)) + (IntKind.u64.wrap n2))) + 1442695040888963407)))))
theorem e110 (d : Nat) (x1 : ((List Int) × Int × Int)) : g110 (d + 1) x1 =
 oif (decide ((x1.2.1 : Int) < ((x1.1.length : Nat) : Int))) (
 oif (decide (0 ≤ (x1.2.1 : Int))) (
 obind (x1.1[(x1.2.1 : Int).toNat]?) fun n2 =>
 j110_0 d x1 (IntKind.i64.wrap n2)) none) (
 j110_0 d x1 0) := by kernel_rfl

theorem e65 (d : Nat) (x1 : ((List Int) × Int × Int)) (n2 : Int) : g65 (d + 1) x1 n2 =
 oif (decide ((n2 : Int) ≤ 1)) (
 some (0, x1)) (
 obind (g110 d x1) fun r3 =>
 oif (decide ((n2 : Int) > 200)) (
 obind (g110 d r3.2) fun r4 =>
 oif ((n2 : Int) == 0) none (
 some (((IntKind.i64.wrap ((IntKind.i64.wrap (r3.1 * 256)) + r4.1)).tmod n2), r4.2))) (
 oif ((n2 : Int) == 0) none (
 some ((r3.1.tmod n2), r3.2)))) := by kernel_rfl

theorem e71 (d : Nat) (x1 : ((List Int) × Int × Int)) (l2 : List Int) : g71 (d + 1) x1 l2 =
 obind (g65 d x1 ((l2.length : Nat) : Int)) fun r3 =>
 oif (decide (0 ≤ (r3.1 : Int))) (
 obind (l2[(r3.1 : Int).toNat]?) fun n4 =>
 some (n4, r3.2)) none := by kernel_rfl

noncomputable def j90_0 (d : Nat) (n2 : Int) (n4 : Int) : Option Int :=
 oif ((n2 : Int) == 0) none (
 some (n4.tmod n2))
noncomputable def l90_0_b (d : Nat) (x1 : (Int × Int × Int × Int × Int × Int)) (kx90_0_0 : Int → Option Int) (ag3 : (Int × Int) → Option Int) (n4 : Int) (n5 : Int) : Option Int :=
 oif (decide ((n5 : Int) < (([x1.2.1, x1.2.2.1, x1.2.2.2.1].length : Nat) : Int))) (
 oif (decide (0 ≤ (n5 : Int))) (
 oif (Nat.blt ((n5 : Int).toNat) ([x1.2.1, x1.2.2.1, x1.2.2.2.1].length)) (
 obind ([x1.2.1, x1.2.2.1, x1.2.2.2.1][(n5 : Int).toNat]?) fun n6 =>
 ag3 (((IntKind.i64.wrap ((IntKind.i64.wrap ((IntKind.i64.wrap ((31 : Int) * n4)) + n6)) + 7)).tmod 1000003), (IntKind.i64.wrap (n5 + 1)))) none) none) (
 kx90_0_0 n4)
noncomputable def l90_0 (d : Nat) (x1 : (Int × Int × Int × Int × Int × Int)) (kx90_0_0 : Int → Option Int) (ag3 : (Int × Int) → Option Int) (s : (Int × Int)) : Option Int := l90_0_b d x1 kx90_0_0 ag3 s.1 s.2
theorem e90 (d : Nat) (x1 : (Int × Int × Int × Int × Int × Int)) (n2 : Int) : g90 (d + 1) x1 n2 =
 iterP (l90_0 d x1 (j90_0 d n2)) fuelN (40503, 0) := by kernel_rfl

theorem e96 (d : Nat) (x1 : ((List Int) × Int × Int)) (n2 : Int) : g96 (d + 1) x1 n2 =
 obind (g65 d x1 n2) fun r3 =>
 some (((r3.1 : Int) == 0), r3.2) := by kernel_rfl

theorem e97 (d : Nat) (x1 : ((List Int) × Int × Int)) : g97 (d + 1) x1 =
 obind (g65 d x1 60000) fun r2 =>
 obind (g65 d r2.2 60000) fun r3 =>
 obind (g71 d r3.2 [1, 2, 3, 65535, r3.1]) fun r4 =>
 obind (g71 d r4.2 [1, 2, 9]) fun r5 =>
 obind (g71 d r5.2 [22, 80, 443]) fun r6 =>
 obind (g71 d r6.2 [0, 1, 5, 255]) fun r7 =>
 obind (g65 d r7.2 1500) fun r8 =>
 obind (g71 d r8.2 [1, 40, 64, 100, 500, 1000, 1500, (IntKind.i64.wrap ((1 : Int) + r8.1))]) fun r9 =>
 some (((IntKind.i64.wrap ((1 : Int) + r2.1)), r4.1, r5.1, r6.1, r7.1, r9.1), r9.2) := by kernel_rfl

noncomputable def j49_0 (d : Nat) (r43 : (Int × ((List Int) × Int × Int))) (n45 : Int) (n46 : Int) (n47 : Int) (b48 : Bool) (l49 : List (List (Int × Int × Int × Int × Int × Int))) (l50 : List Int) : Option ((Int × Int × (List (List (Int × Int × Int × Int × Int × Int))) × (List Int) × Int × Bool) × ((List Int) × Int × Int)) :=
 obind (g59 (d + 2) (n45, n46, l49, l50, n47, b48)) fun r51 =>
 some (r51, r43.2)
noncomputable def l49_2_b (d : Nat)  (kx49_2_0 : Int → Int → Int → Bool → (List (List (Int × Int × Int × Int × Int × Int))) → (List Int) → Option ((Int × Int × (List (List (Int × Int × Int × Int × Int × Int))) × (List Int) × Int × Bool) × ((List Int) × Int × Int))) (ag44 : (Int × (Int × Int × (List (List (Int × Int × Int × Int × Int × Int))) × (List Int) × Int × Bool)) → Option ((Int × Int × (List (List (Int × Int × Int × Int × Int × Int))) × (List Int) × Int × Bool) × ((List Int) × Int × Int))) (n45 : Int) (x46 : (Int × Int × (List (List (Int × Int × Int × Int × Int × Int))) × (List Int) × Int × Bool)) : Option ((Int × Int × (List (List (Int × Int × Int × Int × Int × Int))) × (List Int) × Int × Bool) × ((List Int) × Int × Int)) :=
 oif (decide ((n45 : Int) > 0)) (
 oif (Nat.blt 0 x46.2.2.1.length) (
 obind (x46.2.2.1[0]?) fun l47 =>
 oif (Nat.ble ((l47.length + [(n45, 0, 0, 0, 0, (IntKind.i64.wrap ((1 : Int) + ((IntKind.i64.wrap ((100 : Int) * n45)).tmod 1400))))].length) * 48) roomMax) (
 oif (Nat.blt 0 x46.2.2.1.length) (
 oif (Nat.beq 0 0) (
 obind (x46.2.2.1[0]?) fun l48 =>
 ag44 ((IntKind.i64.wrap (n45 - 1)), (x46.1, x46.2.1, (x46.2.2.1.set 0 (l47 ++ [(n45, 0, 0, 0, 0, (IntKind.i64.wrap ((1 : Int) + ((IntKind.i64.wrap ((100 : Int) * n45)).tmod 1400))))])), x46.2.2.2))) none) none) none) none) (
 kx49_2_0 x46.1 x46.2.1 x46.2.2.2.2.1 x46.2.2.2.2.2 x46.2.2.1 x46.2.2.2.1)
noncomputable def l49_2 (d : Nat)  (kx49_2_0 : Int → Int → Int → Bool → (List (List (Int × Int × Int × Int × Int × Int))) → (List Int) → Option ((Int × Int × (List (List (Int × Int × Int × Int × Int × Int))) × (List Int) × Int × Bool) × ((List Int) × Int × Int))) (ag44 : (Int × (Int × Int × (List (List (Int × Int × Int × Int × Int × Int))) × (List Int) × Int × Bool)) → Option ((Int × Int × (List (List (Int × Int × Int × Int × Int × Int))) × (List Int) × Int × Bool) × ((List Int) × Int × Int))) (s : (Int × (Int × Int × (List (List (Int × Int × Int × Int × Int × Int))) × (List Int) × Int × Bool))) : Option ((Int × Int × (List (List (Int × Int × Int × Int × Int × Int))) × (List Int) × Int × Bool) × ((List Int) × Int × Int)) := l49_2_b d kx49_2_0 ag44 s.1 s.2
noncomputable def j49_1 (d : Nat) (n4 : Int) (r18 : (Int × ((List Int) × Int × Int))) (n20 : Int) (n21 : Int) (n22 : Int) (b23 : Bool) (l24 : List (List (Int × Int × Int × Int × Int × Int))) (l25 : List Int) : Option ((Int × Int × (List (List (Int × Int × Int × Int × Int × Int))) × (List Int) × Int × Bool) × ((List Int) × Int × Int)) :=
 obind (g65 (d + 2) r18.2 24) fun r26 =>
 oif ((r26.1 : Int) == 0) (
 obind (g71 (d + 2) r26.2 [99, 100, 3000, 3001]) fun r27 =>
 obind (g59 (d + 2) (r27.1, n21, l24, l25, n22, b23)) fun r28 =>
 some (r28, r27.2)) (
 oif ((r26.1 : Int) == 1) (
 obind (g71 (d + 2) r26.2 [0, 20, 21]) fun r29 =>
 obind (g59 (d + 2) (n20, r29.1, l24, l25, n22, b23)) fun r30 =>
 some (r30, r29.2)) (
 oif ((r26.1 : Int) == 2) (
 obind (g65 (d + 2) r26.2 n4) fun r31 =>
 obind (g71 (d + 2) r31.2 [(-1), 1, (IntKind.i64.wrap (n20 + 1500)), (IntKind.i64.wrap (n20 + 1501))]) fun r32 =>
 oif (decide (0 ≤ (r31.1 : Int))) (
 oif (Nat.blt ((r31.1 : Int).toNat) l25.length) (
 obind (l25[(r31.1 : Int).toNat]?) fun n33 =>
 obind (g59 (d + 2) (n20, n21, l24, (l25.set ((r31.1 : Int).toNat) r32.1), n22, b23)) fun r34 =>
 some (r34, r32.2)) none) none) (
 oif ((r26.1 : Int) == 3) (
 obind (g71 (d + 2) r26.2 [(-1), (IntKind.i64.wrap (n4 - 1)), n4]) fun r35 =>
 obind (g59 (d + 2) (n20, n21, l24, l25, r35.1, b23)) fun r36 =>
 some (r36, r35.2)) (
 oif ((r26.1 : Int) == 4) (
 obind (g59 (d + 2) (n20, n21, l24, l25, n22, (!b23))) fun r37 =>
 some (r37, r26.2)) (
 oif ((r26.1 : Int) == 5) (
 oif (Nat.ble ((l24.length + ([[]] : List (List (Int × Int × Int × Int × Int × Int))).length) * 24) roomMax) (
 obind (g59 (d + 2) (n20, n21, (l24 ++ ([[]] : List (List (Int × Int × Int × Int × Int × Int)))), l25, n22, b23)) fun r38 =>
 some (r38, r26.2)) none) (
 oif ((r26.1 : Int) == 6) (
 oif (Nat.blt 0 l24.length) (
 obind (l24[0]?) fun l39 =>
 obind (g97 (d + 2) r26.2) fun r40 =>
 oif (Nat.ble ((l39.length + [r40.1].length) * 48) roomMax) (
 oif (Nat.blt 0 l24.length) (
 oif (Nat.beq 0 0) (
 obind (l24[0]?) fun l41 =>
 obind (g59 (d + 2) (n20, n21, (l24.set 0 (l39 ++ [r40.1])), l25, n22, b23)) fun r42 =>
 some (r42, r40.2)) none) none) none) none) (
 oif ((r26.1 : Int) == 7) (
 oif (Nat.ble 1 1 && Nat.ble (1 * 24) roomMax) (
 oif (Nat.ble 1 1 && Nat.ble (1 * 8) roomMax) (
 obind (g65 (d + 2) r26.2 3) fun r43 =>
 iterP (l49_2 d (j49_0 d r43)) fuelN ((IntKind.i64.wrap ((19 : Int) + r43.1)), (500, 20, (List.replicate 1 ([] : List (Int × Int × Int × Int × Int × Int))), (List.replicate 1 (0 : Int)), 0, false))) none) none) (
 obind (g59 (d + 2) (n20, n21, l24, l25, n22, b23)) fun r52 =>
 some (r52, r26.2)))))))))
noncomputable def j49_2 (d : Nat) (ag19 : (Int × (Int × Int × (List (List (Int × Int × Int × Int × Int × Int))) × (List Int) × Int × Bool)) → Option ((Int × Int × (List (List (Int × Int × Int × Int × Int × Int))) × (List Int) × Int × Bool) × ((List Int) × Int × Int))) (n20 : Int) (n24 : Int) (n25 : Int) (n26 : Int) (b27 : Bool) (l28 : List (List (Int × Int × Int × Int × Int × Int))) (l29 : List Int) : Option ((Int × Int × (List (List (Int × Int × Int × Int × Int × Int))) × (List Int) × Int × Bool) × ((List Int) × Int × Int)) :=
 ag19 ((IntKind.i64.wrap (n20 - 1)), (n24, n25, l28, l29, n26, b27))
noncomputable def j49i76_0 (d : Nat) (ag19 : (Int × (Int × Int × (List (List (Int × Int × Int × Int × Int × Int))) × (List Int) × Int × Bool)) → Option ((Int × Int × (List (List (Int × Int × Int × Int × Int × Int))) × (List Int) × Int × Bool) × ((List Int) × Int × Int))) (n20 : Int) (ag24 : (Int × Int × (List (List (Int × Int × Int × Int × Int × Int))) × (List Int) × Int × Bool) → Option ((Int × Int × (List (List (Int × Int × Int × Int × Int × Int))) × (List Int) × Int × Bool) × ((List Int) × Int × Int))) (x25 : (Int × Int × (List (List (Int × Int × Int × Int × Int × Int))) × (List Int) × Int × Bool)) (b27 : Bool) (b28 : Bool) (l29 : List Int) : Option ((Int × Int × (List (List (Int × Int × Int × Int × Int × Int))) × (List Int) × Int × Bool) × ((List Int) × Int × Int)) :=
 oif (decide (0 ≤ (x25.2.2.2.2.1 : Int))) (
 oif (Nat.blt ((x25.2.2.2.2.1 : Int).toNat) x25.2.2.1.length) (
 obind (x25.2.2.1[(x25.2.2.2.2.1 : Int).toNat]?) fun l30 =>
 obind (l30[0]?) fun x31 =>
 oif (decide (0 ≤ (x25.2.2.2.2.1 : Int))) (
 oif (Nat.blt ((x25.2.2.2.2.1 : Int).toNat) l29.length) (
 obind (l29[(x25.2.2.2.2.1 : Int).toNat]?) fun n32 =>
 oif (decide ((x31.2.2.2.2.2 : Int) > n32)) (
 oif ((((x25.2.2.1.length : Nat) : Int) : Int) == 0) none (
 ag24 (x25.1, x25.2.1, x25.2.2.1, l29, ((IntKind.i64.wrap (x25.2.2.2.2.1 + 1)).tmod ((x25.2.2.1.length : Nat) : Int)), false))) (
 oif (decide (0 ≤ (x25.2.2.2.2.1 : Int))) (
 oif (Nat.blt ((x25.2.2.2.2.1 : Int).toNat) x25.2.2.1.length) (
 obind (x25.2.2.1[(x25.2.2.2.2.1 : Int).toNat]?) fun l33 =>
 oif (Nat.ble 1 l33.length) (
 oif (decide (0 ≤ (x25.2.2.2.2.1 : Int))) (
 oif (Nat.blt ((x25.2.2.2.2.1 : Int).toNat) x25.2.2.1.length) (
 oif (Nat.beq ((x25.2.2.2.2.1 : Int).toNat) ((x25.2.2.2.2.1 : Int).toNat)) (
 obind (x25.2.2.1[(x25.2.2.2.2.1 : Int).toNat]?) fun l34 =>
 oif (decide (0 ≤ (x25.2.2.2.2.1 : Int))) (
 oif (Nat.blt ((x25.2.2.2.2.1 : Int).toNat) l29.length) (
 obind (l29[(x25.2.2.2.2.1 : Int).toNat]?) fun n35 =>
 oif (decide (0 ≤ (x25.2.2.2.2.1 : Int))) (
 oif (Nat.blt ((x25.2.2.2.2.1 : Int).toNat) l29.length) (
 obind (l29[(x25.2.2.2.2.1 : Int).toNat]?) fun n36 =>
 oif (decide (0 ≤ (x25.2.2.2.2.1 : Int))) (
 oif (Nat.blt ((x25.2.2.2.2.1 : Int).toNat) (x25.2.2.1.set ((x25.2.2.2.2.1 : Int).toNat) (l33.drop 1)).length) (
 obind ((x25.2.2.1.set ((x25.2.2.2.2.1 : Int).toNat) (l33.drop 1))[(x25.2.2.2.2.1 : Int).toNat]?) fun l37 =>
 oif ((((l37.length : Nat) : Int) : Int) == 0) (
 oif (decide (0 ≤ (x25.2.2.2.2.1 : Int))) (
 oif (Nat.blt ((x25.2.2.2.2.1 : Int).toNat) ((l29.set ((x25.2.2.2.2.1 : Int).toNat) (IntKind.i64.wrap (n35 - x31.2.2.2.2.2))).length)) (
 obind ((l29.set ((x25.2.2.2.2.1 : Int).toNat) (IntKind.i64.wrap (n35 - x31.2.2.2.2.2)))[(x25.2.2.2.2.1 : Int).toNat]?) fun n38 =>
 oif (((((x25.2.2.1.set ((x25.2.2.2.2.1 : Int).toNat) (l33.drop 1)).length : Nat) : Int) : Int) == 0) none (
 j49_2 d ag19 n20 x25.1 x25.2.1 ((IntKind.i64.wrap (x25.2.2.2.2.1 + 1)).tmod (((x25.2.2.1.set ((x25.2.2.2.2.1 : Int).toNat) (l33.drop 1)).length : Nat) : Int)) false (x25.2.2.1.set ((x25.2.2.2.2.1 : Int).toNat) (l33.drop 1)) ((l29.set ((x25.2.2.2.2.1 : Int).toNat) (IntKind.i64.wrap (n35 - x31.2.2.2.2.2))).set ((x25.2.2.2.2.1 : Int).toNat) 0))) none) none) (
 j49_2 d ag19 n20 x25.1 x25.2.1 x25.2.2.2.2.1 b28 (x25.2.2.1.set ((x25.2.2.2.2.1 : Int).toNat) (l33.drop 1)) (l29.set ((x25.2.2.2.2.1 : Int).toNat) (IntKind.i64.wrap (n35 - x31.2.2.2.2.2))))) none) none) none) none) none) none) none) none) none) none) none) none)) none) none) none) none
noncomputable def l49i76_0_b (d : Nat) (ag19 : (Int × (Int × Int × (List (List (Int × Int × Int × Int × Int × Int))) × (List Int) × Int × Bool)) → Option ((Int × Int × (List (List (Int × Int × Int × Int × Int × Int))) × (List Int) × Int × Bool) × ((List Int) × Int × Int))) (n20 : Int)  (ag24 : (Int × Int × (List (List (Int × Int × Int × Int × Int × Int))) × (List Int) × Int × Bool) → Option ((Int × Int × (List (List (Int × Int × Int × Int × Int × Int))) × (List Int) × Int × Bool) × ((List Int) × Int × Int))) (x25 : (Int × Int × (List (List (Int × Int × Int × Int × Int × Int))) × (List Int) × Int × Bool)) : Option ((Int × Int × (List (List (Int × Int × Int × Int × Int × Int))) × (List Int) × Int × Bool) × ((List Int) × Int × Int)) :=
 oif (decide (0 ≤ (x25.2.2.2.2.1 : Int))) (
 oif (Nat.blt ((x25.2.2.2.2.1 : Int).toNat) x25.2.2.1.length) (
 obind (x25.2.2.1[(x25.2.2.2.2.1 : Int).toNat]?) fun l26 =>
 oif ((((l26.length : Nat) : Int) : Int) == 0) (
 oif ((((x25.2.2.1.length : Nat) : Int) : Int) == 0) none (
 ag24 (x25.1, x25.2.1, x25.2.2.1, x25.2.2.2.1, ((IntKind.i64.wrap (x25.2.2.2.2.1 + 1)).tmod ((x25.2.2.1.length : Nat) : Int)), false))) (
 oif (!x25.2.2.2.2.2) (
 oif (decide (0 ≤ (x25.2.2.2.2.1 : Int))) (
 oif (Nat.blt ((x25.2.2.2.2.1 : Int).toNat) x25.2.2.2.1.length) (
 obind (x25.2.2.2.1[(x25.2.2.2.2.1 : Int).toNat]?) fun n27 =>
 oif (decide (0 ≤ (x25.2.2.2.2.1 : Int))) (
 oif (Nat.blt ((x25.2.2.2.2.1 : Int).toNat) x25.2.2.2.1.length) (
 obind (x25.2.2.2.1[(x25.2.2.2.2.1 : Int).toNat]?) fun n28 =>
 j49i76_0 d ag19 n20 ag24 x25 true true (x25.2.2.2.1.set ((x25.2.2.2.2.1 : Int).toNat) (IntKind.i64.wrap (n27 + x25.1)))) none) none) none) none) (
 j49i76_0 d ag19 n20 ag24 x25 false x25.2.2.2.2.2 x25.2.2.2.1))) none) none
noncomputable def l49i76_0 (d : Nat) (ag19 : (Int × (Int × Int × (List (List (Int × Int × Int × Int × Int × Int))) × (List Int) × Int × Bool)) → Option ((Int × Int × (List (List (Int × Int × Int × Int × Int × Int))) × (List Int) × Int × Bool) × ((List Int) × Int × Int))) (n20 : Int)  (ag24 : (Int × Int × (List (List (Int × Int × Int × Int × Int × Int))) × (List Int) × Int × Bool) → Option ((Int × Int × (List (List (Int × Int × Int × Int × Int × Int))) × (List Int) × Int × Bool) × ((List Int) × Int × Int))) (s : (Int × Int × (List (List (Int × Int × Int × Int × Int × Int))) × (List Int) × Int × Bool)) : Option ((Int × Int × (List (List (Int × Int × Int × Int × Int × Int))) × (List Int) × Int × Bool) × ((List Int) × Int × Int)) := l49i76_0_b d ag19 n20 ag24 s
noncomputable def j49_3 (d : Nat) (kx49_1_0 : Int → Int → Int → Bool → (List (List (Int × Int × Int × Int × Int × Int))) → (List Int) → Option ((Int × Int × (List (List (Int × Int × Int × Int × Int × Int))) × (List Int) × Int × Bool) × ((List Int) × Int × Int))) (ag19 : (Int × (Int × Int × (List (List (Int × Int × Int × Int × Int × Int))) × (List Int) × Int × Bool)) → Option ((Int × Int × (List (List (Int × Int × Int × Int × Int × Int))) × (List Int) × Int × Bool) × ((List Int) × Int × Int))) (n20 : Int) (x21 : (Int × Int × (List (List (Int × Int × Int × Int × Int × Int))) × (List Int) × Int × Bool)) (b22 : Bool) (b23 : Bool) : Option ((Int × Int × (List (List (Int × Int × Int × Int × Int × Int))) × (List Int) × Int × Bool) × ((List Int) × Int × Int)) :=
 oif b23 (
 iterP (l49i76_0 d ag19 n20) fuelN x21) (
 kx49_1_0 x21.1 x21.2.1 x21.2.2.2.2.1 x21.2.2.2.2.2 x21.2.2.1 x21.2.2.2.1)
noncomputable def j49i75_0 (d : Nat) (kx49_1_0 : Int → Int → Int → Bool → (List (List (Int × Int × Int × Int × Int × Int))) → (List Int) → Option ((Int × Int × (List (List (Int × Int × Int × Int × Int × Int))) × (List Int) × Int × Bool) × ((List Int) × Int × Int))) (ag19 : (Int × (Int × Int × (List (List (Int × Int × Int × Int × Int × Int))) × (List Int) × Int × Bool)) → Option ((Int × Int × (List (List (Int × Int × Int × Int × Int × Int))) × (List Int) × Int × Bool) × ((List Int) × Int × Int))) (n20 : Int) (x21 : (Int × Int × (List (List (Int × Int × Int × Int × Int × Int))) × (List Int) × Int × Bool)) (b23 : Bool) : Option ((Int × Int × (List (List (Int × Int × Int × Int × Int × Int))) × (List Int) × Int × Bool) × ((List Int) × Int × Int)) :=
 j49_3 d kx49_1_0 ag19 n20 x21 true false
noncomputable def l49i75_0_b (d : Nat) (kx49_1_0 : Int → Int → Int → Bool → (List (List (Int × Int × Int × Int × Int × Int))) → (List Int) → Option ((Int × Int × (List (List (Int × Int × Int × Int × Int × Int))) × (List Int) × Int × Bool) × ((List Int) × Int × Int))) (ag19 : (Int × (Int × Int × (List (List (Int × Int × Int × Int × Int × Int))) × (List Int) × Int × Bool)) → Option ((Int × Int × (List (List (Int × Int × Int × Int × Int × Int))) × (List Int) × Int × Bool) × ((List Int) × Int × Int))) (n20 : Int) (x21 : (Int × Int × (List (List (Int × Int × Int × Int × Int × Int))) × (List Int) × Int × Bool)) (kx49i75_0_0 : Bool → Option ((Int × Int × (List (List (Int × Int × Int × Int × Int × Int))) × (List Int) × Int × Bool) × ((List Int) × Int × Int))) (ag22 : (Bool × Int) → Option ((Int × Int × (List (List (Int × Int × Int × Int × Int × Int))) × (List Int) × Int × Bool) × ((List Int) × Int × Int))) (b23 : Bool) (n24 : Int) : Option ((Int × Int × (List (List (Int × Int × Int × Int × Int × Int))) × (List Int) × Int × Bool) × ((List Int) × Int × Int)) :=
 oif (decide ((n24 : Int) < ((x21.2.2.1.length : Nat) : Int))) (
 oif (decide (0 ≤ (n24 : Int))) (
 oif (Nat.blt ((n24 : Int).toNat) x21.2.2.1.length) (
 obind (x21.2.2.1[(n24 : Int).toNat]?) fun l25 =>
 oif (decide ((((l25.length : Nat) : Int) : Int) > 0)) (
 j49_3 d kx49_1_0 ag19 n20 x21 true true) (
 ag22 (b23, (IntKind.i64.wrap (n24 + 1))))) none) none) (
 kx49i75_0_0 b23)
noncomputable def l49i75_0 (d : Nat) (kx49_1_0 : Int → Int → Int → Bool → (List (List (Int × Int × Int × Int × Int × Int))) → (List Int) → Option ((Int × Int × (List (List (Int × Int × Int × Int × Int × Int))) × (List Int) × Int × Bool) × ((List Int) × Int × Int))) (ag19 : (Int × (Int × Int × (List (List (Int × Int × Int × Int × Int × Int))) × (List Int) × Int × Bool)) → Option ((Int × Int × (List (List (Int × Int × Int × Int × Int × Int))) × (List Int) × Int × Bool) × ((List Int) × Int × Int))) (n20 : Int) (x21 : (Int × Int × (List (List (Int × Int × Int × Int × Int × Int))) × (List Int) × Int × Bool)) (kx49i75_0_0 : Bool → Option ((Int × Int × (List (List (Int × Int × Int × Int × Int × Int))) × (List Int) × Int × Bool) × ((List Int) × Int × Int))) (ag22 : (Bool × Int) → Option ((Int × Int × (List (List (Int × Int × Int × Int × Int × Int))) × (List Int) × Int × Bool) × ((List Int) × Int × Int))) (s : (Bool × Int)) : Option ((Int × Int × (List (List (Int × Int × Int × Int × Int × Int))) × (List Int) × Int × Bool) × ((List Int) × Int × Int)) := l49i75_0_b d kx49_1_0 ag19 n20 x21 kx49i75_0_0 ag22 s.1 s.2
noncomputable def l49_1_b (d : Nat)  (kx49_1_0 : Int → Int → Int → Bool → (List (List (Int × Int × Int × Int × Int × Int))) → (List Int) → Option ((Int × Int × (List (List (Int × Int × Int × Int × Int × Int))) × (List Int) × Int × Bool) × ((List Int) × Int × Int))) (ag19 : (Int × (Int × Int × (List (List (Int × Int × Int × Int × Int × Int))) × (List Int) × Int × Bool)) → Option ((Int × Int × (List (List (Int × Int × Int × Int × Int × Int))) × (List Int) × Int × Bool) × ((List Int) × Int × Int))) (n20 : Int) (x21 : (Int × Int × (List (List (Int × Int × Int × Int × Int × Int))) × (List Int) × Int × Bool)) : Option ((Int × Int × (List (List (Int × Int × Int × Int × Int × Int))) × (List Int) × Int × Bool) × ((List Int) × Int × Int)) :=
 oif (decide ((n20 : Int) > 0)) (
 iterP (l49i75_0 d kx49_1_0 ag19 n20 x21 (j49i75_0 d kx49_1_0 ag19 n20 x21)) fuelN (false, 0)) (
 j49_3 d kx49_1_0 ag19 n20 x21 false false)
noncomputable def l49_1 (d : Nat)  (kx49_1_0 : Int → Int → Int → Bool → (List (List (Int × Int × Int × Int × Int × Int))) → (List Int) → Option ((Int × Int × (List (List (Int × Int × Int × Int × Int × Int))) × (List Int) × Int × Bool) × ((List Int) × Int × Int))) (ag19 : (Int × (Int × Int × (List (List (Int × Int × Int × Int × Int × Int))) × (List Int) × Int × Bool)) → Option ((Int × Int × (List (List (Int × Int × Int × Int × Int × Int))) × (List Int) × Int × Bool) × ((List Int) × Int × Int))) (s : (Int × (Int × Int × (List (List (Int × Int × Int × Int × Int × Int))) × (List Int) × Int × Bool))) : Option ((Int × Int × (List (List (Int × Int × Int × Int × Int × Int))) × (List Int) × Int × Bool) × ((List Int) × Int × Int)) := l49_1_b d kx49_1_0 ag19 s.1 s.2
noncomputable def j49_4 (d : Nat) (n4 : Int) (l9 : List Int) (n10 : Int) (n11 : Int) (n12 : Int) (n13 : Int) (n14 : Int) (b15 : Bool) (l16 : List (List (Int × Int × Int × Int × Int × Int))) (l17 : List Int) : Option ((Int × Int × (List (List (Int × Int × Int × Int × Int × Int))) × (List Int) × Int × Bool) × ((List Int) × Int × Int)) :=
 obind (g65 (d + 2) (l9, n10, n11) 6) fun r18 =>
 iterP (l49_1 d (j49_1 d n4 r18)) fuelN (r18.1, (n12, n13, l16, l17, n14, b15))
noncomputable def l49_0_b (d : Nat)  (kx49_0_0 : (List Int) → Int → Int → Int → Int → Int → Bool → (List (List (Int × Int × Int × Int × Int × Int))) → (List Int) → Option ((Int × Int × (List (List (Int × Int × Int × Int × Int × Int))) × (List Int) × Int × Bool) × ((List Int) × Int × Int))) (ag8 : (Int × ((List Int) × Int × Int) × (Int × Int × (List (List (Int × Int × Int × Int × Int × Int))) × (List Int) × Int × Bool)) → Option ((Int × Int × (List (List (Int × Int × Int × Int × Int × Int))) × (List Int) × Int × Bool) × ((List Int) × Int × Int))) (n9 : Int) (x10 : ((List Int) × Int × Int)) (x11 : (Int × Int × (List (List (Int × Int × Int × Int × Int × Int))) × (List Int) × Int × Bool)) : Option ((Int × Int × (List (List (Int × Int × Int × Int × Int × Int))) × (List Int) × Int × Bool) × ((List Int) × Int × Int)) :=
 oif (decide ((n9 : Int) > 0)) (
 obind (g97 (d + 2) x10) fun r12 =>
 obind (g90 (d + 1) (n9, r12.1.2) ((x11.2.2.1.length : Nat) : Int)) fun r13 =>
 oif (decide (0 ≤ (r13 : Int))) (
 oif (Nat.blt ((r13 : Int).toNat) x11.2.2.1.length) (
 obind (x11.2.2.1[(r13 : Int).toNat]?) fun l14 =>
 oif (decide ((((l14.length : Nat) : Int) : Int) ≥ x11.2.1)) (
 ag8 ((IntKind.i64.wrap (n9 - 1)), r12.2, x11)) (
 oif (decide (0 ≤ (r13 : Int))) (
 oif (Nat.blt ((r13 : Int).toNat) x11.2.2.1.length) (
 obind (x11.2.2.1[(r13 : Int).toNat]?) fun l15 =>
 oif (Nat.ble ((l15.length + [(n9, r12.1.2)].length) * 48) roomMax) (
 oif (decide (0 ≤ (r13 : Int))) (
 oif (Nat.blt ((r13 : Int).toNat) x11.2.2.1.length) (
 oif (Nat.beq ((r13 : Int).toNat) ((r13 : Int).toNat)) (
 obind (x11.2.2.1[(r13 : Int).toNat]?) fun l16 =>
 ag8 ((IntKind.i64.wrap (n9 - 1)), r12.2, (x11.1, x11.2.1, (x11.2.2.1.set ((r13 : Int).toNat) (l15 ++ [(n9, r12.1.2)])), x11.2.2.2))) none) none) none) none) none) none)) none) none) (
 kx49_0_0 x10.1 x10.2.1 x10.2.2 x11.1 x11.2.1 x11.2.2.2.2.1 x11.2.2.2.2.2 x11.2.2.1 x11.2.2.2.1)
noncomputable def l49_0 (d : Nat)  (kx49_0_0 : (List Int) → Int → Int → Int → Int → Int → Bool → (List (List (Int × Int × Int × Int × Int × Int))) → (List Int) → Option ((Int × Int × (List (List (Int × Int × Int × Int × Int × Int))) × (List Int) × Int × Bool) × ((List Int) × Int × Int))) (ag8 : (Int × ((List Int) × Int × Int) × (Int × Int × (List (List (Int × Int × Int × Int × Int × Int))) × (List Int) × Int × Bool)) → Option ((Int × Int × (List (List (Int × Int × Int × Int × Int × Int))) × (List Int) × Int × Bool) × ((List Int) × Int × Int))) (s : (Int × ((List Int) × Int × Int) × (Int × Int × (List (List (Int × Int × Int × Int × Int × Int))) × (List Int) × Int × Bool))) : Option ((Int × Int × (List (List (Int × Int × Int × Int × Int × Int))) × (List Int) × Int × Bool) × ((List Int) × Int × Int)) := l49_0_b d kx49_0_0 ag8 s.1 s.2.1 s.2.2
noncomputable def j49_5 (d : Nat) (r3 : (Bool × ((List Int) × Int × Int))) (n4 : Int) : Option ((Int × Int × (List (List (Int × Int × Int × Int × Int × Int))) × (List Int) × Int × Bool) × ((List Int) × Int × Int)) :=
 obind (g71 (d + 2) r3.2 [100, 300, 500, 1500, 3000]) fun r5 =>
 obind (g71 (d + 2) r5.2 [1, 2, 5, 20]) fun r6 =>
 oif (decide (0 ≤ (n4 : Int))) (
 oif (decide (0 ≤ (n4 : Int))) (
 oif (Nat.ble ((n4 : Int).toNat) ((n4 : Int).toNat) && Nat.ble (((n4 : Int).toNat) * 24) roomMax) (
 oif (decide (0 ≤ (n4 : Int))) (
 oif (decide (0 ≤ (n4 : Int))) (
 oif (Nat.ble ((n4 : Int).toNat) ((n4 : Int).toNat) && Nat.ble (((n4 : Int).toNat) * 8) roomMax) (
 obind (g65 (d + 2) r6.2 14) fun r7 =>
 iterP (l49_0 d (j49_4 d n4)) fuelN (r7.1, r7.2, (r5.1, r6.1, (List.replicate ((n4 : Int).toNat) ([] : List (Int × Int × Int × Int × Int × Int))), (List.replicate ((n4 : Int).toNat) (0 : Int)), 0, false))) none) none) none) none) none) none
theorem e49 (d : Nat) (x1 : ((List Int) × Int × Int)) : g49 (d + 3) x1 =
 obind (g65 (d + 2) x1 5) fun r2 =>
 obind (g96 (d + 2) r2.2 12) fun r3 =>
 oif r3.1 (
 j49_5 d r3 8) (
 j49_5 d r3 (IntKind.i64.wrap ((1 : Int) + r2.1))) := by kernel_rfl

noncomputable def j98_0 (d : Nat) (r2 : ((Int × Int × Int × Int × Int × Int) × ((List Int) × Int × Int))) (n7 : Int) (n8 : Int) (n9 : Int) (l10 : List Int) (n11 : Int) (n12 : Int) : Option ((Int × Int × Int × Int × Int × Int) × ((List Int) × Int × Int)) :=
 some ((r2.1.1, r2.1.2.1, n7, n8, n9, r2.1.2.2.2.2.2), (l10, n11, n12))
theorem e98 (d : Nat) (x1 : ((List Int) × Int × Int)) : g98 (d + 1) x1 =
 obind (g97 d x1) fun r2 =>
 obind (g65 d r2.2 20) fun r3 =>
 oif ((r3.1 : Int) == 0) (
 obind (g71 d r3.2 [0, (-1), 100000, 100001]) fun r4 =>
 some ((r4.1, r2.1.2), r4.2)) (
 oif ((r3.1 : Int) == 1) (
 obind (g71 d r3.2 [(-1), 65536]) fun r5 =>
 some ((r2.1.1, r5.1, r2.1.2.2), r5.2)) (
 oif ((r3.1 : Int) == 2) (
 obind (g71 d r3.2 [0, (-1), 1500, 1501]) fun r6 =>
 some ((r2.1.1, r2.1.2.1, r2.1.2.2.1, r2.1.2.2.2.1, r2.1.2.2.2.2.1, r6.1), r6.2)) (
 oif ((r3.1 : Int) == 3) (
 obind (g71 d r3.2 [(-1), 65535, 65536]) fun r7 =>
 j98_0 d r2 r2.1.2.2.1 r2.1.2.2.2.1 r7.1 r7.2.1 r7.2.2.1 r7.2.2.2) (
 oif ((r3.1 : Int) == 4) (
 obind (g71 d r3.2 [(-1), 65536]) fun r8 =>
 j98_0 d r2 r2.1.2.2.1 r8.1 r2.1.2.2.2.2.1 r8.2.1 r8.2.2.1 r8.2.2.2) (
 oif ((r3.1 : Int) == 5) (
 obind (g71 d r3.2 [(-1), 65536]) fun r9 =>
 j98_0 d r2 r9.1 r2.1.2.2.2.1 r2.1.2.2.2.2.1 r9.2.1 r9.2.2.1 r9.2.2.2) (
 j98_0 d r2 r2.1.2.2.1 r2.1.2.2.2.1 r2.1.2.2.2.2.1 r3.2.1 r3.2.2.1 r3.2.2.2)))))) := by kernel_rfl

theorem e50 (d : Nat) (x1 : ((List Int) × Int × Int)) : g50 (d + 1) x1 =
 obind (g96 d x1 8) fun r2 =>
 oif r2.1 (
 obind (g98 d r2.2) fun r3 =>
 some (r3.1, r3.2)) (
 obind (g97 d r2.2) fun r4 =>
 obind (g65 d r4.2 30) fun r5 =>
 some (((IntKind.i64.wrap ((8 : Int) + r5.1)), r4.1.2), r5.2)) := by kernel_rfl

theorem e10 (d : Nat) (l1 : List Int) : g10 (d + 1) l1 =
 obind (g49 d (l1, 0, 0)) fun r2 =>
 obind (g50 d r2.2) fun r3 =>
 some (r2.1, r3.1) := by kernel_rfl

theorem e100 (d : Nat) (x1 : (Int × Int × Int × Int × Int × Int)) : g100 (d + 1) x1 =
 some (x1.2.1, x1.2.2.1, x1.2.2.2.1, x1.2.2.2.2.1) := by kernel_rfl

noncomputable def j52_0 (d : Nat) (x1 : (Int × Int × Int × Int × Int × Int)) (b4 : Bool) : Option Bool :=
 oif (decide ((x1.1 : Int) ≥ 1)) (
 oif (decide ((x1.1 : Int) ≤ 100000)) (
 oif (decide ((x1.2.2.2.2.2 : Int) ≥ 1)) (
 some (decide ((x1.2.2.2.2.2 : Int) ≤ 1500))) (
 some false)) (
 some false)) (
 some false)
noncomputable def l52_0_b (d : Nat) (r2 : (Int × Int × Int × Int)) (kx52_0_0 : Bool → Option Bool) (ag3 : (Bool × Int) → Option Bool) (b4 : Bool) (n5 : Int) : Option Bool :=
 oif (decide ((n5 : Int) < 4)) (
 oif (decide (0 ≤ (n5 : Int))) (
 obind (([r2.1, r2.2.1, r2.2.2.1, r2.2.2.2] : List Int)[(n5 : Int).toNat]?) fun n6 =>
 oif (decide ((n6 : Int) < 0)) (
 some false) (
 oif (decide ((n6 : Int) > 65535)) (
 some false) (
 ag3 (b4, (IntKind.i64.wrap (n5 + 1)))))) none) (
 kx52_0_0 b4)
noncomputable def l52_0 (d : Nat) (r2 : (Int × Int × Int × Int)) (kx52_0_0 : Bool → Option Bool) (ag3 : (Bool × Int) → Option Bool) (s : (Bool × Int)) : Option Bool := l52_0_b d r2 kx52_0_0 ag3 s.1 s.2
theorem e52 (d : Nat) (x1 : (Int × Int × Int × Int × Int × Int)) : g52 (d + 1) x1 =
 obind (g100 d x1) fun r2 =>
 iterP (l52_0 d r2 (j52_0 d x1)) fuelN (false, 0) := by kernel_rfl

noncomputable def j103i118i121_0 (d : Nat)  (n4 : Int) : Option Bool :=
 some (decide (((-1) : Int) ≥ 0))
noncomputable def l103i118i121_0_b (d : Nat) (l1 : List (Int × Int × Int × Int × Int × Int)) (n2 : Int) (kx103i118i121_0_0 : Int → Option Bool) (ag3 : (Int × Int) → Option Bool) (n4 : Int) (n5 : Int) : Option Bool :=
 oif (decide ((n5 : Int) < ((l1.length : Nat) : Int))) (
 oif (decide (0 ≤ (n5 : Int))) (
 obind (l1[(n5 : Int).toNat]?) fun x6 =>
 oif ((x6.1 : Int) == n2) (
 some (decide ((n5 : Int) ≥ 0))) (
 ag3 (n4, (IntKind.i64.wrap (n5 + 1))))) none) (
 kx103i118i121_0_0 n4)
noncomputable def l103i118i121_0 (d : Nat) (l1 : List (Int × Int × Int × Int × Int × Int)) (n2 : Int) (kx103i118i121_0_0 : Int → Option Bool) (ag3 : (Int × Int) → Option Bool) (s : (Int × Int)) : Option Bool := l103i118i121_0_b d l1 n2 kx103i118i121_0_0 ag3 s.1 s.2
theorem e103 (d : Nat) (l1 : List (Int × Int × Int × Int × Int × Int)) (n2 : Int) : g103 (d + 4) l1 n2 =
 iterP (l103i118i121_0 d l1 n2 (j103i118i121_0 d)) fuelN (0, 0) := by kernel_rfl

noncomputable def j93_0 (d : Nat)  (b3 : Bool) : Option Bool :=
 some true
noncomputable def l93_0_b (d : Nat) (l1 : List (Int × Int × Int × Int × Int × Int)) (kx93_0_0 : Bool → Option Bool) (ag2 : (Bool × Int) → Option Bool) (b3 : Bool) (n4 : Int) : Option Bool :=
 oif (decide ((n4 : Int) < ((l1.length : Nat) : Int))) (
 oif (decide (0 ≤ (n4 : Int))) (
 obind (l1[(n4 : Int).toNat]?) fun x5 =>
 obind (g52 d x5) fun r6 =>
 oif (!r6) (
 some false) (
 oif (decide (0 ≤ (n4 : Int))) (
 oif (Nat.ble ((n4 : Int).toNat) l1.length) (
 obind (g103 d (l1.take ((n4 : Int).toNat)) x5.1) fun r7 =>
 oif r7 (
 some false) (
 ag2 (b3, (IntKind.i64.wrap (n4 + 1))))) none) none)) none) (
 kx93_0_0 b3)
noncomputable def l93_0 (d : Nat) (l1 : List (Int × Int × Int × Int × Int × Int)) (kx93_0_0 : Bool → Option Bool) (ag2 : (Bool × Int) → Option Bool) (s : (Bool × Int)) : Option Bool := l93_0_b d l1 kx93_0_0 ag2 s.1 s.2
theorem e93 (d : Nat) (l1 : List (Int × Int × Int × Int × Int × Int)) : g93 (d + 1) l1 =
 iterP (l93_0 d l1 (j93_0 d)) fuelN (false, 0) := by kernel_rfl

noncomputable def j94_0 (d : Nat)  (l5 : List (Int × Int × Int × Int × Int × Int)) : Option (List (Int × Int × Int × Int × Int × Int)) :=
 some l5
noncomputable def l94_1_b (d : Nat) (l1 : List (List (Int × Int × Int × Int × Int × Int))) (kx94_1_0 : (List (Int × Int × Int × Int × Int × Int)) → Option (List (Int × Int × Int × Int × Int × Int))) (ag4 : ((List (Int × Int × Int × Int × Int × Int)) × Int) → Option (List (Int × Int × Int × Int × Int × Int))) (l5 : List (Int × Int × Int × Int × Int × Int)) (n6 : Int) : Option (List (Int × Int × Int × Int × Int × Int)) :=
 oif (decide ((n6 : Int) < ((l1.length : Nat) : Int))) (
 oif (decide (0 ≤ (n6 : Int))) (
 obind (l1[(n6 : Int).toNat]?) fun l7 =>
 oif (Nat.ble ((l5.length + l7.length) * 48) roomMax) (
 ag4 ((l5 ++ l7), (IntKind.i64.wrap (n6 + 1)))) none) none) (
 kx94_1_0 l5)
noncomputable def l94_1 (d : Nat) (l1 : List (List (Int × Int × Int × Int × Int × Int))) (kx94_1_0 : (List (Int × Int × Int × Int × Int × Int)) → Option (List (Int × Int × Int × Int × Int × Int))) (ag4 : ((List (Int × Int × Int × Int × Int × Int)) × Int) → Option (List (Int × Int × Int × Int × Int × Int))) (s : ((List (Int × Int × Int × Int × Int × Int)) × Int)) : Option (List (Int × Int × Int × Int × Int × Int)) := l94_1_b d l1 kx94_1_0 ag4 s.1 s.2
noncomputable def j94_1 (d : Nat)  (l9 : List (Int × Int × Int × Int × Int × Int)) : Option (List (Int × Int × Int × Int × Int × Int)) :=
 some l9
noncomputable def l94_1x_b (d : Nat) (l1 : List (List (Int × Int × Int × Int × Int × Int))) (kx94_1_0 : (List (Int × Int × Int × Int × Int × Int)) → Option (List (Int × Int × Int × Int × Int × Int))) (ag8 : ((List (Int × Int × Int × Int × Int × Int)) × Int) → Option (List (Int × Int × Int × Int × Int × Int))) (l9 : List (Int × Int × Int × Int × Int × Int)) (n10 : Int) : Option (List (Int × Int × Int × Int × Int × Int)) :=
 oif (decide ((n10 : Int) < ((l1.length : Nat) : Int))) (
 oif (decide (0 ≤ (n10 : Int))) (
 obind (l1[(n10 : Int).toNat]?) fun l11 =>
 oif (Nat.ble ((l9.length + l11.length) * 48) roomMax) (
 ag8 ((l9 ++ l11), (IntKind.i64.wrap (n10 + 1)))) none) none) (
 kx94_1_0 l9)
noncomputable def l94_1x (d : Nat) (l1 : List (List (Int × Int × Int × Int × Int × Int))) (kx94_1_0 : (List (Int × Int × Int × Int × Int × Int)) → Option (List (Int × Int × Int × Int × Int × Int))) (ag8 : ((List (Int × Int × Int × Int × Int × Int)) × Int) → Option (List (Int × Int × Int × Int × Int × Int))) (s : ((List (Int × Int × Int × Int × Int × Int)) × Int)) : Option (List (Int × Int × Int × Int × Int × Int)) := l94_1x_b d l1 kx94_1_0 ag8 s.1 s.2
noncomputable def j94_2 (d : Nat) (l1 : List (List (Int × Int × Int × Int × Int × Int))) (n3 : Int) : Option (List (Int × Int × Int × Int × Int × Int)) :=
 oif (decide ((n3 : Int) < 0)) (
 none) (
 oif (decide (((IntKind.i64.wrap (n3 - (IntKind.i64.wrap ((0 : Int) - ((0 : Nat) : Int))))) : Int) > 0)) (
 oif (Nat.ble 0 0) (
 oif (decide (0 ≤ ((IntKind.i64.wrap (n3 - (IntKind.i64.wrap ((0 : Int) - ((0 : Nat) : Int))))) : Int)) && decide (((IntKind.i64.wrap (n3 - (IntKind.i64.wrap ((0 : Int) - ((0 : Nat) : Int))))) : Int) * ((48 : Nat) : Int) ≤ ((roomMax : Nat) : Int))) (
 oif (Nat.ble ((List.replicate ((IntKind.i64.wrap (n3 - (IntKind.i64.wrap ((0 : Int) - ((0 : Nat) : Int))))) : Int).toNat ((0, 0, 0, 0, 0, 0) : (Int × Int × Int × Int × Int × Int))).length * 48) roomMax) (
 oif (decide (0 ≤ (((0 : Nat) : Int) : Int))) (
 oif (Nat.ble ((((0 : Nat) : Int) : Int).toNat) ((List.replicate ((IntKind.i64.wrap (n3 - (IntKind.i64.wrap ((0 : Int) - ((0 : Nat) : Int))))) : Int).toNat ((0, 0, 0, 0, 0, 0) : (Int × Int × Int × Int × Int × Int))).length)) (
 iterP (l94_1 d l1 (j94_0 d)) fuelN (((List.replicate ((IntKind.i64.wrap (n3 - (IntKind.i64.wrap ((0 : Int) - ((0 : Nat) : Int))))) : Int).toNat ((0, 0, 0, 0, 0, 0) : (Int × Int × Int × Int × Int × Int))).take ((((0 : Nat) : Int) : Int).toNat)), 0)) none) none) none) none) none) (
 iterP (l94_1x d l1 (j94_1 d)) fuelN ([], 0)))
noncomputable def l94_0_b (d : Nat) (l1 : List (List (Int × Int × Int × Int × Int × Int))) (kx94_0_0 : Int → Option (List (Int × Int × Int × Int × Int × Int))) (ag2 : (Int × Int) → Option (List (Int × Int × Int × Int × Int × Int))) (n3 : Int) (n4 : Int) : Option (List (Int × Int × Int × Int × Int × Int)) :=
 oif (decide ((n4 : Int) < ((l1.length : Nat) : Int))) (
 oif (decide (0 ≤ (n4 : Int))) (
 obind (l1[(n4 : Int).toNat]?) fun l5 =>
 oif (decide (((IntKind.i64.wrap (n3 + ((l5.length : Nat) : Int))) : Int) < 0)) (
 none) (
 ag2 ((IntKind.i64.wrap (n3 + ((l5.length : Nat) : Int))), (IntKind.i64.wrap (n4 + 1))))) none) (
 kx94_0_0 n3)
noncomputable def l94_0 (d : Nat) (l1 : List (List (Int × Int × Int × Int × Int × Int))) (kx94_0_0 : Int → Option (List (Int × Int × Int × Int × Int × Int))) (ag2 : (Int × Int) → Option (List (Int × Int × Int × Int × Int × Int))) (s : (Int × Int)) : Option (List (Int × Int × Int × Int × Int × Int)) := l94_0_b d l1 kx94_0_0 ag2 s.1 s.2
theorem e94 (d : Nat) (l1 : List (List (Int × Int × Int × Int × Int × Int))) : g94 (d + 2) l1 =
 iterP (l94_0 d l1 (j94_2 d l1)) fuelN (0, 0) := by kernel_rfl

noncomputable def j64_0 (d : Nat) (n2 : Int) (n4 : Int) : Option Int :=
 oif ((n2 : Int) == 0) none (
 some (n4.tmod n2))
noncomputable def l64_0_b (d : Nat) (x1 : (Int × Int × Int × Int × Int × Int)) (kx64_0_0 : Int → Option Int) (ag3 : (Int × Int) → Option Int) (n4 : Int) (n5 : Int) : Option Int :=
 oif (decide ((n5 : Int) < 3)) (
 oif (decide (0 ≤ (n5 : Int))) (
 obind (([x1.2.1, x1.2.2.1, x1.2.2.2.1] : List Int)[(n5 : Int).toNat]?) fun n6 =>
 ag3 (((IntKind.i64.wrap ((IntKind.i64.wrap ((IntKind.i64.wrap ((31 : Int) * n4)) + n6)) + 7)).tmod 1000003), (IntKind.i64.wrap (n5 + 1)))) none) (
 kx64_0_0 n4)
noncomputable def l64_0 (d : Nat) (x1 : (Int × Int × Int × Int × Int × Int)) (kx64_0_0 : Int → Option Int) (ag3 : (Int × Int) → Option Int) (s : (Int × Int)) : Option Int := l64_0_b d x1 kx64_0_0 ag3 s.1 s.2
theorem e64 (d : Nat) (x1 : (Int × Int × Int × Int × Int × Int)) (n2 : Int) : g64 (d + 1) x1 n2 =
 iterP (l64_0 d x1 (j64_0 d n2)) fuelN (40503, 0) := by kernel_rfl

noncomputable def j99_0 (d : Nat) (x1 : (Int × Int × (List (List (Int × Int × Int × Int × Int × Int))) × (List Int) × Int × Bool)) (n2 : Int) (l3 : List (Int × Int × Int × Int × Int × Int)) (n4 : Int) (b7 : Bool) : Option Bool :=
 oif ((((l3.length : Nat) : Int) : Int) == 0) (
 some ((n4 : Int) == 0)) (
 oif x1.2.2.2.2.2 (
 oif ((n2 : Int) == x1.2.2.2.2.1) (
 some true) (
 obind (l3[0]?) fun x8 =>
 some (decide ((n4 : Int) < x8.2.2.2.2.2)))) (
 obind (l3[0]?) fun x9 =>
 some (decide ((n4 : Int) < x9.2.2.2.2.2))))
noncomputable def l99_0_b (d : Nat) (x1 : (Int × Int × (List (List (Int × Int × Int × Int × Int × Int))) × (List Int) × Int × Bool)) (n2 : Int) (l3 : List (Int × Int × Int × Int × Int × Int)) (kx99_0_0 : Bool → Option Bool) (ag6 : (Bool × Int) → Option Bool) (b7 : Bool) (n8 : Int) : Option Bool :=
 oif (decide ((n8 : Int) < ((l3.length : Nat) : Int))) (
 oif (decide (0 ≤ (n8 : Int))) (
 obind (l3[(n8 : Int).toNat]?) fun x9 =>
 obind (g52 d x9) fun r10 =>
 oif (!r10) (
 some false) (
 obind (g64 d x9 ((x1.2.2.1.length : Nat) : Int)) fun r11 =>
 oif ((r11 : Int) != n2) (
 some false) (
 ag6 (b7, (IntKind.i64.wrap (n8 + 1)))))) none) (
 kx99_0_0 b7)
noncomputable def l99_0 (d : Nat) (x1 : (Int × Int × (List (List (Int × Int × Int × Int × Int × Int))) × (List Int) × Int × Bool)) (n2 : Int) (l3 : List (Int × Int × Int × Int × Int × Int)) (kx99_0_0 : Bool → Option Bool) (ag6 : (Bool × Int) → Option Bool) (s : (Bool × Int)) : Option Bool := l99_0_b d x1 n2 l3 kx99_0_0 ag6 s.1 s.2
noncomputable def j99_1 (d : Nat) (x1 : (Int × Int × (List (List (Int × Int × Int × Int × Int × Int))) × (List Int) × Int × Bool)) (n2 : Int) (l3 : List (Int × Int × Int × Int × Int × Int)) (n4 : Int) (b5 : Bool) : Option Bool :=
 oif b5 (
 some false) (
 iterP (l99_0 d x1 n2 l3 (j99_0 d x1 n2 l3 n4)) fuelN (false, 0))
theorem e99 (d : Nat) (x1 : (Int × Int × (List (List (Int × Int × Int × Int × Int × Int))) × (List Int) × Int × Bool)) (n2 : Int) : g99 (d + 1) x1 n2 =
 oif (decide (0 ≤ (n2 : Int))) (
 obind (x1.2.2.1[(n2 : Int).toNat]?) fun l3 =>
 oif (decide (0 ≤ (n2 : Int))) (
 obind (x1.2.2.2.1[(n2 : Int).toNat]?) fun n4 =>
 oif (decide ((((l3.length : Nat) : Int) : Int) > x1.2.1)) (
 j99_1 d x1 n2 l3 n4 true) (
 oif (decide ((n4 : Int) < 0)) (
 j99_1 d x1 n2 l3 n4 true) (
 j99_1 d x1 n2 l3 n4 (decide ((n4 : Int) > (IntKind.i64.wrap (x1.1 + 1500))))))) none) none := by kernel_rfl

noncomputable def j51_0 (d : Nat) (x1 : (Int × Int × (List (List (Int × Int × Int × Int × Int × Int))) × (List Int) × Int × Bool)) (b4 : Bool) : Option Bool :=
 oif x1.2.2.2.2.2 (
 oif (decide (0 ≤ (x1.2.2.2.2.1 : Int))) (
 obind (x1.2.2.1[(x1.2.2.2.2.1 : Int).toNat]?) fun l5 =>
 oif ((((l5.length : Nat) : Int) : Int) == 0) (
 some false) (
 obind (g94 d x1.2.2.1) fun r6 =>
 obind (g93 d r6) fun r7 =>
 some r7)) none) (
 obind (g94 d x1.2.2.1) fun r8 =>
 obind (g93 d r8) fun r9 =>
 some r9)
noncomputable def l51_0_b (d : Nat) (x1 : (Int × Int × (List (List (Int × Int × Int × Int × Int × Int))) × (List Int) × Int × Bool)) (kx51_0_0 : Bool → Option Bool) (ag3 : (Bool × Int) → Option Bool) (b4 : Bool) (n5 : Int) : Option Bool :=
 oif (decide ((n5 : Int) < ((x1.2.2.1.length : Nat) : Int))) (
 obind (g99 d x1 n5) fun r6 =>
 oif (!r6) (
 some false) (
 ag3 (b4, (IntKind.i64.wrap (n5 + 1))))) (
 kx51_0_0 b4)
noncomputable def l51_0 (d : Nat) (x1 : (Int × Int × (List (List (Int × Int × Int × Int × Int × Int))) × (List Int) × Int × Bool)) (kx51_0_0 : Bool → Option Bool) (ag3 : (Bool × Int) → Option Bool) (s : (Bool × Int)) : Option Bool := l51_0_b d x1 kx51_0_0 ag3 s.1 s.2
noncomputable def j51_1 (d : Nat) (x1 : (Int × Int × (List (List (Int × Int × Int × Int × Int × Int))) × (List Int) × Int × Bool)) (b2 : Bool) : Option Bool :=
 oif b2 (
 some false) (
 iterP (l51_0 d x1 (j51_0 d x1)) fuelN (false, 0))
theorem e51 (d : Nat) (x1 : (Int × Int × (List (List (Int × Int × Int × Int × Int × Int))) × (List Int) × Int × Bool)) : g51 (d + 1) x1 =
 oif (decide ((x1.1 : Int) < 100)) (
 j51_1 d x1 true) (
 oif (decide ((x1.1 : Int) > 3000)) (
 j51_1 d x1 true) (
 oif (decide ((x1.2.1 : Int) < 1)) (
 j51_1 d x1 true) (
 oif (decide ((x1.2.1 : Int) > 20)) (
 j51_1 d x1 true) (
 oif (decide ((((x1.2.2.1.length : Nat) : Int) : Int) < 1)) (
 j51_1 d x1 true) (
 oif (decide ((((x1.2.2.1.length : Nat) : Int) : Int) > 8)) (
 j51_1 d x1 true) (
 oif ((((x1.2.2.2.1.length : Nat) : Int) : Int) != ((x1.2.2.1.length : Nat) : Int)) (
 j51_1 d x1 true) (
 oif (decide ((x1.2.2.2.2.1 : Int) < 0)) (
 j51_1 d x1 true) (
 j51_1 d x1 (decide ((x1.2.2.2.2.1 : Int) ≥ ((x1.2.2.1.length : Nat) : Int))))))))))) := by kernel_rfl

theorem e120 (d : Nat) (l1 : List (Int × Int × Int × Int × Int × Int)) : g120 (d + 1) l1 =
 nilB l1.length (
 some []) (
 oif (Nat.ble ((([] : List (Int × Int × Int × Int × Int × Int)).length + l1.length) * 48) roomMax) (
 some (([] : List (Int × Int × Int × Int × Int × Int)) ++ l1)) none) := by kernel_rfl

noncomputable def j104_0 (d : Nat)  (l3 : List (List (Int × Int × Int × Int × Int × Int))) : Option (List (List (Int × Int × Int × Int × Int × Int))) :=
 some l3
noncomputable def l104_0_b (d : Nat) (l1 : List (List (Int × Int × Int × Int × Int × Int))) (kx104_0_0 : (List (List (Int × Int × Int × Int × Int × Int))) → Option (List (List (Int × Int × Int × Int × Int × Int)))) (ag2 : (Int × (List (List (Int × Int × Int × Int × Int × Int)))) → Option (List (List (Int × Int × Int × Int × Int × Int)))) (n3 : Int) (l4 : List (List (Int × Int × Int × Int × Int × Int))) : Option (List (List (Int × Int × Int × Int × Int × Int))) :=
 oif (decide ((n3 : Int) < ((l1.length : Nat) : Int))) (
 oif (decide (0 ≤ (n3 : Int))) (
 obind (l1[(n3 : Int).toNat]?) fun l5 =>
 obind (g120 d l5) fun r6 =>
 oif (decide (0 ≤ (n3 : Int))) (
 oif (Nat.blt ((n3 : Int).toNat) l4.length) (
 obind (l4[(n3 : Int).toNat]?) fun l7 =>
 ag2 ((IntKind.i64.wrap (n3 + 1)), (l4.set ((n3 : Int).toNat) r6))) none) none) none) (
 kx104_0_0 l4)
noncomputable def l104_0 (d : Nat) (l1 : List (List (Int × Int × Int × Int × Int × Int))) (kx104_0_0 : (List (List (Int × Int × Int × Int × Int × Int))) → Option (List (List (Int × Int × Int × Int × Int × Int)))) (ag2 : (Int × (List (List (Int × Int × Int × Int × Int × Int)))) → Option (List (List (Int × Int × Int × Int × Int × Int)))) (s : (Int × (List (List (Int × Int × Int × Int × Int × Int))))) : Option (List (List (Int × Int × Int × Int × Int × Int))) := l104_0_b d l1 kx104_0_0 ag2 s.1 s.2
theorem e104 (d : Nat) (l1 : List (List (Int × Int × Int × Int × Int × Int))) : g104 (d + 1) l1 =
 oif (decide (0 ≤ (((l1.length : Nat) : Int) : Int))) (
 oif (decide (0 ≤ (((l1.length : Nat) : Int) : Int))) (
 oif (Nat.ble ((((l1.length : Nat) : Int) : Int).toNat) ((((l1.length : Nat) : Int) : Int).toNat) && Nat.ble (((((l1.length : Nat) : Int) : Int).toNat) * 24) roomMax) (
 iterP (l104_0 d l1 (j104_0 d)) fuelN (0, (List.replicate ((((l1.length : Nat) : Int) : Int).toNat) ([] : List (Int × Int × Int × Int × Int × Int))))) none) none) none := by kernel_rfl

theorem e105 (d : Nat) (l1 : List Int) : g105 (d + 1) l1 =
 nilB l1.length (
 some []) (
 oif (Nat.ble ((([] : List Int).length + l1.length) * 8) roomMax) (
 some (([] : List Int) ++ l1)) none) := by kernel_rfl

theorem e54 (d : Nat) (x1 : (Int × Int × (List (List (Int × Int × Int × Int × Int × Int))) × (List Int) × Int × Bool)) : g54 (d + 1) x1 =
 obind (g104 d x1.2.2.1) fun r2 =>
 obind (g105 d x1.2.2.2.1) fun r3 =>
 some (x1.1, x1.2.1, r2, r3, x1.2.2.2.2) := by kernel_rfl

noncomputable def j11_0 (d : Nat) (x1 : (Int × Int × (List (List (Int × Int × Int × Int × Int × Int))) × (List Int) × Int × Bool)) (x2 : (Int × Int × Int × Int × Int × Int)) (b3 : Bool) : Option ((Int × Int × (List (List (Int × Int × Int × Int × Int × Int))) × (List Int) × Int × Bool) × Bool × Bool) :=
 oif b3 (
 some ((0, 0, [], [], 0, false), false, false)) (
 obind (g54 (d + 4) x1) fun r4 =>
 obind (g64 (d + 3) x2 ((r4.2.2.1.length : Nat) : Int)) fun r5 =>
 oif (decide (0 ≤ (r5 : Int))) (
 oif (Nat.blt ((r5 : Int).toNat) r4.2.2.1.length) (
 obind (r4.2.2.1[(r5 : Int).toNat]?) fun l6 =>
 oif ((((l6.length : Nat) : Int) : Int) == r4.2.1) (
 some (r4, false, true)) (
 oif (decide (0 ≤ (r5 : Int))) (
 oif (Nat.blt ((r5 : Int).toNat) r4.2.2.1.length) (
 obind (r4.2.2.1[(r5 : Int).toNat]?) fun l7 =>
 oif (Nat.ble ((l7.length + [x2].length) * 48) roomMax) (
 oif (decide (0 ≤ (r5 : Int))) (
 oif (Nat.blt ((r5 : Int).toNat) r4.2.2.1.length) (
 oif (Nat.beq ((r5 : Int).toNat) ((r5 : Int).toNat)) (
 obind (r4.2.2.1[(r5 : Int).toNat]?) fun l8 =>
 some ((r4.1, r4.2.1, (r4.2.2.1.set ((r5 : Int).toNat) (l7 ++ [x2])), r4.2.2.2), true, true)) none) none) none) none) none) none)) none) none)
noncomputable def j11i53i101i117_0 (d : Nat) (x1 : (Int × Int × (List (List (Int × Int × Int × Int × Int × Int))) × (List Int) × Int × Bool)) (x2 : (Int × Int × Int × Int × Int × Int)) (n6 : Int) : Option ((Int × Int × (List (List (Int × Int × Int × Int × Int × Int))) × (List Int) × Int × Bool) × Bool × Bool) :=
 j11_0 d x1 x2 (decide (((-1) : Int) ≥ 0))
noncomputable def l11i53i101i117_0_b (d : Nat) (x1 : (Int × Int × (List (List (Int × Int × Int × Int × Int × Int))) × (List Int) × Int × Bool)) (x2 : (Int × Int × Int × Int × Int × Int)) (kx11i53i101i117_0_0 : Int → Option ((Int × Int × (List (List (Int × Int × Int × Int × Int × Int))) × (List Int) × Int × Bool) × Bool × Bool)) (ag5 : (Int × Int) → Option ((Int × Int × (List (List (Int × Int × Int × Int × Int × Int))) × (List Int) × Int × Bool) × Bool × Bool)) (n6 : Int) (n7 : Int) : Option ((Int × Int × (List (List (Int × Int × Int × Int × Int × Int))) × (List Int) × Int × Bool) × Bool × Bool) :=
 oif (decide ((n7 : Int) < ((x1.2.2.1.length : Nat) : Int))) (
 oif (decide (0 ≤ (n7 : Int))) (
 obind (x1.2.2.1[(n7 : Int).toNat]?) fun l8 =>
 obind (g103 d l8 x2.1) fun r9 =>
 oif r9 (
 j11_0 d x1 x2 (decide ((n7 : Int) ≥ 0))) (
 ag5 (n6, (IntKind.i64.wrap (n7 + 1))))) none) (
 kx11i53i101i117_0_0 n6)
noncomputable def l11i53i101i117_0 (d : Nat) (x1 : (Int × Int × (List (List (Int × Int × Int × Int × Int × Int))) × (List Int) × Int × Bool)) (x2 : (Int × Int × Int × Int × Int × Int)) (kx11i53i101i117_0_0 : Int → Option ((Int × Int × (List (List (Int × Int × Int × Int × Int × Int))) × (List Int) × Int × Bool) × Bool × Bool)) (ag5 : (Int × Int) → Option ((Int × Int × (List (List (Int × Int × Int × Int × Int × Int))) × (List Int) × Int × Bool) × Bool × Bool)) (s : (Int × Int)) : Option ((Int × Int × (List (List (Int × Int × Int × Int × Int × Int))) × (List Int) × Int × Bool) × Bool × Bool) := l11i53i101i117_0_b d x1 x2 kx11i53i101i117_0_0 ag5 s.1 s.2
theorem e11 (d : Nat) (x1 : (Int × Int × (List (List (Int × Int × Int × Int × Int × Int))) × (List Int) × Int × Bool)) (x2 : (Int × Int × Int × Int × Int × Int)) : g11 (d + 5) x1 x2 =
 obind (g51 (d + 4) x1) fun r3 =>
 oif (!r3) (
 j11_0 d x1 x2 true) (
 obind (g52 (d + 4) x2) fun r4 =>
 oif (!r4) (
 j11_0 d x1 x2 true) (
 iterP (l11i53i101i117_0 d x1 x2 (j11i53i101i117_0 d x1 x2)) fuelN (0, 0))) := by kernel_rfl

theorem e68 (d : Nat) (n1 : Int) (n2 : Int) (n3 : Int) : g68 (d + 1) n1 n2 n3 =
 oif (decide ((n1 : Int) ≥ n2)) (
 some (decide ((n1 : Int) ≤ n3))) (
 some false) := by kernel_rfl

theorem e108 (d : Nat) (n1 : Int) : g108 (d + 1) n1 =
 obind (g68 d n1 0 65535) fun r2 =>
 some r2 := by kernel_rfl

theorem e57 (d : Nat) (x1 : (Int × Int × Int × Int × Int × Int)) : g57 (d + 1) x1 =
 obind (g68 d x1.1 1 100000) fun r2 =>
 oif r2 (
 obind (g108 d x1.2.1) fun r3 =>
 oif r3 (
 obind (g108 d x1.2.2.1) fun r4 =>
 oif r4 (
 obind (g108 d x1.2.2.2.1) fun r5 =>
 oif r5 (
 obind (g108 d x1.2.2.2.2.1) fun r6 =>
 oif r6 (
 obind (g68 d x1.2.2.2.2.2 1 1500) fun r7 =>
 some r7) (
 some false)) (
 some false)) (
 some false)) (
 some false)) (
 some false) := by kernel_rfl

noncomputable def j106_0 (d : Nat)  (b5 : Bool) : Option Bool :=
 some true
noncomputable def l106_0_b (d : Nat) (l1 : List Int) (n2 : Int) (n3 : Int) (kx106_0_0 : Bool → Option Bool) (ag4 : (Bool × Int) → Option Bool) (b5 : Bool) (n6 : Int) : Option Bool :=
 oif (decide ((n6 : Int) < ((l1.length : Nat) : Int))) (
 oif (decide (0 ≤ (n6 : Int))) (
 obind (l1[(n6 : Int).toNat]?) fun n7 =>
 obind (g68 d n7 n2 n3) fun r8 =>
 oif (!r8) (
 some false) (
 ag4 (b5, (IntKind.i64.wrap (n6 + 1))))) none) (
 kx106_0_0 b5)
noncomputable def l106_0 (d : Nat) (l1 : List Int) (n2 : Int) (n3 : Int) (kx106_0_0 : Bool → Option Bool) (ag4 : (Bool × Int) → Option Bool) (s : (Bool × Int)) : Option Bool := l106_0_b d l1 n2 n3 kx106_0_0 ag4 s.1 s.2
theorem e106 (d : Nat) (l1 : List Int) (n2 : Int) (n3 : Int) : g106 (d + 1) l1 n2 n3 =
 iterP (l106_0 d l1 n2 n3 (j106_0 d)) fuelN (false, 0) := by kernel_rfl

noncomputable def j107_0 (d : Nat)  (b4 : Bool) : Option Bool :=
 some false
noncomputable def l107_0_b (d : Nat) (l1 : List Int) (n2 : Int) (kx107_0_0 : Bool → Option Bool) (ag3 : (Bool × Int) → Option Bool) (b4 : Bool) (n5 : Int) : Option Bool :=
 oif (decide ((n5 : Int) < ((l1.length : Nat) : Int))) (
 oif (decide (0 ≤ (n5 : Int))) (
 obind (l1[(n5 : Int).toNat]?) fun n6 =>
 oif ((n6 : Int) == n2) (
 some true) (
 ag3 (b4, (IntKind.i64.wrap (n5 + 1))))) none) (
 kx107_0_0 b4)
noncomputable def l107_0 (d : Nat) (l1 : List Int) (n2 : Int) (kx107_0_0 : Bool → Option Bool) (ag3 : (Bool × Int) → Option Bool) (s : (Bool × Int)) : Option Bool := l107_0_b d l1 n2 kx107_0_0 ag3 s.1 s.2
theorem e107 (d : Nat) (l1 : List Int) (n2 : Int) : g107 (d + 1) l1 n2 =
 iterP (l107_0 d l1 n2 (j107_0 d)) fuelN (false, 0) := by kernel_rfl

noncomputable def j56_0 (d : Nat) (x1 : (Int × Int × (List (List (Int × Int × Int × Int × Int × Int))) × (List Int) × Int × Bool)) (b4 : Bool) : Option Bool :=
 oif (!x1.2.2.2.2.2) (
 some true) (
 oif (decide (0 ≤ (x1.2.2.2.2.1 : Int))) (
 obind (x1.2.2.1[(x1.2.2.2.2.1 : Int).toNat]?) fun l5 =>
 some (decide ((((l5.length : Nat) : Int) : Int) > 0))) none)
noncomputable def j56_1 (d : Nat) (ag3 : (Bool × (List Int) × Int) → Option Bool) (n6 : Int) (b11 : Bool) (l13 : List Int) (b14 : Bool) (b15 : Bool) (b16 : Bool) (b17 : Bool) : Option Bool :=
 oif b17 (
 some false) (
 ag3 (b11, l13, (IntKind.i64.wrap (n6 + 1))))
noncomputable def j56_2 (d : Nat) (x1 : (Int × Int × (List (List (Int × Int × Int × Int × Int × Int))) × (List Int) × Int × Bool)) (ag3 : (Bool × (List Int) × Int) → Option Bool) (n6 : Int) (l7 : List (Int × Int × Int × Int × Int × Int)) (b11 : Bool) (n12 : Int) (l13 : List Int) : Option Bool :=
 oif (decide ((((l7.length : Nat) : Int) : Int) > 0)) (
 oif (decide (0 ≤ (n6 : Int))) (
 obind (x1.2.2.2.1[(n6 : Int).toNat]?) fun n14 =>
 obind (l7[0]?) fun x15 =>
 oif (decide ((n14 : Int) ≥ x15.2.2.2.2.2)) (
 oif (!x1.2.2.2.2.2) (
 j56_1 d ag3 n6 b11 l13 true (decide ((n14 : Int) ≥ x15.2.2.2.2.2)) true true) (
 j56_1 d ag3 n6 b11 l13 true (decide ((n14 : Int) ≥ x15.2.2.2.2.2)) true ((x1.2.2.2.2.1 : Int) != n6))) (
 j56_1 d ag3 n6 b11 l13 true (decide ((n14 : Int) ≥ x15.2.2.2.2.2)) false false)) none) (
 j56_1 d ag3 n6 b11 l13 false false false false)
noncomputable def l56_1_b (d : Nat) (x1 : (Int × Int × (List (List (Int × Int × Int × Int × Int × Int))) × (List Int) × Int × Bool)) (n6 : Int) (l7 : List (Int × Int × Int × Int × Int × Int)) (kx56_1_0 : Bool → Int → (List Int) → Option Bool) (ag10 : (Bool × (List Int) × Int) → Option Bool) (b11 : Bool) (l12 : List Int) (n13 : Int) : Option Bool :=
 oif (decide ((n13 : Int) < ((l7.length : Nat) : Int))) (
 oif (decide (0 ≤ (n13 : Int))) (
 obind (l7[(n13 : Int).toNat]?) fun x14 =>
 obind (g57 d x14) fun r15 =>
 oif (!r15) (
 some false) (
 obind (g90 d x14 ((x1.2.2.1.length : Nat) : Int)) fun r16 =>
 oif ((r16 : Int) != n6) (
 some false) (
 obind (g107 d l12 x14.1) fun r17 =>
 oif r17 (
 some false) (
 oif (Nat.ble ((l12.length + [x14.1].length) * 8) roomMax) (
 ag10 (b11, (l12 ++ [x14.1]), (IntKind.i64.wrap (n13 + 1)))) none)))) none) (
 kx56_1_0 b11 n13 l12)
noncomputable def l56_1 (d : Nat) (x1 : (Int × Int × (List (List (Int × Int × Int × Int × Int × Int))) × (List Int) × Int × Bool)) (n6 : Int) (l7 : List (Int × Int × Int × Int × Int × Int)) (kx56_1_0 : Bool → Int → (List Int) → Option Bool) (ag10 : (Bool × (List Int) × Int) → Option Bool) (s : (Bool × (List Int) × Int)) : Option Bool := l56_1_b d x1 n6 l7 kx56_1_0 ag10 s.1 s.2.1 s.2.2
noncomputable def j56_3 (d : Nat) (x1 : (Int × Int × (List (List (Int × Int × Int × Int × Int × Int))) × (List Int) × Int × Bool)) (ag3 : (Bool × (List Int) × Int) → Option Bool) (b4 : Bool) (l5 : List Int) (n6 : Int) (l7 : List (Int × Int × Int × Int × Int × Int)) (b8 : Bool) (b9 : Bool) : Option Bool :=
 oif b9 (
 some false) (
 iterP (l56_1 d x1 n6 l7 (j56_2 d x1 ag3 n6 l7)) fuelN (b4, l5, 0))
noncomputable def l56_0_b (d : Nat) (x1 : (Int × Int × (List (List (Int × Int × Int × Int × Int × Int))) × (List Int) × Int × Bool)) (kx56_0_0 : Bool → Option Bool) (ag3 : (Bool × (List Int) × Int) → Option Bool) (b4 : Bool) (l5 : List Int) (n6 : Int) : Option Bool :=
 oif (decide ((n6 : Int) < ((x1.2.2.1.length : Nat) : Int))) (
 oif (decide (0 ≤ (n6 : Int))) (
 obind (x1.2.2.1[(n6 : Int).toNat]?) fun l7 =>
 oif (decide ((((l7.length : Nat) : Int) : Int) > x1.2.1)) (
 j56_3 d x1 ag3 b4 l5 n6 l7 true true) (
 oif ((((l7.length : Nat) : Int) : Int) == 0) (
 oif (decide (0 ≤ (n6 : Int))) (
 obind (x1.2.2.2.1[(n6 : Int).toNat]?) fun n8 =>
 j56_3 d x1 ag3 b4 l5 n6 l7 false ((n8 : Int) != 0)) none) (
 j56_3 d x1 ag3 b4 l5 n6 l7 false false))) none) (
 kx56_0_0 b4)
noncomputable def l56_0 (d : Nat) (x1 : (Int × Int × (List (List (Int × Int × Int × Int × Int × Int))) × (List Int) × Int × Bool)) (kx56_0_0 : Bool → Option Bool) (ag3 : (Bool × (List Int) × Int) → Option Bool) (s : (Bool × (List Int) × Int)) : Option Bool := l56_0_b d x1 kx56_0_0 ag3 s.1 s.2.1 s.2.2
noncomputable def j56_4 (d : Nat) (x1 : (Int × Int × (List (List (Int × Int × Int × Int × Int × Int))) × (List Int) × Int × Bool)) (b2 : Bool) : Option Bool :=
 oif b2 (
 some false) (
 iterP (l56_0 d x1 (j56_0 d x1)) fuelN (false, [], 0))
theorem e56 (d : Nat) (x1 : (Int × Int × (List (List (Int × Int × Int × Int × Int × Int))) × (List Int) × Int × Bool)) : g56 (d + 1) x1 =
 obind (g68 d x1.1 100 3000) fun r2 =>
 oif (!r2) (
 j56_4 d x1 true) (
 obind (g68 d x1.2.1 1 20) fun r3 =>
 oif (!r3) (
 j56_4 d x1 true) (
 obind (g68 d ((x1.2.2.1.length : Nat) : Int) 1 8) fun r4 =>
 oif (!r4) (
 j56_4 d x1 true) (
 oif ((((x1.2.2.2.1.length : Nat) : Int) : Int) != ((x1.2.2.1.length : Nat) : Int)) (
 j56_4 d x1 true) (
 obind (g68 d x1.2.2.2.2.1 0 (IntKind.i64.wrap (((x1.2.2.1.length : Nat) : Int) - 1))) fun r5 =>
 oif (!r5) (
 j56_4 d x1 true) (
 obind (g106 d x1.2.2.2.1 0 (IntKind.i64.wrap (x1.1 + 1500))) fun r6 =>
 j56_4 d x1 (!r6)))))) := by kernel_rfl

noncomputable def j91_0 (d : Nat)  (n4 : Int) : Option Int :=
 some (-1)
noncomputable def l91_0_b (d : Nat) (l1 : List (Int × Int × Int × Int × Int × Int)) (n2 : Int) (kx91_0_0 : Int → Option Int) (ag3 : (Int × Int) → Option Int) (n4 : Int) (n5 : Int) : Option Int :=
 oif (decide ((n5 : Int) < ((l1.length : Nat) : Int))) (
 oif (decide (0 ≤ (n5 : Int))) (
 obind (l1[(n5 : Int).toNat]?) fun x6 =>
 oif ((x6.1 : Int) == n2) (
 some n5) (
 ag3 (n4, (IntKind.i64.wrap (n5 + 1))))) none) (
 kx91_0_0 n4)
noncomputable def l91_0 (d : Nat) (l1 : List (Int × Int × Int × Int × Int × Int)) (n2 : Int) (kx91_0_0 : Int → Option Int) (ag3 : (Int × Int) → Option Int) (s : (Int × Int)) : Option Int := l91_0_b d l1 n2 kx91_0_0 ag3 s.1 s.2
theorem e91 (d : Nat) (l1 : List (Int × Int × Int × Int × Int × Int)) (n2 : Int) : g91 (d + 1) l1 n2 =
 iterP (l91_0 d l1 n2 (j91_0 d)) fuelN (0, 0) := by kernel_rfl

noncomputable def j58_0 (d : Nat)  (b4 : Bool) : Option Bool :=
 some false
noncomputable def l58_0_b (d : Nat) (x1 : (Int × Int × (List (List (Int × Int × Int × Int × Int × Int))) × (List Int) × Int × Bool)) (n2 : Int) (kx58_0_0 : Bool → Option Bool) (ag3 : (Bool × Int) → Option Bool) (b4 : Bool) (n5 : Int) : Option Bool :=
 oif (decide ((n5 : Int) < ((x1.2.2.1.length : Nat) : Int))) (
 oif (decide (0 ≤ (n5 : Int))) (
 obind (x1.2.2.1[(n5 : Int).toNat]?) fun l6 =>
 obind (g91 d l6 n2) fun r7 =>
 oif (decide ((r7 : Int) ≥ 0)) (
 some true) (
 ag3 (b4, (IntKind.i64.wrap (n5 + 1))))) none) (
 kx58_0_0 b4)
noncomputable def l58_0 (d : Nat) (x1 : (Int × Int × (List (List (Int × Int × Int × Int × Int × Int))) × (List Int) × Int × Bool)) (n2 : Int) (kx58_0_0 : Bool → Option Bool) (ag3 : (Bool × Int) → Option Bool) (s : (Bool × Int)) : Option Bool := l58_0_b d x1 n2 kx58_0_0 ag3 s.1 s.2
theorem e58 (d : Nat) (x1 : (Int × Int × (List (List (Int × Int × Int × Int × Int × Int))) × (List Int) × Int × Bool)) (n2 : Int) : g58 (d + 1) x1 n2 =
 iterP (l58_0 d x1 n2 (j58_0 d)) fuelN (false, 0) := by kernel_rfl

noncomputable def j12_0 (d : Nat) (x1 : (Int × Int × (List (List (Int × Int × Int × Int × Int × Int))) × (List Int) × Int × Bool)) (x2 : (Int × Int × Int × Int × Int × Int)) (b3 : Bool) : Option ((Int × Int × (List (List (Int × Int × Int × Int × Int × Int))) × (List Int) × Int × Bool) × Bool × Bool) :=
 oif b3 (
 some ((0, 0, [], [], 0, false), false, false)) (
 obind (g59 (d + 1) x1) fun r4 =>
 obind (g90 d x2 ((r4.2.2.1.length : Nat) : Int)) fun r5 =>
 oif (decide (0 ≤ (r5 : Int))) (
 oif (Nat.blt ((r5 : Int).toNat) r4.2.2.1.length) (
 obind (r4.2.2.1[(r5 : Int).toNat]?) fun l6 =>
 oif (decide ((((l6.length : Nat) : Int) : Int) ≥ r4.2.1)) (
 some (r4, false, true)) (
 oif (decide (0 ≤ (r5 : Int))) (
 oif (Nat.blt ((r5 : Int).toNat) r4.2.2.1.length) (
 obind (r4.2.2.1[(r5 : Int).toNat]?) fun l7 =>
 oif (Nat.ble ((l7.length + [x2].length) * 48) roomMax) (
 oif (decide (0 ≤ (r5 : Int))) (
 oif (Nat.blt ((r5 : Int).toNat) r4.2.2.1.length) (
 oif (Nat.beq ((r5 : Int).toNat) ((r5 : Int).toNat)) (
 obind (r4.2.2.1[(r5 : Int).toNat]?) fun l8 =>
 some ((r4.1, r4.2.1, (r4.2.2.1.set ((r5 : Int).toNat) (l7 ++ [x2])), r4.2.2.2), true, true)) none) none) none) none) none) none)) none) none)
theorem e12 (d : Nat) (x1 : (Int × Int × (List (List (Int × Int × Int × Int × Int × Int))) × (List Int) × Int × Bool)) (x2 : (Int × Int × Int × Int × Int × Int)) : g12 (d + 2) x1 x2 =
 obind (g56 (d + 1) x1) fun r3 =>
 oif (!r3) (
 j12_0 d x1 x2 true) (
 obind (g57 (d + 1) x2) fun r4 =>
 oif (!r4) (
 j12_0 d x1 x2 true) (
 obind (g58 (d + 1) x1 x2.1) fun r5 =>
 j12_0 d x1 x2 r5)) := by kernel_rfl

noncomputable def j61_0 (d : Nat)  (b4 : Bool) : Option Bool :=
 some true
noncomputable def l61_0_b (d : Nat) (l1 : List Int) (l2 : List Int) (kx61_0_0 : Bool → Option Bool) (ag3 : (Bool × Int) → Option Bool) (b4 : Bool) (n5 : Int) : Option Bool :=
 oif (decide ((n5 : Int) < ((l1.length : Nat) : Int))) (
 oif (decide (0 ≤ (n5 : Int))) (
 obind (l1[(n5 : Int).toNat]?) fun n6 =>
 oif (decide (0 ≤ (n5 : Int))) (
 obind (l2[(n5 : Int).toNat]?) fun n7 =>
 oif ((n6 : Int) != n7) (
 some false) (
 ag3 (b4, (IntKind.i64.wrap (n5 + 1))))) none) none) (
 kx61_0_0 b4)
noncomputable def l61_0 (d : Nat) (l1 : List Int) (l2 : List Int) (kx61_0_0 : Bool → Option Bool) (ag3 : (Bool × Int) → Option Bool) (s : (Bool × Int)) : Option Bool := l61_0_b d l1 l2 kx61_0_0 ag3 s.1 s.2
theorem e61 (d : Nat) (l1 : List Int) (l2 : List Int) : g61 (d + 1) l1 l2 =
 oif ((((l1.length : Nat) : Int) : Int) != ((l2.length : Nat) : Int)) (
 some false) (
 iterP (l61_0 d l1 l2 (j61_0 d)) fuelN (false, 0)) := by kernel_rfl

noncomputable def j62_0 (d : Nat)  (b4 : Bool) : Option Bool :=
 some true
noncomputable def l62_0_b (d : Nat) (l1 : List (Int × Int × Int × Int × Int × Int)) (l2 : List (Int × Int × Int × Int × Int × Int)) (kx62_0_0 : Bool → Option Bool) (ag3 : (Bool × Int) → Option Bool) (b4 : Bool) (n5 : Int) : Option Bool :=
 oif (decide ((n5 : Int) < ((l1.length : Nat) : Int))) (
 oif (decide (0 ≤ (n5 : Int))) (
 obind (l1[(n5 : Int).toNat]?) fun x6 =>
 oif (decide (0 ≤ (n5 : Int))) (
 obind (l2[(n5 : Int).toNat]?) fun x7 =>
 oif (!(((x6.1 : Int) == x7.1) && (((x6.2.1 : Int) == x7.2.1) && (((x6.2.2.1 : Int) == x7.2.2.1) && (((x6.2.2.2.1 : Int) == x7.2.2.2.1) && (((x6.2.2.2.2.1 : Int) == x7.2.2.2.2.1) && (((x6.2.2.2.2.2 : Int) == x7.2.2.2.2.2) && true))))))) (
 some false) (
 ag3 (b4, (IntKind.i64.wrap (n5 + 1))))) none) none) (
 kx62_0_0 b4)
noncomputable def l62_0 (d : Nat) (l1 : List (Int × Int × Int × Int × Int × Int)) (l2 : List (Int × Int × Int × Int × Int × Int)) (kx62_0_0 : Bool → Option Bool) (ag3 : (Bool × Int) → Option Bool) (s : (Bool × Int)) : Option Bool := l62_0_b d l1 l2 kx62_0_0 ag3 s.1 s.2
theorem e62 (d : Nat) (l1 : List (Int × Int × Int × Int × Int × Int)) (l2 : List (Int × Int × Int × Int × Int × Int)) : g62 (d + 1) l1 l2 =
 oif ((((l1.length : Nat) : Int) : Int) != ((l2.length : Nat) : Int)) (
 some false) (
 iterP (l62_0 d l1 l2 (j62_0 d)) fuelN (false, 0)) := by kernel_rfl

noncomputable def j13_0 (d : Nat)  (b5 : Bool) : Option Bool :=
 some true
noncomputable def l13_0_b (d : Nat) (x1 : (Int × Int × (List (List (Int × Int × Int × Int × Int × Int))) × (List Int) × Int × Bool)) (x2 : (Int × Int × (List (List (Int × Int × Int × Int × Int × Int))) × (List Int) × Int × Bool)) (kx13_0_0 : Bool → Option Bool) (ag4 : (Bool × Int) → Option Bool) (b5 : Bool) (n6 : Int) : Option Bool :=
 oif (decide ((n6 : Int) < ((x1.2.2.1.length : Nat) : Int))) (
 oif (decide (0 ≤ (n6 : Int))) (
 obind (x1.2.2.1[(n6 : Int).toNat]?) fun l7 =>
 oif (decide (0 ≤ (n6 : Int))) (
 obind (x2.2.2.1[(n6 : Int).toNat]?) fun l8 =>
 obind (g62 d l7 l8) fun r9 =>
 oif (!r9) (
 some false) (
 ag4 (b5, (IntKind.i64.wrap (n6 + 1))))) none) none) (
 kx13_0_0 b5)
noncomputable def l13_0 (d : Nat) (x1 : (Int × Int × (List (List (Int × Int × Int × Int × Int × Int))) × (List Int) × Int × Bool)) (x2 : (Int × Int × (List (List (Int × Int × Int × Int × Int × Int))) × (List Int) × Int × Bool)) (kx13_0_0 : Bool → Option Bool) (ag4 : (Bool × Int) → Option Bool) (s : (Bool × Int)) : Option Bool := l13_0_b d x1 x2 kx13_0_0 ag4 s.1 s.2
noncomputable def j13_1 (d : Nat) (x1 : (Int × Int × (List (List (Int × Int × Int × Int × Int × Int))) × (List Int) × Int × Bool)) (x2 : (Int × Int × (List (List (Int × Int × Int × Int × Int × Int))) × (List Int) × Int × Bool)) (b3 : Bool) : Option Bool :=
 oif b3 (
 some false) (
 iterP (l13_0 d x1 x2 (j13_0 d)) fuelN (false, 0))
theorem e13 (d : Nat) (x1 : (Int × Int × (List (List (Int × Int × Int × Int × Int × Int))) × (List Int) × Int × Bool)) (x2 : (Int × Int × (List (List (Int × Int × Int × Int × Int × Int))) × (List Int) × Int × Bool)) : g13 (d + 1) x1 x2 =
 oif ((x1.1 : Int) != x2.1) (
 j13_1 d x1 x2 true) (
 oif ((x1.2.1 : Int) != x2.2.1) (
 j13_1 d x1 x2 true) (
 oif ((x1.2.2.2.2.1 : Int) != x2.2.2.2.2.1) (
 j13_1 d x1 x2 true) (
 oif (!(x1.2.2.2.2.2 == x2.2.2.2.2.2)) (
 j13_1 d x1 x2 true) (
 obind (g61 d x1.2.2.2.1 x2.2.2.2.1) fun r3 =>
 oif (!r3) (
 j13_1 d x1 x2 true) (
 j13_1 d x1 x2 ((((x1.2.2.1.length : Nat) : Int) : Int) != ((x2.2.2.1.length : Nat) : Int))))))) := by kernel_rfl

theorem e63 (d : Nat) (n1 : Int) : g63 (d + 1) n1 =
 oif (decide ((n1 : Int) ≥ 1)) (
 some (decide ((n1 : Int) ≤ 64))) (
 some false) := by kernel_rfl

theorem e14 (d : Nat) (x1 : (Int × Int × Int × Int × Int × Int)) (n2 : Int) : g14 (d + 1) x1 n2 =
 obind (g52 d x1) fun r3 =>
 oif (!r3) (
 some (0, false)) (
 obind (g63 d n2) fun r4 =>
 oif (!r4) (
 some (0, false)) (
 obind (g64 d x1 n2) fun r5 =>
 some (r5, true))) := by kernel_rfl

theorem e15 (d : Nat) (l1 : List Int) : g15 (d + 1) l1 =
 obind (g49 d (l1, 0, 0)) fun r2 =>
 obind (g65 d r2.2 (IntKind.i64.wrap (((r2.1.2.2.1.length : Nat) : Int) + 1))) fun r3 =>
 obind (g65 d r3.2 24) fun r4 =>
 some (r2.1, (IntKind.i64.wrap (r3.1 - (IntKind.i64.wrap (r4.1.tdiv 23))))) := by kernel_rfl

theorem e66 (d : Nat) (n1 : Int) (n2 : Int) (n3 : Int) : g66 (d + 1) n1 n2 n3 =
 oif (decide ((n1 : Int) ≥ n3)) (
 some 0) (
 oif ((n2 : Int) == 0) none (
 some (IntKind.i64.wrap ((IntKind.i64.wrap ((IntKind.i64.wrap ((IntKind.i64.wrap (n3 - n1)) + n2)) - 1)).tdiv n2)))) := by kernel_rfl

noncomputable def j67_0 (d : Nat)  (n3 : Int) : Option Int :=
 some n3
noncomputable def l67_0_b (d : Nat) (l1 : List (Int × Int × Int × Int × Int × Int)) (kx67_0_0 : Int → Option Int) (ag2 : (Int × Int) → Option Int) (n3 : Int) (n4 : Int) : Option Int :=
 oif (decide ((n4 : Int) < ((l1.length : Nat) : Int))) (
 oif (decide (0 ≤ (n4 : Int))) (
 obind (l1[(n4 : Int).toNat]?) fun x5 =>
 ag2 ((IntKind.i64.wrap (n3 + x5.2.2.2.2.2)), (IntKind.i64.wrap (n4 + 1)))) none) (
 kx67_0_0 n3)
noncomputable def l67_0 (d : Nat) (l1 : List (Int × Int × Int × Int × Int × Int)) (kx67_0_0 : Int → Option Int) (ag2 : (Int × Int) → Option Int) (s : (Int × Int)) : Option Int := l67_0_b d l1 kx67_0_0 ag2 s.1 s.2
theorem e67 (d : Nat) (l1 : List (Int × Int × Int × Int × Int × Int)) : g67 (d + 1) l1 =
 iterP (l67_0 d l1 (j67_0 d)) fuelN (0, 0) := by kernel_rfl

noncomputable def j16_0 (d : Nat) (x1 : (Int × Int × (List (List (Int × Int × Int × Int × Int × Int))) × (List Int) × Int × Bool)) (n2 : Int) (b3 : Bool) : Option (Int × Bool) :=
 oif b3 (
 some (0, false)) (
 oif (decide (0 ≤ (n2 : Int))) (
 obind (x1.2.2.2.1[(n2 : Int).toNat]?) fun n4 =>
 oif (decide (0 ≤ (n2 : Int))) (
 obind (x1.2.2.1[(n2 : Int).toNat]?) fun l5 =>
 obind (g67 d l5) fun r6 =>
 obind (g66 d n4 x1.1 r6) fun r7 =>
 some (r7, true)) none) none)
theorem e16 (d : Nat) (x1 : (Int × Int × (List (List (Int × Int × Int × Int × Int × Int))) × (List Int) × Int × Bool)) (n2 : Int) : g16 (d + 1) x1 n2 =
 obind (g51 d x1) fun r3 =>
 oif (!r3) (
 j16_0 d x1 n2 true) (
 oif (decide ((n2 : Int) < 0)) (
 j16_0 d x1 n2 true) (
 j16_0 d x1 n2 (decide ((n2 : Int) ≥ ((x1.2.2.1.length : Nat) : Int))))) := by kernel_rfl

theorem e69 (d : Nat) (n1 : Int) (n2 : Int) : g69 (d + 1) n1 n2 =
 oif (decide ((n1 : Int) > n2)) (
 some n1) (
 some n2) := by kernel_rfl

noncomputable def j70_0 (d : Nat)  (n3 : Int) : Option Int :=
 some n3
noncomputable def l70_0_b (d : Nat) (l1 : List (Int × Int × Int × Int × Int × Int)) (kx70_0_0 : Int → Option Int) (ag2 : (Int × Int) → Option Int) (n3 : Int) (n4 : Int) : Option Int :=
 oif (decide ((n4 : Int) < ((l1.length : Nat) : Int))) (
 oif (decide (0 ≤ (n4 : Int))) (
 obind (l1[(n4 : Int).toNat]?) fun x5 =>
 ag2 ((IntKind.i64.wrap (n3 + x5.2.2.2.2.2)), (IntKind.i64.wrap (n4 + 1)))) none) (
 kx70_0_0 n3)
noncomputable def l70_0 (d : Nat) (l1 : List (Int × Int × Int × Int × Int × Int)) (kx70_0_0 : Int → Option Int) (ag2 : (Int × Int) → Option Int) (s : (Int × Int)) : Option Int := l70_0_b d l1 kx70_0_0 ag2 s.1 s.2
theorem e70 (d : Nat) (l1 : List (Int × Int × Int × Int × Int × Int)) : g70 (d + 1) l1 =
 iterP (l70_0 d l1 (j70_0 d)) fuelN (0, 0) := by kernel_rfl

noncomputable def j17_0 (d : Nat) (x1 : (Int × Int × (List (List (Int × Int × Int × Int × Int × Int))) × (List Int) × Int × Bool)) (n2 : Int) (b3 : Bool) : Option (Int × Bool) :=
 oif b3 (
 some (0, false)) (
 oif (decide (0 ≤ (n2 : Int))) (
 obind (x1.2.2.1[(n2 : Int).toNat]?) fun l4 =>
 obind (g70 d l4) fun r5 =>
 oif (decide (0 ≤ (n2 : Int))) (
 obind (x1.2.2.2.1[(n2 : Int).toNat]?) fun n6 =>
 obind (g69 d 0 (IntKind.i64.wrap (r5 - n6))) fun r7 =>
 oif ((x1.1 : Int) == 0) none (
 some ((IntKind.i64.wrap ((IntKind.i64.wrap ((IntKind.i64.wrap (r7 + x1.1)) - 1)).tdiv x1.1)), true))) none) none)
theorem e17 (d : Nat) (x1 : (Int × Int × (List (List (Int × Int × Int × Int × Int × Int))) × (List Int) × Int × Bool)) (n2 : Int) : g17 (d + 1) x1 n2 =
 obind (g56 d x1) fun r3 =>
 oif (!r3) (
 j17_0 d x1 n2 true) (
 obind (g68 d n2 0 (IntKind.i64.wrap (((x1.2.2.1.length : Nat) : Int) - 1))) fun r4 =>
 j17_0 d x1 n2 (!r4)) := by kernel_rfl

noncomputable def j18_0 (d : Nat) (x1 : (Int × Int × (List (List (Int × Int × Int × Int × Int × Int))) × (List Int) × Int × Bool)) (n2 : Int) (b3 : Bool) : Option ((Int × Int × (List (List (Int × Int × Int × Int × Int × Int))) × (List Int) × Int × Bool) × Bool) :=
 oif b3 (
 some ((0, 0, [], [], 0, false), false)) (
 obind (g54 d x1) fun r4 =>
 oif (decide (0 ≤ (n2 : Int))) (
 oif (Nat.blt ((n2 : Int).toNat) r4.2.2.1.length) (
 obind (r4.2.2.1[(n2 : Int).toNat]?) fun l5 =>
 oif (decide (0 ≤ (n2 : Int))) (
 oif (Nat.blt ((n2 : Int).toNat) r4.2.2.2.1.length) (
 obind (r4.2.2.2.1[(n2 : Int).toNat]?) fun n6 =>
 oif ((n2 : Int) == r4.2.2.2.2.1) (
 some ((r4.1, r4.2.1, (r4.2.2.1.set ((n2 : Int).toNat) []), (r4.2.2.2.1.set ((n2 : Int).toNat) 0), r4.2.2.2.2.1, false), true)) (
 some ((r4.1, r4.2.1, (r4.2.2.1.set ((n2 : Int).toNat) []), (r4.2.2.2.1.set ((n2 : Int).toNat) 0), r4.2.2.2.2), true))) none) none) none) none)
theorem e18 (d : Nat) (x1 : (Int × Int × (List (List (Int × Int × Int × Int × Int × Int))) × (List Int) × Int × Bool)) (n2 : Int) : g18 (d + 1) x1 n2 =
 obind (g51 d x1) fun r3 =>
 oif (!r3) (
 j18_0 d x1 n2 true) (
 oif (decide ((n2 : Int) < 0)) (
 j18_0 d x1 n2 true) (
 j18_0 d x1 n2 (decide ((n2 : Int) ≥ ((x1.2.2.1.length : Nat) : Int))))) := by kernel_rfl

noncomputable def j19_0 (d : Nat) (x1 : (Int × Int × (List (List (Int × Int × Int × Int × Int × Int))) × (List Int) × Int × Bool)) (n2 : Int) (b3 : Bool) : Option ((Int × Int × (List (List (Int × Int × Int × Int × Int × Int))) × (List Int) × Int × Bool) × Bool) :=
 oif b3 (
 some ((0, 0, [], [], 0, false), false)) (
 obind (g59 d x1) fun r4 =>
 oif (decide (0 ≤ (n2 : Int))) (
 oif (Nat.blt ((n2 : Int).toNat) r4.2.2.1.length) (
 obind (r4.2.2.1[(n2 : Int).toNat]?) fun l5 =>
 oif (decide (0 ≤ (n2 : Int))) (
 oif (Nat.blt ((n2 : Int).toNat) r4.2.2.2.1.length) (
 obind (r4.2.2.2.1[(n2 : Int).toNat]?) fun n6 =>
 oif ((r4.2.2.2.2.1 : Int) == n2) (
 some ((r4.1, r4.2.1, (r4.2.2.1.set ((n2 : Int).toNat) []), (r4.2.2.2.1.set ((n2 : Int).toNat) 0), r4.2.2.2.2.1, false), true)) (
 some ((r4.1, r4.2.1, (r4.2.2.1.set ((n2 : Int).toNat) []), (r4.2.2.2.1.set ((n2 : Int).toNat) 0), r4.2.2.2.2), true))) none) none) none) none)
theorem e19 (d : Nat) (x1 : (Int × Int × (List (List (Int × Int × Int × Int × Int × Int))) × (List Int) × Int × Bool)) (n2 : Int) : g19 (d + 1) x1 n2 =
 obind (g56 d x1) fun r3 =>
 oif (!r3) (
 j19_0 d x1 n2 true) (
 obind (g68 d n2 0 (IntKind.i64.wrap (((x1.2.2.1.length : Nat) : Int) - 1))) fun r4 =>
 j19_0 d x1 n2 (!r4)) := by kernel_rfl

noncomputable def j20_0 (d : Nat)  (l4 : List Int) : Option ((List Int) × Bool) :=
 some (l4, true)
noncomputable def l20_0_b (d : Nat) (x1 : (Int × Int × (List (List (Int × Int × Int × Int × Int × Int))) × (List Int) × Int × Bool)) (kx20_0_0 : (List Int) → Option ((List Int) × Bool)) (ag3 : ((List Int) × Int) → Option ((List Int) × Bool)) (l4 : List Int) (n5 : Int) : Option ((List Int) × Bool) :=
 oif (decide ((n5 : Int) < ((x1.2.2.1.length : Nat) : Int))) (
 oif (decide (0 ≤ (n5 : Int))) (
 obind (x1.2.2.1[(n5 : Int).toNat]?) fun l6 =>
 obind (g67 d l6) fun r7 =>
 oif (Nat.ble ((l4.length + [r7].length) * 8) roomMax) (
 ag3 ((l4 ++ [r7]), (IntKind.i64.wrap (n5 + 1)))) none) none) (
 kx20_0_0 l4)
noncomputable def l20_0 (d : Nat) (x1 : (Int × Int × (List (List (Int × Int × Int × Int × Int × Int))) × (List Int) × Int × Bool)) (kx20_0_0 : (List Int) → Option ((List Int) × Bool)) (ag3 : ((List Int) × Int) → Option ((List Int) × Bool)) (s : ((List Int) × Int)) : Option ((List Int) × Bool) := l20_0_b d x1 kx20_0_0 ag3 s.1 s.2
theorem e20 (d : Nat) (x1 : (Int × Int × (List (List (Int × Int × Int × Int × Int × Int))) × (List Int) × Int × Bool)) : g20 (d + 1) x1 =
 obind (g51 d x1) fun r2 =>
 oif (!r2) (
 some ([], false)) (
 iterP (l20_0 d x1 (j20_0 d)) fuelN (([] : List Int), 0)) := by kernel_rfl

noncomputable def j21_0 (d : Nat)  (n3 : Int) : Option Int :=
 some n3
noncomputable def l21_0_b (d : Nat) (l1 : List Int) (kx21_0_0 : Int → Option Int) (ag2 : (Int × Int) → Option Int) (n3 : Int) (n4 : Int) : Option Int :=
 oif (decide ((n4 : Int) < ((l1.length : Nat) : Int))) (
 oif (decide (0 ≤ (n4 : Int))) (
 obind (l1[(n4 : Int).toNat]?) fun n5 =>
 ag2 ((IntKind.i64.wrap (n3 + n5)), (IntKind.i64.wrap (n4 + 1)))) none) (
 kx21_0_0 n3)
noncomputable def l21_0 (d : Nat) (l1 : List Int) (kx21_0_0 : Int → Option Int) (ag2 : (Int × Int) → Option Int) (s : (Int × Int)) : Option Int := l21_0_b d l1 kx21_0_0 ag2 s.1 s.2
theorem e21 (d : Nat) (l1 : List Int) : g21 (d + 1) l1 =
 iterP (l21_0 d l1 (j21_0 d)) fuelN (0, 0) := by kernel_rfl

theorem e22 (d : Nat) (l1 : List Int) : g22 (d + 1) l1 =
 obind (g71 d (l1, 0, 0) [0, 1, 4, 8, 9, (-1)]) fun r2 =>
 obind (g71 d r2.2 [99, 100, 500, 3000, 3001]) fun r3 =>
 obind (g71 d r3.2 [0, 1, 20, 21]) fun r4 =>
 some (r2.1, r3.1, r4.1) := by kernel_rfl

noncomputable def j23_0 (d : Nat) (n1 : Int) (n2 : Int) (n3 : Int) (b4 : Bool) : Option ((Int × Int × (List (List (Int × Int × Int × Int × Int × Int))) × (List Int) × Int × Bool) × Bool) :=
 oif b4 (
 some ((0, 0, [], [], 0, false), false)) (
 oif (decide (0 ≤ (n1 : Int))) (
 oif (decide (0 ≤ (n1 : Int))) (
 oif (Nat.ble ((n1 : Int).toNat) ((n1 : Int).toNat) && Nat.ble (((n1 : Int).toNat) * 24) roomMax) (
 oif (decide (0 ≤ (n1 : Int))) (
 oif (decide (0 ≤ (n1 : Int))) (
 oif (Nat.ble ((n1 : Int).toNat) ((n1 : Int).toNat) && Nat.ble (((n1 : Int).toNat) * 8) roomMax) (
 obind (g51 d (n2, n3, (List.replicate ((n1 : Int).toNat) ([] : List (Int × Int × Int × Int × Int × Int))), (List.replicate ((n1 : Int).toNat) (0 : Int)), 0, false)) fun r5 =>
 oif (!r5) (
 some ((0, 0, [], [], 0, false), false)) (
 some ((n2, n3, (List.replicate ((n1 : Int).toNat) ([] : List (Int × Int × Int × Int × Int × Int))), (List.replicate ((n1 : Int).toNat) (0 : Int)), 0, false), true))) none) none) none) none) none) none)
theorem e23 (d : Nat) (n1 : Int) (n2 : Int) (n3 : Int) : g23 (d + 1) n1 n2 n3 =
 oif (decide ((n1 : Int) < 1)) (
 j23_0 d n1 n2 n3 true) (
 j23_0 d n1 n2 n3 (decide ((n1 : Int) > 8))) := by kernel_rfl

theorem e24 (d : Nat) (n1 : Int) (n2 : Int) (n3 : Int) : g24 (d + 1) n1 n2 n3 =
 obind (g68 d n1 1 8) fun r4 =>
 oif (!r4) (
 some ((0, 0, [], [], 0, false), false)) (
 oif (decide (0 ≤ (n1 : Int))) (
 oif (decide (0 ≤ (n1 : Int))) (
 oif (Nat.ble ((n1 : Int).toNat) ((n1 : Int).toNat) && Nat.ble (((n1 : Int).toNat) * 24) roomMax) (
 oif (decide (0 ≤ (n1 : Int))) (
 oif (decide (0 ≤ (n1 : Int))) (
 oif (Nat.ble ((n1 : Int).toNat) ((n1 : Int).toNat) && Nat.ble (((n1 : Int).toNat) * 8) roomMax) (
 obind (g56 d (n2, n3, (List.replicate ((n1 : Int).toNat) ([] : List (Int × Int × Int × Int × Int × Int))), (List.replicate ((n1 : Int).toNat) (0 : Int)), 0, false)) fun r5 =>
 oif (!r5) (
 some ((0, 0, [], [], 0, false), false)) (
 some ((n2, n3, (List.replicate ((n1 : Int).toNat) ([] : List (Int × Int × Int × Int × Int × Int))), (List.replicate ((n1 : Int).toNat) (0 : Int)), 0, false), true))) none) none) none) none) none) none) := by kernel_rfl

theorem e72 (d : Nat) (l1 : List Int) : g72 (d + 1) l1 =
 obind (g49 d (l1, 0, 0)) fun r2 =>
 some r2.1 := by kernel_rfl

theorem e25 (d : Nat) (l1 : List Int) : g25 (d + 1) l1 =
 obind (g72 d l1) fun r2 =>
 some r2 := by kernel_rfl

theorem e113 (d : Nat) (l1 : List (Int × Int × Int × Int × Int × Int)) (n2 : Int) (n3 : Int) : g113 (d + 1) l1 n2 n3 =
 oif (decide (0 ≤ n2) && (decide (n2 < n3) && (decide (n3 ≤ (l1.length : Int)) && Nat.ble l1.length 9223372036854775807))) (some (l1.take n2.toNat ++ l1.drop n3.toNat)) none := by kernel_rfl

noncomputable def j26i74_0 (d : Nat) (ag4 : (Int × Int × (List (List (Int × Int × Int × Int × Int × Int))) × (List Int) × Int × Bool) → Option ((Int × Int × (List (List (Int × Int × Int × Int × Int × Int))) × (List Int) × Int × Bool) × (Int × Int × Int × Int × Int × Int) × Bool)) (x5 : (Int × Int × (List (List (Int × Int × Int × Int × Int × Int))) × (List Int) × Int × Bool)) (b7 : Bool) (b8 : Bool) (l9 : List Int) : Option ((Int × Int × (List (List (Int × Int × Int × Int × Int × Int))) × (List Int) × Int × Bool) × (Int × Int × Int × Int × Int × Int) × Bool) :=
 oif (decide (0 ≤ (x5.2.2.2.2.1 : Int))) (
 oif (Nat.blt ((x5.2.2.2.2.1 : Int).toNat) x5.2.2.1.length) (
 obind (x5.2.2.1[(x5.2.2.2.2.1 : Int).toNat]?) fun l10 =>
 obind (l10[0]?) fun x11 =>
 oif (decide (0 ≤ (x5.2.2.2.2.1 : Int))) (
 oif (Nat.blt ((x5.2.2.2.2.1 : Int).toNat) l9.length) (
 obind (l9[(x5.2.2.2.2.1 : Int).toNat]?) fun n12 =>
 oif (decide ((x11.2.2.2.2.2 : Int) > n12)) (
 oif ((((x5.2.2.1.length : Nat) : Int) : Int) == 0) none (
 ag4 (x5.1, x5.2.1, x5.2.2.1, l9, ((IntKind.i64.wrap (x5.2.2.2.2.1 + 1)).tmod ((x5.2.2.1.length : Nat) : Int)), false))) (
 oif (decide (0 ≤ (x5.2.2.2.2.1 : Int))) (
 oif (Nat.blt ((x5.2.2.2.2.1 : Int).toNat) x5.2.2.1.length) (
 obind (x5.2.2.1[(x5.2.2.2.2.1 : Int).toNat]?) fun l13 =>
 obind (g113 (d + 3) l13 0 1) fun r14 =>
 oif (decide (0 ≤ (x5.2.2.2.2.1 : Int))) (
 oif (Nat.blt ((x5.2.2.2.2.1 : Int).toNat) x5.2.2.1.length) (
 oif (Nat.beq ((x5.2.2.2.2.1 : Int).toNat) ((x5.2.2.2.2.1 : Int).toNat)) (
 obind (x5.2.2.1[(x5.2.2.2.2.1 : Int).toNat]?) fun l15 =>
 oif (decide (0 ≤ (x5.2.2.2.2.1 : Int))) (
 oif (Nat.blt ((x5.2.2.2.2.1 : Int).toNat) l9.length) (
 obind (l9[(x5.2.2.2.2.1 : Int).toNat]?) fun n16 =>
 oif (decide (0 ≤ (x5.2.2.2.2.1 : Int))) (
 oif (Nat.blt ((x5.2.2.2.2.1 : Int).toNat) l9.length) (
 obind (l9[(x5.2.2.2.2.1 : Int).toNat]?) fun n17 =>
 oif (decide (0 ≤ (x5.2.2.2.2.1 : Int))) (
 oif (Nat.blt ((x5.2.2.2.2.1 : Int).toNat) (x5.2.2.1.set ((x5.2.2.2.2.1 : Int).toNat) r14).length) (
 obind ((x5.2.2.1.set ((x5.2.2.2.2.1 : Int).toNat) r14)[(x5.2.2.2.2.1 : Int).toNat]?) fun l18 =>
 oif ((((l18.length : Nat) : Int) : Int) == 0) (
 oif (decide (0 ≤ (x5.2.2.2.2.1 : Int))) (
 oif (Nat.blt ((x5.2.2.2.2.1 : Int).toNat) ((l9.set ((x5.2.2.2.2.1 : Int).toNat) (IntKind.i64.wrap (n16 - x11.2.2.2.2.2))).length)) (
 obind ((l9.set ((x5.2.2.2.2.1 : Int).toNat) (IntKind.i64.wrap (n16 - x11.2.2.2.2.2)))[(x5.2.2.2.2.1 : Int).toNat]?) fun n19 =>
 oif (((((x5.2.2.1.set ((x5.2.2.2.2.1 : Int).toNat) r14).length : Nat) : Int) : Int) == 0) none (
 some ((x5.1, x5.2.1, (x5.2.2.1.set ((x5.2.2.2.2.1 : Int).toNat) r14), ((l9.set ((x5.2.2.2.2.1 : Int).toNat) (IntKind.i64.wrap (n16 - x11.2.2.2.2.2))).set ((x5.2.2.2.2.1 : Int).toNat) 0), ((IntKind.i64.wrap (x5.2.2.2.2.1 + 1)).tmod (((x5.2.2.1.set ((x5.2.2.2.2.1 : Int).toNat) r14).length : Nat) : Int)), false), x11, true))) none) none) (
 some ((x5.1, x5.2.1, (x5.2.2.1.set ((x5.2.2.2.2.1 : Int).toNat) r14), (l9.set ((x5.2.2.2.2.1 : Int).toNat) (IntKind.i64.wrap (n16 - x11.2.2.2.2.2))), x5.2.2.2.2.1, b8), x11, true))) none) none) none) none) none) none) none) none) none) none) none)) none) none) none) none
noncomputable def l26i74_0_b (d : Nat)   (ag4 : (Int × Int × (List (List (Int × Int × Int × Int × Int × Int))) × (List Int) × Int × Bool) → Option ((Int × Int × (List (List (Int × Int × Int × Int × Int × Int))) × (List Int) × Int × Bool) × (Int × Int × Int × Int × Int × Int) × Bool)) (x5 : (Int × Int × (List (List (Int × Int × Int × Int × Int × Int))) × (List Int) × Int × Bool)) : Option ((Int × Int × (List (List (Int × Int × Int × Int × Int × Int))) × (List Int) × Int × Bool) × (Int × Int × Int × Int × Int × Int) × Bool) :=
 oif (decide (0 ≤ (x5.2.2.2.2.1 : Int))) (
 oif (Nat.blt ((x5.2.2.2.2.1 : Int).toNat) x5.2.2.1.length) (
 obind (x5.2.2.1[(x5.2.2.2.2.1 : Int).toNat]?) fun l6 =>
 oif ((((l6.length : Nat) : Int) : Int) == 0) (
 oif ((((x5.2.2.1.length : Nat) : Int) : Int) == 0) none (
 ag4 (x5.1, x5.2.1, x5.2.2.1, x5.2.2.2.1, ((IntKind.i64.wrap (x5.2.2.2.2.1 + 1)).tmod ((x5.2.2.1.length : Nat) : Int)), false))) (
 oif (!x5.2.2.2.2.2) (
 oif (decide (0 ≤ (x5.2.2.2.2.1 : Int))) (
 oif (Nat.blt ((x5.2.2.2.2.1 : Int).toNat) x5.2.2.2.1.length) (
 obind (x5.2.2.2.1[(x5.2.2.2.2.1 : Int).toNat]?) fun n7 =>
 oif (decide (0 ≤ (x5.2.2.2.2.1 : Int))) (
 oif (Nat.blt ((x5.2.2.2.2.1 : Int).toNat) x5.2.2.2.1.length) (
 obind (x5.2.2.2.1[(x5.2.2.2.2.1 : Int).toNat]?) fun n8 =>
 j26i74_0 d ag4 x5 true true (x5.2.2.2.1.set ((x5.2.2.2.2.1 : Int).toNat) (IntKind.i64.wrap (n7 + x5.1)))) none) none) none) none) (
 j26i74_0 d ag4 x5 false x5.2.2.2.2.2 x5.2.2.2.1))) none) none
noncomputable def l26i74_0 (d : Nat)   (ag4 : (Int × Int × (List (List (Int × Int × Int × Int × Int × Int))) × (List Int) × Int × Bool) → Option ((Int × Int × (List (List (Int × Int × Int × Int × Int × Int))) × (List Int) × Int × Bool) × (Int × Int × Int × Int × Int × Int) × Bool)) (s : (Int × Int × (List (List (Int × Int × Int × Int × Int × Int))) × (List Int) × Int × Bool)) : Option ((Int × Int × (List (List (Int × Int × Int × Int × Int × Int))) × (List Int) × Int × Bool) × (Int × Int × Int × Int × Int × Int) × Bool) := l26i74_0_b d ag4 s
noncomputable def j26_0 (d : Nat) (x1 : (Int × Int × (List (List (Int × Int × Int × Int × Int × Int))) × (List Int) × Int × Bool)) (b2 : Bool) : Option ((Int × Int × (List (List (Int × Int × Int × Int × Int × Int))) × (List Int) × Int × Bool) × (Int × Int × Int × Int × Int × Int) × Bool) :=
 oif b2 (
 some ((0, 0, [], [], 0, false), (0, 0, 0, 0, 0, 0), false)) (
 obind (g54 (d + 4) x1) fun r3 =>
 iterP (l26i74_0 d) fuelN r3)
noncomputable def j26i73i101i117_0 (d : Nat) (x1 : (Int × Int × (List (List (Int × Int × Int × Int × Int × Int))) × (List Int) × Int × Bool)) (n4 : Int) : Option ((Int × Int × (List (List (Int × Int × Int × Int × Int × Int))) × (List Int) × Int × Bool) × (Int × Int × Int × Int × Int × Int) × Bool) :=
 j26_0 d x1 (!(decide (((-1) : Int) ≥ 0)))
noncomputable def l26i73i101i117_0_b (d : Nat) (x1 : (Int × Int × (List (List (Int × Int × Int × Int × Int × Int))) × (List Int) × Int × Bool)) (kx26i73i101i117_0_0 : Int → Option ((Int × Int × (List (List (Int × Int × Int × Int × Int × Int))) × (List Int) × Int × Bool) × (Int × Int × Int × Int × Int × Int) × Bool)) (ag3 : (Int × Int) → Option ((Int × Int × (List (List (Int × Int × Int × Int × Int × Int))) × (List Int) × Int × Bool) × (Int × Int × Int × Int × Int × Int) × Bool)) (n4 : Int) (n5 : Int) : Option ((Int × Int × (List (List (Int × Int × Int × Int × Int × Int))) × (List Int) × Int × Bool) × (Int × Int × Int × Int × Int × Int) × Bool) :=
 oif (decide ((n5 : Int) < ((x1.2.2.1.length : Nat) : Int))) (
 oif (decide (0 ≤ (n5 : Int))) (
 obind (x1.2.2.1[(n5 : Int).toNat]?) fun l6 =>
 oif (decide ((((l6.length : Nat) : Int) : Int) > 0)) (
 j26_0 d x1 (!(decide ((n5 : Int) ≥ 0)))) (
 ag3 (n4, (IntKind.i64.wrap (n5 + 1))))) none) (
 kx26i73i101i117_0_0 n4)
noncomputable def l26i73i101i117_0 (d : Nat) (x1 : (Int × Int × (List (List (Int × Int × Int × Int × Int × Int))) × (List Int) × Int × Bool)) (kx26i73i101i117_0_0 : Int → Option ((Int × Int × (List (List (Int × Int × Int × Int × Int × Int))) × (List Int) × Int × Bool) × (Int × Int × Int × Int × Int × Int) × Bool)) (ag3 : (Int × Int) → Option ((Int × Int × (List (List (Int × Int × Int × Int × Int × Int))) × (List Int) × Int × Bool) × (Int × Int × Int × Int × Int × Int) × Bool)) (s : (Int × Int)) : Option ((Int × Int × (List (List (Int × Int × Int × Int × Int × Int))) × (List Int) × Int × Bool) × (Int × Int × Int × Int × Int × Int) × Bool) := l26i73i101i117_0_b d x1 kx26i73i101i117_0_0 ag3 s.1 s.2
theorem e26 (d : Nat) (x1 : (Int × Int × (List (List (Int × Int × Int × Int × Int × Int))) × (List Int) × Int × Bool)) : g26 (d + 5) x1 =
 obind (g51 (d + 4) x1) fun r2 =>
 oif (!r2) (
 j26_0 d x1 true) (
 iterP (l26i73i101i117_0 d x1 (j26i73i101i117_0 d x1)) fuelN (0, 0)) := by kernel_rfl

noncomputable def j27i76_0 (d : Nat) (ag4 : (Int × Int × (List (List (Int × Int × Int × Int × Int × Int))) × (List Int) × Int × Bool) → Option ((Int × Int × (List (List (Int × Int × Int × Int × Int × Int))) × (List Int) × Int × Bool) × (Int × Int × Int × Int × Int × Int) × Bool)) (x5 : (Int × Int × (List (List (Int × Int × Int × Int × Int × Int))) × (List Int) × Int × Bool)) (b7 : Bool) (b8 : Bool) (l9 : List Int) : Option ((Int × Int × (List (List (Int × Int × Int × Int × Int × Int))) × (List Int) × Int × Bool) × (Int × Int × Int × Int × Int × Int) × Bool) :=
 oif (decide (0 ≤ (x5.2.2.2.2.1 : Int))) (
 oif (Nat.blt ((x5.2.2.2.2.1 : Int).toNat) x5.2.2.1.length) (
 obind (x5.2.2.1[(x5.2.2.2.2.1 : Int).toNat]?) fun l10 =>
 obind (l10[0]?) fun x11 =>
 oif (decide (0 ≤ (x5.2.2.2.2.1 : Int))) (
 oif (Nat.blt ((x5.2.2.2.2.1 : Int).toNat) l9.length) (
 obind (l9[(x5.2.2.2.2.1 : Int).toNat]?) fun n12 =>
 oif (decide ((x11.2.2.2.2.2 : Int) > n12)) (
 oif ((((x5.2.2.1.length : Nat) : Int) : Int) == 0) none (
 ag4 (x5.1, x5.2.1, x5.2.2.1, l9, ((IntKind.i64.wrap (x5.2.2.2.2.1 + 1)).tmod ((x5.2.2.1.length : Nat) : Int)), false))) (
 oif (decide (0 ≤ (x5.2.2.2.2.1 : Int))) (
 oif (Nat.blt ((x5.2.2.2.2.1 : Int).toNat) x5.2.2.1.length) (
 obind (x5.2.2.1[(x5.2.2.2.2.1 : Int).toNat]?) fun l13 =>
 oif (Nat.ble 1 l13.length) (
 oif (decide (0 ≤ (x5.2.2.2.2.1 : Int))) (
 oif (Nat.blt ((x5.2.2.2.2.1 : Int).toNat) x5.2.2.1.length) (
 oif (Nat.beq ((x5.2.2.2.2.1 : Int).toNat) ((x5.2.2.2.2.1 : Int).toNat)) (
 obind (x5.2.2.1[(x5.2.2.2.2.1 : Int).toNat]?) fun l14 =>
 oif (decide (0 ≤ (x5.2.2.2.2.1 : Int))) (
 oif (Nat.blt ((x5.2.2.2.2.1 : Int).toNat) l9.length) (
 obind (l9[(x5.2.2.2.2.1 : Int).toNat]?) fun n15 =>
 oif (decide (0 ≤ (x5.2.2.2.2.1 : Int))) (
 oif (Nat.blt ((x5.2.2.2.2.1 : Int).toNat) l9.length) (
 obind (l9[(x5.2.2.2.2.1 : Int).toNat]?) fun n16 =>
 oif (decide (0 ≤ (x5.2.2.2.2.1 : Int))) (
 oif (Nat.blt ((x5.2.2.2.2.1 : Int).toNat) (x5.2.2.1.set ((x5.2.2.2.2.1 : Int).toNat) (l13.drop 1)).length) (
 obind ((x5.2.2.1.set ((x5.2.2.2.2.1 : Int).toNat) (l13.drop 1))[(x5.2.2.2.2.1 : Int).toNat]?) fun l17 =>
 oif ((((l17.length : Nat) : Int) : Int) == 0) (
 oif (decide (0 ≤ (x5.2.2.2.2.1 : Int))) (
 oif (Nat.blt ((x5.2.2.2.2.1 : Int).toNat) ((l9.set ((x5.2.2.2.2.1 : Int).toNat) (IntKind.i64.wrap (n15 - x11.2.2.2.2.2))).length)) (
 obind ((l9.set ((x5.2.2.2.2.1 : Int).toNat) (IntKind.i64.wrap (n15 - x11.2.2.2.2.2)))[(x5.2.2.2.2.1 : Int).toNat]?) fun n18 =>
 oif (((((x5.2.2.1.set ((x5.2.2.2.2.1 : Int).toNat) (l13.drop 1)).length : Nat) : Int) : Int) == 0) none (
 obind (g59 (d + 2) (x5.1, x5.2.1, (x5.2.2.1.set ((x5.2.2.2.2.1 : Int).toNat) (l13.drop 1)), ((l9.set ((x5.2.2.2.2.1 : Int).toNat) (IntKind.i64.wrap (n15 - x11.2.2.2.2.2))).set ((x5.2.2.2.2.1 : Int).toNat) 0), ((IntKind.i64.wrap (x5.2.2.2.2.1 + 1)).tmod (((x5.2.2.1.set ((x5.2.2.2.2.1 : Int).toNat) (l13.drop 1)).length : Nat) : Int)), false)) fun r19 =>
 some (r19, x11, true))) none) none) (
 obind (g59 (d + 2) (x5.1, x5.2.1, (x5.2.2.1.set ((x5.2.2.2.2.1 : Int).toNat) (l13.drop 1)), (l9.set ((x5.2.2.2.2.1 : Int).toNat) (IntKind.i64.wrap (n15 - x11.2.2.2.2.2))), x5.2.2.2.2.1, b8)) fun r20 =>
 some (r20, x11, true))) none) none) none) none) none) none) none) none) none) none) none) none)) none) none) none) none
noncomputable def l27i76_0_b (d : Nat)   (ag4 : (Int × Int × (List (List (Int × Int × Int × Int × Int × Int))) × (List Int) × Int × Bool) → Option ((Int × Int × (List (List (Int × Int × Int × Int × Int × Int))) × (List Int) × Int × Bool) × (Int × Int × Int × Int × Int × Int) × Bool)) (x5 : (Int × Int × (List (List (Int × Int × Int × Int × Int × Int))) × (List Int) × Int × Bool)) : Option ((Int × Int × (List (List (Int × Int × Int × Int × Int × Int))) × (List Int) × Int × Bool) × (Int × Int × Int × Int × Int × Int) × Bool) :=
 oif (decide (0 ≤ (x5.2.2.2.2.1 : Int))) (
 oif (Nat.blt ((x5.2.2.2.2.1 : Int).toNat) x5.2.2.1.length) (
 obind (x5.2.2.1[(x5.2.2.2.2.1 : Int).toNat]?) fun l6 =>
 oif ((((l6.length : Nat) : Int) : Int) == 0) (
 oif ((((x5.2.2.1.length : Nat) : Int) : Int) == 0) none (
 ag4 (x5.1, x5.2.1, x5.2.2.1, x5.2.2.2.1, ((IntKind.i64.wrap (x5.2.2.2.2.1 + 1)).tmod ((x5.2.2.1.length : Nat) : Int)), false))) (
 oif (!x5.2.2.2.2.2) (
 oif (decide (0 ≤ (x5.2.2.2.2.1 : Int))) (
 oif (Nat.blt ((x5.2.2.2.2.1 : Int).toNat) x5.2.2.2.1.length) (
 obind (x5.2.2.2.1[(x5.2.2.2.2.1 : Int).toNat]?) fun n7 =>
 oif (decide (0 ≤ (x5.2.2.2.2.1 : Int))) (
 oif (Nat.blt ((x5.2.2.2.2.1 : Int).toNat) x5.2.2.2.1.length) (
 obind (x5.2.2.2.1[(x5.2.2.2.2.1 : Int).toNat]?) fun n8 =>
 j27i76_0 d ag4 x5 true true (x5.2.2.2.1.set ((x5.2.2.2.2.1 : Int).toNat) (IntKind.i64.wrap (n7 + x5.1)))) none) none) none) none) (
 j27i76_0 d ag4 x5 false x5.2.2.2.2.2 x5.2.2.2.1))) none) none
noncomputable def l27i76_0 (d : Nat)   (ag4 : (Int × Int × (List (List (Int × Int × Int × Int × Int × Int))) × (List Int) × Int × Bool) → Option ((Int × Int × (List (List (Int × Int × Int × Int × Int × Int))) × (List Int) × Int × Bool) × (Int × Int × Int × Int × Int × Int) × Bool)) (s : (Int × Int × (List (List (Int × Int × Int × Int × Int × Int))) × (List Int) × Int × Bool)) : Option ((Int × Int × (List (List (Int × Int × Int × Int × Int × Int))) × (List Int) × Int × Bool) × (Int × Int × Int × Int × Int × Int) × Bool) := l27i76_0_b d ag4 s
noncomputable def j27_0 (d : Nat) (x1 : (Int × Int × (List (List (Int × Int × Int × Int × Int × Int))) × (List Int) × Int × Bool)) (b2 : Bool) : Option ((Int × Int × (List (List (Int × Int × Int × Int × Int × Int))) × (List Int) × Int × Bool) × (Int × Int × Int × Int × Int × Int) × Bool) :=
 oif b2 (
 some ((0, 0, [], [], 0, false), (0, 0, 0, 0, 0, 0), false)) (
 obind (g59 (d + 2) x1) fun r3 =>
 iterP (l27i76_0 d) fuelN r3)
noncomputable def j27i75_0 (d : Nat) (x1 : (Int × Int × (List (List (Int × Int × Int × Int × Int × Int))) × (List Int) × Int × Bool)) (b4 : Bool) : Option ((Int × Int × (List (List (Int × Int × Int × Int × Int × Int))) × (List Int) × Int × Bool) × (Int × Int × Int × Int × Int × Int) × Bool) :=
 j27_0 d x1 true
noncomputable def l27i75_0_b (d : Nat) (x1 : (Int × Int × (List (List (Int × Int × Int × Int × Int × Int))) × (List Int) × Int × Bool)) (kx27i75_0_0 : Bool → Option ((Int × Int × (List (List (Int × Int × Int × Int × Int × Int))) × (List Int) × Int × Bool) × (Int × Int × Int × Int × Int × Int) × Bool)) (ag3 : (Bool × Int) → Option ((Int × Int × (List (List (Int × Int × Int × Int × Int × Int))) × (List Int) × Int × Bool) × (Int × Int × Int × Int × Int × Int) × Bool)) (b4 : Bool) (n5 : Int) : Option ((Int × Int × (List (List (Int × Int × Int × Int × Int × Int))) × (List Int) × Int × Bool) × (Int × Int × Int × Int × Int × Int) × Bool) :=
 oif (decide ((n5 : Int) < ((x1.2.2.1.length : Nat) : Int))) (
 oif (decide (0 ≤ (n5 : Int))) (
 obind (x1.2.2.1[(n5 : Int).toNat]?) fun l6 =>
 oif (decide ((((l6.length : Nat) : Int) : Int) > 0)) (
 j27_0 d x1 false) (
 ag3 (b4, (IntKind.i64.wrap (n5 + 1))))) none) (
 kx27i75_0_0 b4)
noncomputable def l27i75_0 (d : Nat) (x1 : (Int × Int × (List (List (Int × Int × Int × Int × Int × Int))) × (List Int) × Int × Bool)) (kx27i75_0_0 : Bool → Option ((Int × Int × (List (List (Int × Int × Int × Int × Int × Int))) × (List Int) × Int × Bool) × (Int × Int × Int × Int × Int × Int) × Bool)) (ag3 : (Bool × Int) → Option ((Int × Int × (List (List (Int × Int × Int × Int × Int × Int))) × (List Int) × Int × Bool) × (Int × Int × Int × Int × Int × Int) × Bool)) (s : (Bool × Int)) : Option ((Int × Int × (List (List (Int × Int × Int × Int × Int × Int))) × (List Int) × Int × Bool) × (Int × Int × Int × Int × Int × Int) × Bool) := l27i75_0_b d x1 kx27i75_0_0 ag3 s.1 s.2
theorem e27 (d : Nat) (x1 : (Int × Int × (List (List (Int × Int × Int × Int × Int × Int))) × (List Int) × Int × Bool)) : g27 (d + 3) x1 =
 obind (g56 (d + 2) x1) fun r2 =>
 oif (!r2) (
 j27_0 d x1 true) (
 iterP (l27i75_0 d x1 (j27i75_0 d x1)) fuelN (false, 0)) := by kernel_rfl

noncomputable def j3_0 (d : Nat) (l2 : List Int)  : Option Bool :=
 obind (g22 d l2) fun r14 =>
 obind (g23 d r14.1 r14.2.1 r14.2.2) fun r15 =>
 obind (g24 d r14.1 r14.2.1 r14.2.2) fun r16 =>
 obind (g25 d l2) fun r17 =>
 obind (g26 d r17) fun r18 =>
 obind (g27 d r17) fun r19 =>
 oif (r15.2 == r16.2) (
 obind (g13 d r15.1 r16.1) fun r20 =>
 oif r20 (
 oif (r18.2.2 == r19.2.2) (
 oif (((r18.2.1.1 : Int) == r19.2.1.1) && (((r18.2.1.2.1 : Int) == r19.2.1.2.1) && (((r18.2.1.2.2.1 : Int) == r19.2.1.2.2.1) && (((r18.2.1.2.2.2.1 : Int) == r19.2.1.2.2.2.1) && (((r18.2.1.2.2.2.2.1 : Int) == r19.2.1.2.2.2.2.1) && (((r18.2.1.2.2.2.2.2 : Int) == r19.2.1.2.2.2.2.2) && true)))))) (
 obind (g13 d r18.1 r19.1) fun r21 =>
 some r21) (
 some false)) (
 some false)) (
 some false)) (
 some false)
noncomputable def j3_1 (d : Nat) (l2 : List Int) (r8 : ((Int × Int × (List (List (Int × Int × Int × Int × Int × Int))) × (List Int) × Int × Bool) × Int)) (r10 : (Int × Bool)) (r14 : ((List Int) × Bool)) (b16 : Bool) : Option Bool :=
 oif b16 (
 some false) (
 oif (decide (0 ≤ (r8.2 : Int))) (
 oif (Nat.blt ((r8.2 : Int).toNat) r8.1.2.2.2.1.length) (
 obind (r8.1.2.2.2.1[(r8.2 : Int).toNat]?) fun n17 =>
 oif (decide (0 ≤ (r8.2 : Int))) (
 oif (Nat.blt ((r8.2 : Int).toNat) r14.1.length) (
 obind (r14.1[(r8.2 : Int).toNat]?) fun n18 =>
 oif (decide (((IntKind.i64.wrap (n17 + (IntKind.i64.wrap (r10.1 * r8.1.1)))) : Int) < n18)) (
 some false) (
 oif (decide ((r10.1 : Int) > 0)) (
 oif (decide (0 ≤ (r8.2 : Int))) (
 oif (Nat.blt ((r8.2 : Int).toNat) r8.1.2.2.2.1.length) (
 obind (r8.1.2.2.2.1[(r8.2 : Int).toNat]?) fun n19 =>
 oif (decide (0 ≤ (r8.2 : Int))) (
 oif (Nat.blt ((r8.2 : Int).toNat) r14.1.length) (
 obind (r14.1[(r8.2 : Int).toNat]?) fun n20 =>
 oif (decide (((IntKind.i64.wrap (n19 + (IntKind.i64.wrap ((IntKind.i64.wrap (r10.1 - 1)) * r8.1.1)))) : Int) ≥ n20)) (
 some false) (
 j3_0 d l2)) none) none) none) none) (
 j3_0 d l2))) none) none) none) none)
noncomputable def j3_2 (d : Nat) (l2 : List Int) (r8 : ((Int × Int × (List (List (Int × Int × Int × Int × Int × Int))) × (List Int) × Int × Bool) × Int)) (r9 : (Int × Bool)) (r10 : (Int × Bool)) (r11 : ((Int × Int × (List (List (Int × Int × Int × Int × Int × Int))) × (List Int) × Int × Bool) × Bool)) (b13 : Bool) : Option Bool :=
 oif b13 (
 some false) (
 oif r9.2 (
 obind (g20 d r8.1) fun r14 =>
 obind (g20 d r11.1) fun r15 =>
 oif (!r14.2) (
 j3_1 d l2 r8 r10 r14 true) (
 oif (!r15.2) (
 j3_1 d l2 r8 r10 r14 true) (
 oif ((((r14.1.length : Nat) : Int) : Int) != ((r8.1.2.2.1.length : Nat) : Int)) (
 j3_1 d l2 r8 r10 r14 true) (
 oif ((((r15.1.length : Nat) : Int) : Int) != ((r14.1.length : Nat) : Int)) (
 j3_1 d l2 r8 r10 r14 true) (
 oif (decide (0 ≤ (r8.2 : Int))) (
 oif (Nat.blt ((r8.2 : Int).toNat) r15.1.length) (
 obind (r15.1[(r8.2 : Int).toNat]?) fun n16 =>
 oif ((n16 : Int) != 0) (
 j3_1 d l2 r8 r10 r14 true) (
 obind (g21 d r15.1) fun r17 =>
 obind (g21 d r14.1) fun r18 =>
 oif (decide (0 ≤ (r8.2 : Int))) (
 oif (Nat.blt ((r8.2 : Int).toNat) r14.1.length) (
 obind (r14.1[(r8.2 : Int).toNat]?) fun n19 =>
 j3_1 d l2 r8 r10 r14 ((r17 : Int) != (IntKind.i64.wrap (r18 - n19)))) none) none)) none) none))))) (
 j3_0 d l2))
noncomputable def j3_3 (d : Nat) (l2 : List Int)  : Option Bool :=
 obind (g15 d l2) fun r8 =>
 obind (g16 d r8.1 r8.2) fun r9 =>
 obind (g17 d r8.1 r8.2) fun r10 =>
 obind (g18 d r8.1 r8.2) fun r11 =>
 obind (g19 d r8.1 r8.2) fun r12 =>
 oif (!(r9.2 == r10.2)) (
 j3_2 d l2 r8 r9 r10 r11 true) (
 oif ((r9.1 : Int) != r10.1) (
 j3_2 d l2 r8 r9 r10 r11 true) (
 oif (!(r11.2 == r12.2)) (
 j3_2 d l2 r8 r9 r10 r11 true) (
 obind (g13 d r11.1 r12.1) fun r13 =>
 j3_2 d l2 r8 r9 r10 r11 (!r13))))
noncomputable def j3_4 (d : Nat) (l2 : List Int) (r4 : ((Int × Int × (List (List (Int × Int × Int × Int × Int × Int))) × (List Int) × Int × Bool) × (Int × Int × Int × Int × Int × Int))) (r5 : ((Int × Int × (List (List (Int × Int × Int × Int × Int × Int))) × (List Int) × Int × Bool) × Bool × Bool)) (r6 : ((Int × Int × (List (List (Int × Int × Int × Int × Int × Int))) × (List Int) × Int × Bool) × Bool × Bool)) (r8 : (Int × Bool)) (b9 : Bool) : Option Bool :=
 oif b9 (
 some false) (
 oif r5.2.1 (
 oif (decide (0 ≤ (r8.1 : Int))) (
 oif (Nat.blt ((r8.1 : Int).toNat) r6.1.2.2.1.length) (
 obind (r6.1.2.2.1[(r8.1 : Int).toNat]?) fun l10 =>
 oif (decide (0 ≤ (r8.1 : Int))) (
 oif (Nat.blt ((r8.1 : Int).toNat) r4.1.2.2.1.length) (
 obind (r4.1.2.2.1[(r8.1 : Int).toNat]?) fun l11 =>
 oif ((((l10.length : Nat) : Int) : Int) != (IntKind.i64.wrap (((l11.length : Nat) : Int) + 1))) (
 some false) (
 oif (decide (0 ≤ (r8.1 : Int))) (
 oif (Nat.blt ((r8.1 : Int).toNat) r6.1.2.2.1.length) (
 obind (r6.1.2.2.1[(r8.1 : Int).toNat]?) fun l12 =>
 oif (decide (0 ≤ (r8.1 : Int))) (
 oif (Nat.blt ((r8.1 : Int).toNat) r4.1.2.2.1.length) (
 obind (r4.1.2.2.1[(r8.1 : Int).toNat]?) fun l13 =>
 oif (decide (0 ≤ (((l13.length : Nat) : Int) : Int))) (
 obind (l12[(((l13.length : Nat) : Int) : Int).toNat]?) fun x14 =>
 oif (!(((x14.1 : Int) == r4.2.1) && (((x14.2.1 : Int) == r4.2.2.1) && (((x14.2.2.1 : Int) == r4.2.2.2.1) && (((x14.2.2.2.1 : Int) == r4.2.2.2.2.1) && (((x14.2.2.2.2.1 : Int) == r4.2.2.2.2.2.1) && (((x14.2.2.2.2.2 : Int) == r4.2.2.2.2.2.2) && true))))))) (
 some false) (
 oif (!r5.2.1) (
 oif (decide (0 ≤ (r8.1 : Int))) (
 oif (Nat.blt ((r8.1 : Int).toNat) r4.1.2.2.1.length) (
 obind (r4.1.2.2.1[(r8.1 : Int).toNat]?) fun l15 =>
 oif ((((l15.length : Nat) : Int) : Int) != r4.1.2.1) (
 some false) (
 obind (g13 d r6.1 r4.1) fun r16 =>
 oif (!r16) (
 some false) (
 j3_3 d l2))) none) none) (
 j3_3 d l2))) none) none) none) none) none)) none) none) none) none) (
 oif (!r5.2.1) (
 oif (decide (0 ≤ (r8.1 : Int))) (
 oif (Nat.blt ((r8.1 : Int).toNat) r4.1.2.2.1.length) (
 obind (r4.1.2.2.1[(r8.1 : Int).toNat]?) fun l17 =>
 oif ((((l17.length : Nat) : Int) : Int) != r4.1.2.1) (
 some false) (
 obind (g13 d r6.1 r4.1) fun r18 =>
 oif (!r18) (
 some false) (
 j3_3 d l2))) none) none) (
 j3_3 d l2)))
noncomputable def j3_5 (d : Nat) (l2 : List Int) (r4 : ((Int × Int × (List (List (Int × Int × Int × Int × Int × Int))) × (List Int) × Int × Bool) × (Int × Int × Int × Int × Int × Int))) (r5 : ((Int × Int × (List (List (Int × Int × Int × Int × Int × Int))) × (List Int) × Int × Bool) × Bool × Bool)) (r6 : ((Int × Int × (List (List (Int × Int × Int × Int × Int × Int))) × (List Int) × Int × Bool) × Bool × Bool)) (b7 : Bool) : Option Bool :=
 oif b7 (
 some false) (
 oif r5.2.2 (
 obind (g14 d r4.2 ((r4.1.2.2.1.length : Nat) : Int)) fun r8 =>
 oif (!r8.2) (
 j3_4 d l2 r4 r5 r6 r8 true) (
 oif (decide ((r8.1 : Int) < 0)) (
 j3_4 d l2 r4 r5 r6 r8 true) (
 j3_4 d l2 r4 r5 r6 r8 (decide ((r8.1 : Int) ≥ ((r4.1.2.2.1.length : Nat) : Int)))))) (
 j3_3 d l2))
theorem e3 (d : Nat) (l1 : List Int) (l2 : List Int) : g3 (d + 1) l1 l2 =
 obind (g9 d l1 l2) fun r3 =>
 oif r3 (
 some true) (
 obind (g10 d l1) fun r4 =>
 obind (g11 d r4.1 r4.2) fun r5 =>
 obind (g12 d r4.1 r4.2) fun r6 =>
 oif (!(r5.2.2 == r6.2.2)) (
 j3_5 d l2 r4 r5 r6 true) (
 oif (!(r5.2.1 == r6.2.1)) (
 j3_5 d l2 r4 r5 r6 true) (
 obind (g13 d r5.1 r6.1) fun r7 =>
 j3_5 d l2 r4 r5 r6 (!r7)))) := by kernel_rfl

end Go.Proofs.Ytdogommoghjncaa
