/-
  The residual forms of the program's functions under the interpreter by value, printed by program (wip/pv/gen2.py); each equation is checked by the kernel.
  Conditions: none.
-/
import Derived.Test.YtdogommoghjncaaVDef
import Derived.Test.YtdogommoghjncaaProg
import Derived.Test.YtdogommoghjncaaDelW
import Derived.KernelRfl
set_option linter.all false
set_option maxRecDepth 1000000
namespace Go.Proofs.Ytdogommoghjncaa
open Go.Ev Go.Pv

theorem fuel_is : ∃ n : Nat, n = 4194304 := ⟨_, rfl⟩
noncomputable def fuelN : Nat := Classical.choose fuel_is
theorem fuelN_eq : fuelN = 4194304 := Classical.choose_spec fuel_is
def pvSig : FuncId → Sig
  | 4 => ⟨[(.ro, (.pair (.int .i64) (.pair (.int .i64) (.pair (.sl (.sl (.pair (.int .i64) (.pair (.int .i64) (.pair (.int .i64) (.pair (.int .i64) (.pair (.int .i64) (.int .i64)))))))) (.pair (.sl (.int .i64)) (.pair (.int .i64) .bool))))))], [(false, .bool)]⟩
  | 26 => ⟨[(.ro, (.pair (.int .i64) (.pair (.int .i64) (.pair (.sl (.sl (.pair (.int .i64) (.pair (.int .i64) (.pair (.int .i64) (.pair (.int .i64) (.pair (.int .i64) (.int .i64)))))))) (.pair (.sl (.int .i64)) (.pair (.int .i64) .bool))))))], [(false, (.pair (.int .i64) (.pair (.int .i64) (.pair (.os (.os (.pair (.int .i64) (.pair (.int .i64) (.pair (.int .i64) (.pair (.int .i64) (.pair (.int .i64) (.int .i64)))))))) (.pair (.os (.int .i64)) (.pair (.int .i64) .bool)))))), (false, (.pair (.int .i64) (.pair (.int .i64) (.pair (.int .i64) (.pair (.int .i64) (.pair (.int .i64) (.int .i64))))))), (false, .bool)]⟩
  | 27 => ⟨[(.ro, (.pair (.int .i64) (.pair (.int .i64) (.pair (.sl (.sl (.pair (.int .i64) (.pair (.int .i64) (.pair (.int .i64) (.pair (.int .i64) (.pair (.int .i64) (.int .i64)))))))) (.pair (.sl (.int .i64)) (.pair (.int .i64) .bool))))))], [(false, (.pair (.int .i64) (.pair (.int .i64) (.pair (.os (.os (.pair (.int .i64) (.pair (.int .i64) (.pair (.int .i64) (.pair (.int .i64) (.pair (.int .i64) (.int .i64)))))))) (.pair (.os (.int .i64)) (.pair (.int .i64) .bool)))))), (false, (.pair (.int .i64) (.pair (.int .i64) (.pair (.int .i64) (.pair (.int .i64) (.pair (.int .i64) (.int .i64))))))), (false, .bool)]⟩
  | 28 => ⟨[(.ro, (.pair (.int .i64) (.pair (.int .i64) (.pair (.sl (.sl (.pair (.int .i64) (.pair (.int .i64) (.pair (.int .i64) (.pair (.int .i64) (.pair (.int .i64) (.int .i64)))))))) (.pair (.sl (.int .i64)) (.pair (.int .i64) .bool)))))), (.ro, (.int .i64))], [(false, (.int .i64))]⟩
  | 29 => ⟨[(.ro, (.pair (.int .i64) (.pair (.int .i64) (.pair (.sl (.sl (.pair (.int .i64) (.pair (.int .i64) (.pair (.int .i64) (.pair (.int .i64) (.pair (.int .i64) (.int .i64)))))))) (.pair (.sl (.int .i64)) (.pair (.int .i64) .bool))))))], [(false, (.pair (.int .i64) (.pair (.int .i64) (.pair (.os (.os (.pair (.int .i64) (.pair (.int .i64) (.pair (.int .i64) (.pair (.int .i64) (.pair (.int .i64) (.int .i64)))))))) (.pair (.os (.int .i64)) (.pair (.int .i64) .bool))))))]⟩
  | 30 => ⟨[(.ro, (.pair (.int .i64) (.pair (.int .i64) (.pair (.sl (.sl (.pair (.int .i64) (.pair (.int .i64) (.pair (.int .i64) (.pair (.int .i64) (.pair (.int .i64) (.int .i64)))))))) (.pair (.sl (.int .i64)) (.pair (.int .i64) .bool)))))), (.ro, (.pair (.int .i64) (.pair (.int .i64) (.pair (.sl (.sl (.pair (.int .i64) (.pair (.int .i64) (.pair (.int .i64) (.pair (.int .i64) (.pair (.int .i64) (.int .i64)))))))) (.pair (.sl (.int .i64)) (.pair (.int .i64) .bool))))))], [(false, .bool)]⟩
  | 31 => ⟨[(.ro, (.pair (.int .i64) (.pair (.int .i64) (.pair (.int .i64) (.pair (.int .i64) (.pair (.int .i64) (.int .i64))))))), (.ro, (.pair (.int .i64) (.pair (.int .i64) (.pair (.int .i64) (.pair (.int .i64) (.pair (.int .i64) (.int .i64)))))))], [(false, .bool)]⟩
  | 33 => ⟨[(.ro, (.pair (.int .i64) (.pair (.int .i64) (.pair (.sl (.sl (.pair (.int .i64) (.pair (.int .i64) (.pair (.int .i64) (.pair (.int .i64) (.pair (.int .i64) (.int .i64)))))))) (.pair (.sl (.int .i64)) (.pair (.int .i64) .bool)))))), (.ro, (.int .i64))], [(false, (.int .i64))]⟩
  | 36 => ⟨[(.ro, (.sl (.int .i64))), (.ro, (.sl (.int .i64)))], [(false, .bool)]⟩
  | 37 => ⟨[(.io, (.sl (.int .i64))), (.ro, (.int .i64))], [(false, (.int .i64))]⟩
  | 38 => ⟨[(.ro, (.sl (.int .i64))), (.ro, (.int .i64))], [(false, (.int .i64))]⟩
  | 41 => ⟨[(.ro, (.sl (.pair (.int .i64) (.pair (.int .i64) (.pair (.int .i64) (.pair (.int .i64) (.pair (.int .i64) (.int .i64)))))))), (.ro, (.int .i64))], [(false, (.int .i64))]⟩
  | 43 => ⟨[(.ro, (.sl (.pair (.int .i64) (.pair (.int .i64) (.pair (.int .i64) (.pair (.int .i64) (.pair (.int .i64) (.int .i64))))))))], [(true, (.sl (.pair (.int .i64) (.pair (.int .i64) (.pair (.int .i64) (.pair (.int .i64) (.pair (.int .i64) (.int .i64))))))))]⟩
  | 45 => ⟨[(.ro, (.sl (.pair (.int .i64) (.pair (.int .i64) (.pair (.int .i64) (.pair (.int .i64) (.pair (.int .i64) (.int .i64)))))))), (.ro, (.sl (.pair (.int .i64) (.pair (.int .i64) (.pair (.int .i64) (.pair (.int .i64) (.pair (.int .i64) (.int .i64))))))))], [(false, .bool)]⟩
  | 46 => ⟨[(.io, (.sl (.pair (.int .i64) (.pair (.int .i64) (.pair (.int .i64) (.pair (.int .i64) (.pair (.int .i64) (.int .i64)))))))), (.ro, (.int .i64))], [(false, (.int .i64))]⟩
  | 51 => ⟨[(.ro, (.pair (.int .i64) (.pair (.int .i64) (.pair (.sl (.sl (.pair (.int .i64) (.pair (.int .i64) (.pair (.int .i64) (.pair (.int .i64) (.pair (.int .i64) (.int .i64)))))))) (.pair (.sl (.int .i64)) (.pair (.int .i64) .bool))))))], [(false, .bool)]⟩
  | 52 => ⟨[(.ro, (.pair (.int .i64) (.pair (.int .i64) (.pair (.int .i64) (.pair (.int .i64) (.pair (.int .i64) (.int .i64)))))))], [(false, .bool)]⟩
  | 54 => ⟨[(.ro, (.pair (.int .i64) (.pair (.int .i64) (.pair (.sl (.sl (.pair (.int .i64) (.pair (.int .i64) (.pair (.int .i64) (.pair (.int .i64) (.pair (.int .i64) (.int .i64)))))))) (.pair (.sl (.int .i64)) (.pair (.int .i64) .bool))))))], [(false, (.pair (.int .i64) (.pair (.int .i64) (.pair (.os (.os (.pair (.int .i64) (.pair (.int .i64) (.pair (.int .i64) (.pair (.int .i64) (.pair (.int .i64) (.int .i64)))))))) (.pair (.os (.int .i64)) (.pair (.int .i64) .bool))))))]⟩
  | 56 => ⟨[(.ro, (.pair (.int .i64) (.pair (.int .i64) (.pair (.sl (.sl (.pair (.int .i64) (.pair (.int .i64) (.pair (.int .i64) (.pair (.int .i64) (.pair (.int .i64) (.int .i64)))))))) (.pair (.sl (.int .i64)) (.pair (.int .i64) .bool))))))], [(false, .bool)]⟩
  | 57 => ⟨[(.ro, (.pair (.int .i64) (.pair (.int .i64) (.pair (.int .i64) (.pair (.int .i64) (.pair (.int .i64) (.int .i64)))))))], [(false, .bool)]⟩
  | 59 => ⟨[(.ro, (.pair (.int .i64) (.pair (.int .i64) (.pair (.sl (.sl (.pair (.int .i64) (.pair (.int .i64) (.pair (.int .i64) (.pair (.int .i64) (.pair (.int .i64) (.int .i64)))))))) (.pair (.sl (.int .i64)) (.pair (.int .i64) .bool))))))], [(false, (.pair (.int .i64) (.pair (.int .i64) (.pair (.os (.os (.pair (.int .i64) (.pair (.int .i64) (.pair (.int .i64) (.pair (.int .i64) (.pair (.int .i64) (.int .i64)))))))) (.pair (.os (.int .i64)) (.pair (.int .i64) .bool))))))]⟩
  | 64 => ⟨[(.ro, (.pair (.int .i64) (.pair (.int .i64) (.pair (.int .i64) (.pair (.int .i64) (.pair (.int .i64) (.int .i64))))))), (.ro, (.int .i64))], [(false, (.int .i64))]⟩
  | 68 => ⟨[(.ro, (.int .i64)), (.ro, (.int .i64)), (.ro, (.int .i64))], [(false, .bool)]⟩
  | 77 => ⟨[(.ro, (.sl (.sl (.pair (.int .i64) (.pair (.int .i64) (.pair (.int .i64) (.pair (.int .i64) (.pair (.int .i64) (.int .i64))))))))), (.ro, (.int .i64))], [(false, (.int .i64))]⟩
  | 78 => ⟨[(.ro, (.sl (.int .i64))), (.ro, (.int .i64))], [(false, (.int .i64))]⟩
  | 79 => ⟨[(.ro, (.sl (.sl (.pair (.int .i64) (.pair (.int .i64) (.pair (.int .i64) (.pair (.int .i64) (.pair (.int .i64) (.int .i64)))))))))], [(true, (.sl (.os (.pair (.int .i64) (.pair (.int .i64) (.pair (.int .i64) (.pair (.int .i64) (.pair (.int .i64) (.int .i64)))))))))]⟩
  | 80 => ⟨[(.ro, (.sl (.int .i64)))], [(true, (.sl (.int .i64)))]⟩
  | 81 => ⟨[(.ro, (.sl (.sl (.pair (.int .i64) (.pair (.int .i64) (.pair (.int .i64) (.pair (.int .i64) (.pair (.int .i64) (.int .i64))))))))), (.ro, (.sl (.sl (.pair (.int .i64) (.pair (.int .i64) (.pair (.int .i64) (.pair (.int .i64) (.pair (.int .i64) (.int .i64)))))))))], [(false, .bool)]⟩
  | 83 => ⟨[(.ro, (.sl (.sl (.pair (.int .i64) (.pair (.int .i64) (.pair (.int .i64) (.pair (.int .i64) (.pair (.int .i64) (.int .i64))))))))), (.ro, (.int .i64))], [(false, (.int .i64))]⟩
  | 90 => ⟨[(.ro, (.pair (.int .i64) (.pair (.int .i64) (.pair (.int .i64) (.pair (.int .i64) (.pair (.int .i64) (.int .i64))))))), (.ro, (.int .i64))], [(false, (.int .i64))]⟩
  | 92 => ⟨[(.ro, (.pair (.int .i64) (.pair (.int .i64) (.pair (.int .i64) (.pair (.int .i64) (.pair (.int .i64) (.int .i64)))))))], [(false, (.pair (.int .i64) (.pair (.int .i64) (.pair (.int .i64) (.pair (.int .i64) (.pair (.int .i64) (.int .i64)))))))]⟩
  | 93 => ⟨[(.ro, (.sl (.pair (.int .i64) (.pair (.int .i64) (.pair (.int .i64) (.pair (.int .i64) (.pair (.int .i64) (.int .i64))))))))], [(false, .bool)]⟩
  | 94 => ⟨[(.ro, (.sl (.sl (.pair (.int .i64) (.pair (.int .i64) (.pair (.int .i64) (.pair (.int .i64) (.pair (.int .i64) (.int .i64)))))))))], [(true, (.sl (.pair (.int .i64) (.pair (.int .i64) (.pair (.int .i64) (.pair (.int .i64) (.pair (.int .i64) (.int .i64))))))))]⟩
  | 99 => ⟨[(.ro, (.pair (.int .i64) (.pair (.int .i64) (.pair (.sl (.sl (.pair (.int .i64) (.pair (.int .i64) (.pair (.int .i64) (.pair (.int .i64) (.pair (.int .i64) (.int .i64)))))))) (.pair (.sl (.int .i64)) (.pair (.int .i64) .bool)))))), (.ro, (.int .i64))], [(false, .bool)]⟩
  | 100 => ⟨[(.ro, (.pair (.int .i64) (.pair (.int .i64) (.pair (.int .i64) (.pair (.int .i64) (.pair (.int .i64) (.int .i64)))))))], [(false, (.pair (.int .i64) (.pair (.int .i64) (.pair (.int .i64) (.int .i64)))))]⟩
  | 103 => ⟨[(.ro, (.sl (.pair (.int .i64) (.pair (.int .i64) (.pair (.int .i64) (.pair (.int .i64) (.pair (.int .i64) (.int .i64)))))))), (.ro, (.int .i64))], [(false, .bool)]⟩
  | 104 => ⟨[(.ro, (.sl (.sl (.pair (.int .i64) (.pair (.int .i64) (.pair (.int .i64) (.pair (.int .i64) (.pair (.int .i64) (.int .i64)))))))))], [(true, (.sl (.os (.pair (.int .i64) (.pair (.int .i64) (.pair (.int .i64) (.pair (.int .i64) (.pair (.int .i64) (.int .i64)))))))))]⟩
  | 105 => ⟨[(.ro, (.sl (.int .i64)))], [(true, (.sl (.int .i64)))]⟩
  | 106 => ⟨[(.ro, (.sl (.int .i64))), (.ro, (.int .i64)), (.ro, (.int .i64))], [(false, .bool)]⟩
  | 107 => ⟨[(.ro, (.sl (.int .i64))), (.ro, (.int .i64))], [(false, .bool)]⟩
  | 108 => ⟨[(.ro, (.int .i64))], [(false, .bool)]⟩
  | 109 => ⟨[(.ro, (.sl (.int .i64)))], [(true, (.sl (.int .i64)))]⟩
  | 113 => ⟨[(.mv, (.sl (.pair (.int .i64) (.pair (.int .i64) (.pair (.int .i64) (.pair (.int .i64) (.pair (.int .i64) (.int .i64)))))))), (.ro, (.int .i64)), (.ro, (.int .i64))], [(true, (.sl (.pair (.int .i64) (.pair (.int .i64) (.pair (.int .i64) (.pair (.int .i64) (.pair (.int .i64) (.int .i64))))))))]⟩
  | 115 => ⟨[(.ro, (.sl (.pair (.int .i64) (.pair (.int .i64) (.pair (.int .i64) (.pair (.int .i64) (.pair (.int .i64) (.int .i64)))))))), (.ro, (.int .i64))], [(false, (.int .i64))]⟩
  | 120 => ⟨[(.ro, (.sl (.pair (.int .i64) (.pair (.int .i64) (.pair (.int .i64) (.pair (.int .i64) (.pair (.int .i64) (.int .i64))))))))], [(true, (.sl (.pair (.int .i64) (.pair (.int .i64) (.pair (.int .i64) (.pair (.int .i64) (.pair (.int .i64) (.int .i64))))))))]⟩
  | _ => ⟨[], []⟩
def pvLoops : FuncId → Nat → LoopA
  | 36, 0 => ⟨[(4, false, .bool), (5, false, (.int .i64))], [], [], []⟩
  | 37, 0 => ⟨[(1, false, (.int .i64)), (5, false, (.int .i64))], [], [(0, (.int .i64))], []⟩
  | 38, 0 => ⟨[(1, false, (.int .i64)), (4, false, (.int .i64)), (5, false, (.int .i64))], [], [], []⟩
  | 43, 0 => ⟨[(4, false, (.int .i64))], [], [(3, (.pair (.int .i64) (.pair (.int .i64) (.pair (.int .i64) (.pair (.int .i64) (.pair (.int .i64) (.int .i64)))))))], []⟩
  | 45, 0 => ⟨[(4, false, .bool), (5, false, (.int .i64))], [], [], []⟩
  | 46, 0 => ⟨[(1, false, (.int .i64)), (5, false, (.int .i64))], [], [(0, (.pair (.int .i64) (.pair (.int .i64) (.pair (.int .i64) (.pair (.int .i64) (.pair (.int .i64) (.int .i64)))))))], []⟩
  | 51, 0 => ⟨[(2, false, .bool), (55, false, (.int .i64))], [], [], []⟩
  | 52, 0 => ⟨[(2, false, .bool), (7, false, (.int .i64))], [], [], []⟩
  | 56, 0 => ⟨[(2, false, .bool), (4, true, (.sl (.int .i64))), (54, false, (.int .i64))], [], [], []⟩
  | 56, 1 => ⟨[(2, false, .bool), (4, true, (.sl (.int .i64))), (79, false, (.int .i64))], [], [], []⟩
  | 59, 0 => ⟨[(21, false, (.int .i64))], [(3, (.pair (.int .i64) (.pair (.int .i64) (.pair (.os (.os (.pair (.int .i64) (.pair (.int .i64) (.pair (.int .i64) (.pair (.int .i64) (.pair (.int .i64) (.int .i64)))))))) (.pair (.os (.int .i64)) (.pair (.int .i64) .bool))))))], [], []⟩
  | 64, 0 => ⟨[(5, false, (.int .i64)), (15, false, (.int .i64))], [], [], []⟩
  | 74, 0 => ⟨[], [(0, (.pair (.int .i64) (.pair (.int .i64) (.pair (.os (.os (.pair (.int .i64) (.pair (.int .i64) (.pair (.int .i64) (.pair (.int .i64) (.pair (.int .i64) (.int .i64)))))))) (.pair (.os (.int .i64)) (.pair (.int .i64) .bool))))))], [], []⟩
  | 75, 0 => ⟨[(2, false, .bool), (10, false, (.int .i64))], [], [], []⟩
  | 76, 0 => ⟨[], [(0, (.pair (.int .i64) (.pair (.int .i64) (.pair (.os (.os (.pair (.int .i64) (.pair (.int .i64) (.pair (.int .i64) (.pair (.int .i64) (.pair (.int .i64) (.int .i64)))))))) (.pair (.os (.int .i64)) (.pair (.int .i64) .bool))))))], [], []⟩
  | 77, 0 => ⟨[(1, false, (.int .i64)), (4, false, (.int .i64)), (5, false, (.int .i64))], [], [], []⟩
  | 79, 0 => ⟨[(4, false, (.int .i64))], [], [(3, (.os (.pair (.int .i64) (.pair (.int .i64) (.pair (.int .i64) (.pair (.int .i64) (.pair (.int .i64) (.int .i64))))))))], []⟩
  | 80, 0 => ⟨[(4, false, (.int .i64))], [], [(3, (.int .i64))], []⟩
  | 81, 0 => ⟨[(4, false, .bool), (5, false, (.int .i64))], [], [], []⟩
  | 82, 0 => ⟨[(1, false, (.int .i64)), (5, false, (.int .i64))], [], [(0, (.os (.pair (.int .i64) (.pair (.int .i64) (.pair (.int .i64) (.pair (.int .i64) (.pair (.int .i64) (.int .i64))))))))], []⟩
  | 83, 0 => ⟨[(1, false, (.int .i64)), (4, false, (.int .i64)), (5, false, (.int .i64))], [], [], []⟩
  | 90, 0 => ⟨[(5, false, (.int .i64)), (16, false, (.int .i64))], [], [], []⟩
  | 93, 0 => ⟨[(2, false, .bool), (7, false, (.int .i64))], [], [], []⟩
  | 94, 0 => ⟨[(3, false, (.int .i64)), (11, false, (.int .i64))], [], [], []⟩
  | 94, 1 => ⟨[(6, true, (.sl (.pair (.int .i64) (.pair (.int .i64) (.pair (.int .i64) (.pair (.int .i64) (.pair (.int .i64) (.int .i64)))))))), (27, false, (.int .i64))], [], [], []⟩
  | 99, 0 => ⟨[(4, false, .bool), (37, false, (.int .i64))], [], [], []⟩
  | 104, 0 => ⟨[(10, false, (.int .i64))], [], [(3, (.os (.pair (.int .i64) (.pair (.int .i64) (.pair (.int .i64) (.pair (.int .i64) (.pair (.int .i64) (.int .i64))))))))], []⟩
  | 106, 0 => ⟨[(6, false, .bool), (11, false, (.int .i64))], [], [], []⟩
  | 107, 0 => ⟨[(4, false, .bool), (9, false, (.int .i64))], [], [], []⟩
  | 115, 0 => ⟨[(1, false, (.int .i64)), (4, false, (.int .i64)), (5, false, (.int .i64))], [], [], []⟩
  | 117, 0 => ⟨[(4, false, (.int .i64)), (8, false, (.int .i64))], [], [], []⟩
  | 121, 0 => ⟨[(4, false, (.int .i64)), (8, false, (.int .i64))], [], [], []⟩
  | _, _ => ⟨[], [], [], []⟩
def pvEloops : FuncId → Nat → List (Nat × Value)
  | 36, 0 => [(0, (.slice none 0 0)), (1, (.slice none 0 0)), (4, (.bool false)), (5, (.int .i64 0))]
  | 37, 0 => [(0, (.slice none 0 0)), (1, (.int .i64 0)), (4, (.int .i64 0)), (5, (.int .i64 0))]
  | 38, 0 => [(0, (.slice none 0 0)), (1, (.int .i64 0)), (4, (.int .i64 0)), (5, (.int .i64 0))]
  | 43, 0 => [(0, (.slice none 0 0)), (2, (.slice none 0 0)), (3, (.slice none 0 0)), (4, (.int .i64 0))]
  | 45, 0 => [(0, (.slice none 0 0)), (1, (.slice none 0 0)), (4, (.bool false)), (5, (.int .i64 0))]
  | 46, 0 => [(0, (.slice none 0 0)), (1, (.int .i64 0)), (4, (.int .i64 0)), (5, (.int .i64 0))]
  | 51, 0 => [(1, (.pointer (some ⟨0, 0, none⟩))), (2, (.bool false)), (54, (.int .i64 0)), (55, (.int .i64 0))]
  | 52, 0 => [(1, (.pointer (some ⟨0, 0, none⟩))), (2, (.bool false)), (6, (.agg #[(.int .i64 0), (.int .i64 0), (.int .i64 0), (.int .i64 0)])), (7, (.int .i64 0))]
  | 56, 0 => [(1, (.pointer (some ⟨0, 0, none⟩))), (2, (.bool false)), (3, (.int .i64 0)), (4, (.slice none 0 0)), (52, (.slice none 0 0)), (53, (.int .i64 0)), (54, (.int .i64 0))]
  | 56, 1 => [(1, (.pointer (some ⟨0, 0, none⟩))), (2, (.bool false)), (3, (.int .i64 0)), (4, (.slice none 0 0)), (5, (.int .i64 0)), (6, (.slice none 0 0)), (52, (.slice none 0 0)), (53, (.int .i64 0)), (54, (.int .i64 0)), (55, (.bool false)), (56, (.int .i64 0)), (57, (.pointer (some ⟨0, 0, none⟩))), (58, (.slice none 0 0)), (59, (.slice none 0 0)), (60, (.int .i64 0)), (61, (.pointer (some ⟨0, 0, none⟩))), (62, (.int .i64 0)), (63, (.bool false)), (64, (.bool false)), (76, (.bool false)), (77, (.slice none 0 0)), (78, (.int .i64 0)), (79, (.int .i64 0))]
  | 59, 0 => [(2, (.pointer (some ⟨0, 0, none⟩))), (3, (.pointer (some ⟨0, 0, none⟩))), (19, (.slice none 0 0)), (20, (.int .i64 0)), (21, (.int .i64 0))]
  | 64, 0 => [(1, (.int .i64 0)), (4, (.int .i64 0)), (5, (.int .i64 0)), (14, (.agg #[(.int .i64 0), (.int .i64 0), (.int .i64 0)])), (15, (.int .i64 0))]
  | 74, 0 => [(0, (.pointer (some ⟨0, 0, none⟩))), (2, (.pointer (some ⟨0, 0, none⟩)))]
  | 75, 0 => [(2, (.bool false)), (8, (.slice none 0 0)), (9, (.int .i64 0)), (10, (.int .i64 0))]
  | 76, 0 => [(0, (.pointer (some ⟨0, 0, none⟩))), (2, (.pointer (some ⟨0, 0, none⟩)))]
  | 77, 0 => [(0, (.slice none 0 0)), (1, (.int .i64 0)), (4, (.int .i64 0)), (5, (.int .i64 0))]
  | 79, 0 => [(0, (.slice none 0 0)), (2, (.slice none 0 0)), (3, (.slice none 0 0)), (4, (.int .i64 0))]
  | 80, 0 => [(0, (.slice none 0 0)), (2, (.slice none 0 0)), (3, (.slice none 0 0)), (4, (.int .i64 0))]
  | 81, 0 => [(0, (.slice none 0 0)), (1, (.slice none 0 0)), (4, (.bool false)), (5, (.int .i64 0))]
  | 82, 0 => [(0, (.slice none 0 0)), (1, (.int .i64 0)), (4, (.int .i64 0)), (5, (.int .i64 0))]
  | 83, 0 => [(0, (.slice none 0 0)), (1, (.int .i64 0)), (4, (.int .i64 0)), (5, (.int .i64 0))]
  | 90, 0 => [(1, (.int .i64 0)), (4, (.int .i64 0)), (5, (.int .i64 0)), (14, (.slice none 0 0)), (15, (.int .i64 0)), (16, (.int .i64 0))]
  | 93, 0 => [(0, (.slice none 0 0)), (2, (.bool false)), (5, (.slice none 0 0)), (6, (.int .i64 0)), (7, (.int .i64 0))]
  | 94, 0 => [(0, (.slice none 0 0)), (2, (.slice none 0 0)), (3, (.int .i64 0)), (9, (.slice none 0 0)), (10, (.int .i64 0)), (11, (.int .i64 0))]
  | 94, 1 => [(2, (.slice none 0 0)), (6, (.slice none 0 0)), (25, (.slice none 0 0)), (26, (.int .i64 0)), (27, (.int .i64 0))]
  | 99, 0 => [(1, (.int .i64 0)), (2, (.pointer (some ⟨0, 0, none⟩))), (4, (.bool false)), (5, (.slice none 0 0)), (6, (.int .i64 0)), (35, (.slice none 0 0)), (36, (.int .i64 0)), (37, (.int .i64 0))]
  | 104, 0 => [(0, (.slice none 0 0)), (2, (.slice none 0 0)), (3, (.slice none 0 0)), (9, (.int .i64 0)), (10, (.int .i64 0))]
  | 106, 0 => [(1, (.int .i64 0)), (2, (.int .i64 0)), (6, (.bool false)), (9, (.slice none 0 0)), (10, (.int .i64 0)), (11, (.int .i64 0))]
  | 107, 0 => [(1, (.int .i64 0)), (4, (.bool false)), (7, (.slice none 0 0)), (8, (.int .i64 0)), (9, (.int .i64 0))]
  | 115, 0 => [(0, (.slice none 0 0)), (1, (.int .i64 0)), (4, (.int .i64 0)), (5, (.int .i64 0))]
  | 117, 0 => [(0, (.slice none 0 0)), (1, .nilFunc), (4, (.int .i64 0)), (7, (.int .i64 0)), (8, (.int .i64 0))]
  | 121, 0 => [(0, (.slice none 0 0)), (1, .nilFunc), (4, (.int .i64 0)), (7, (.int .i64 0)), (8, (.int .i64 0))]
  | _, _ => []
def pvInline : FuncId → Bool
  | 32 => true
  | 53 => true
  | 55 => true
  | 60 => true
  | 73 => true
  | 74 => true
  | 75 => true
  | 76 => true
  | 82 => true
  | 89 => true
  | 95 => true
  | 101 => true
  | 102 => true
  | 111 => true
  | 112 => true
  | 114 => true
  | 116 => true
  | 117 => true
  | 118 => true
  | 119 => true
  | 121 => true
  | _ => false
def pvOwn : FuncId → Bool
  | 23 => true
  | 29 => true
  | 59 => true
  | 79 => true
  | 104 => true
  | _ => false
def pvExt : FuncId → Option (List Value → Nat → Go.Ev.Heap → Option (Value × Go.Ev.Heap))
  | 113 => some (delX 6 zsDel)
  | _ => none
def pvVext : (f : FuncId) → Option (TupT (pvSig f).ptys → Option (TupT (pvSig f).rtys))
  | 113 => some (fun a => delV tyDel a)
  | _ => none
noncomputable def pvAnn : AnnV := ⟨fuelN, pvSig, pvLoops, pvEloops, pvInline, pvOwn, pvExt, pvVext⟩

/-- loop.example/g00838/impl.fieldsOf -/
noncomputable def g100 (d : Nat) (x1 : (Int × Int × Int × Int × Int × Int)) : Option (Int × Int × Int × Int) := (lev Try.prog pvAnn d).call 100 (x1)
/-- loop.example/g00838/impl.IsPacket -/
noncomputable def g52 (d : Nat) (x1 : (Int × Int × Int × Int × Int × Int)) : Option Bool := (lev Try.prog pvAnn d).call 52 (x1)
/-- loop.example/g00838/impl.hasId -/
noncomputable def g103 (d : Nat) (l1 : List (Int × Int × Int × Int × Int × Int)) (n2 : Int) : Option Bool := (lev Try.prog pvAnn d).call 103 (l1, n2)
/-- loop.example/g00838/impl.apartIds -/
noncomputable def g93 (d : Nat) (l1 : List (Int × Int × Int × Int × Int × Int)) : Option Bool := (lev Try.prog pvAnn d).call 93 (l1)
/-- slices.Concat[[]loop.example/g00838/impl.Packet,loop.example/g00838/impl.Packet] -/
noncomputable def g94 (d : Nat) (l1 : List (List (Int × Int × Int × Int × Int × Int))) : Option (List (Int × Int × Int × Int × Int × Int)) := (lev Try.prog pvAnn d).call 94 (l1)
/-- loop.example/g00838/impl.flowOf -/
noncomputable def g64 (d : Nat) (x1 : (Int × Int × Int × Int × Int × Int)) (n2 : Int) : Option Int := (lev Try.prog pvAnn d).call 64 (x1, n2)
/-- loop.example/g00838/impl.flowRight -/
noncomputable def g99 (d : Nat) (x1 : (Int × Int × (List (List (Int × Int × Int × Int × Int × Int))) × (List Int) × Int × Bool)) (n2 : Int) : Option Bool := (lev Try.prog pvAnn d).call 99 (x1, n2)
/-- loop.example/g00838/impl.IsFair -/
noncomputable def g51 (d : Nat) (x1 : (Int × Int × (List (List (Int × Int × Int × Int × Int × Int))) × (List Int) × Int × Bool)) : Option Bool := (lev Try.prog pvAnn d).call 51 (x1)
/-- slices.Clone[[]loop.example/g00838/impl.Packet,loop.example/g00838/impl.Packet] -/
noncomputable def g120 (d : Nat) (l1 : List (Int × Int × Int × Int × Int × Int)) : Option (List (Int × Int × Int × Int × Int × Int)) := (lev Try.prog pvAnn d).call 120 (l1)
/-- loop.example/g00838/impl.copyLists -/
noncomputable def g104 (d : Nat) (l1 : List (List (Int × Int × Int × Int × Int × Int))) : Option (List (List (Int × Int × Int × Int × Int × Int))) := (lev Try.prog pvAnn d).call 104 (l1)
/-- slices.Clone[[]int,int] -/
noncomputable def g105 (d : Nat) (l1 : List Int) : Option (List Int) := (lev Try.prog pvAnn d).call 105 (l1)
/-- loop.example/g00838/impl.copyFair -/
noncomputable def g54 (d : Nat) (x1 : (Int × Int × (List (List (Int × Int × Int × Int × Int × Int))) × (List Int) × Int × Bool)) : Option (Int × Int × (List (List (Int × Int × Int × Int × Int × Int))) × (List Int) × Int × Bool) := (lev Try.prog pvAnn d).call 54 (x1)
/-- slices.Delete[[]loop.example/g00838/impl.Packet,loop.example/g00838/impl.Packet] -/
noncomputable def g113 (d : Nat) (l1 : List (Int × Int × Int × Int × Int × Int)) (n2 : Int) (n3 : Int) : Option (List (Int × Int × Int × Int × Int × Int)) := (lev Try.prog pvAnn d).call 113 (l1, n2, n3)
/-- loop.example/g00838/impl.TakeFair -/
noncomputable def g26 (d : Nat) (x1 : (Int × Int × (List (List (Int × Int × Int × Int × Int × Int))) × (List Int) × Int × Bool)) : Option ((Int × Int × (List (List (Int × Int × Int × Int × Int × Int))) × (List Int) × Int × Bool) × (Int × Int × Int × Int × Int × Int) × Bool) := (lev Try.prog pvAnn d).call 26 (x1)
/-- loop.example/g00838/spec.l1In -/
noncomputable def g68 (d : Nat) (n1 : Int) (n2 : Int) (n3 : Int) : Option Bool := (lev Try.prog pvAnn d).call 68 (n1, n2, n3)
/-- loop.example/g00838/spec.pkWord -/
noncomputable def g108 (d : Nat) (n1 : Int) : Option Bool := (lev Try.prog pvAnn d).call 108 (n1)
/-- loop.example/g00838/spec.pkGood -/
noncomputable def g57 (d : Nat) (x1 : (Int × Int × Int × Int × Int × Int)) : Option Bool := (lev Try.prog pvAnn d).call 57 (x1)
/-- loop.example/g00838/spec.pkFlow -/
noncomputable def g90 (d : Nat) (x1 : (Int × Int × Int × Int × Int × Int)) (n2 : Int) : Option Int := (lev Try.prog pvAnn d).call 90 (x1, n2)
/-- loop.example/g00838/spec.l1All -/
noncomputable def g106 (d : Nat) (l1 : List Int) (n2 : Int) (n3 : Int) : Option Bool := (lev Try.prog pvAnn d).call 106 (l1, n2, n3)
/-- loop.example/g00838/spec.l1Has -/
noncomputable def g107 (d : Nat) (l1 : List Int) (n2 : Int) : Option Bool := (lev Try.prog pvAnn d).call 107 (l1, n2)
/-- loop.example/g00838/spec.faGood -/
noncomputable def g56 (d : Nat) (x1 : (Int × Int × (List (List (Int × Int × Int × Int × Int × Int))) × (List Int) × Int × Bool)) : Option Bool := (lev Try.prog pvAnn d).call 56 (x1)
/-- loop.example/g00838/spec.l1Own -/
noncomputable def g109 (d : Nat) (l1 : List Int) : Option (List Int) := (lev Try.prog pvAnn d).call 109 (l1)
/-- loop.example/g00838/spec.faOwn -/
noncomputable def g59 (d : Nat) (x1 : (Int × Int × (List (List (Int × Int × Int × Int × Int × Int))) × (List Int) × Int × Bool)) : Option (Int × Int × (List (List (Int × Int × Int × Int × Int × Int))) × (List Int) × Int × Bool) := (lev Try.prog pvAnn d).call 59 (x1)
/-- loop.example/g00838/spec.TakeFair -/
noncomputable def g27 (d : Nat) (x1 : (Int × Int × (List (List (Int × Int × Int × Int × Int × Int))) × (List Int) × Int × Bool)) : Option ((Int × Int × (List (List (Int × Int × Int × Int × Int × Int))) × (List Int) × Int × Bool) × (Int × Int × Int × Int × Int × Int) × Bool) := (lev Try.prog pvAnn d).call 27 (x1)
/-- loop.example/g00838/laws.szPacketS -/
noncomputable def g41 (d : Nat) (l1 : List (Int × Int × Int × Int × Int × Int)) (n2 : Int) : Option Int := (lev Try.prog pvAnn d).call 41 (l1, n2)
/-- loop.example/g00838/laws.szPacketSS -/
noncomputable def g77 (d : Nat) (l1 : List (List (Int × Int × Int × Int × Int × Int))) (n2 : Int) : Option Int := (lev Try.prog pvAnn d).call 77 (l1, n2)
/-- loop.example/g00838/laws.szIntS -/
noncomputable def g78 (d : Nat) (l1 : List Int) (n2 : Int) : Option Int := (lev Try.prog pvAnn d).call 78 (l1, n2)
/-- loop.example/g00838/laws.szFair -/
noncomputable def g28 (d : Nat) (x1 : (Int × Int × (List (List (Int × Int × Int × Int × Int × Int))) × (List Int) × Int × Bool)) (n2 : Int) : Option Int := (lev Try.prog pvAnn d).call 28 (x1, n2)
/-- loop.example/g00838/laws.toPacket -/
noncomputable def g92 (d : Nat) (x1 : (Int × Int × Int × Int × Int × Int)) : Option (Int × Int × Int × Int × Int × Int) := (lev Try.prog pvAnn d).call 92 (x1)
/-- loop.example/g00838/laws.toPacketS -/
noncomputable def g43 (d : Nat) (l1 : List (Int × Int × Int × Int × Int × Int)) : Option (List (Int × Int × Int × Int × Int × Int)) := (lev Try.prog pvAnn d).call 43 (l1)
/-- loop.example/g00838/laws.toPacketSS -/
noncomputable def g79 (d : Nat) (l1 : List (List (Int × Int × Int × Int × Int × Int))) : Option (List (List (Int × Int × Int × Int × Int × Int))) := (lev Try.prog pvAnn d).call 79 (l1)
/-- loop.example/g00838/laws.toIntS -/
noncomputable def g80 (d : Nat) (l1 : List Int) : Option (List Int) := (lev Try.prog pvAnn d).call 80 (l1)
/-- loop.example/g00838/laws.toFair -/
noncomputable def g29 (d : Nat) (x1 : (Int × Int × (List (List (Int × Int × Int × Int × Int × Int))) × (List Int) × Int × Bool)) : Option (Int × Int × (List (List (Int × Int × Int × Int × Int × Int))) × (List Int) × Int × Bool) := (lev Try.prog pvAnn d).call 29 (x1)
/-- loop.example/g00838/laws.eqIntS -/
noncomputable def g36 (d : Nat) (l1 : List Int) (l2 : List Int) : Option Bool := (lev Try.prog pvAnn d).call 36 (l1, l2)
/-- loop.example/g00838/laws.eqPacket -/
noncomputable def g31 (d : Nat) (x1 : (Int × Int × Int × Int × Int × Int)) (x2 : (Int × Int × Int × Int × Int × Int)) : Option Bool := (lev Try.prog pvAnn d).call 31 (x1, x2)
/-- loop.example/g00838/laws.eqPacketS -/
noncomputable def g45 (d : Nat) (l1 : List (Int × Int × Int × Int × Int × Int)) (l2 : List (Int × Int × Int × Int × Int × Int)) : Option Bool := (lev Try.prog pvAnn d).call 45 (l1, l2)
/-- loop.example/g00838/laws.eqPacketSS -/
noncomputable def g81 (d : Nat) (l1 : List (List (Int × Int × Int × Int × Int × Int))) (l2 : List (List (Int × Int × Int × Int × Int × Int))) : Option Bool := (lev Try.prog pvAnn d).call 81 (l1, l2)
/-- loop.example/g00838/laws.eqFair -/
noncomputable def g30 (d : Nat) (x1 : (Int × Int × (List (List (Int × Int × Int × Int × Int × Int))) × (List Int) × Int × Bool)) (x2 : (Int × Int × (List (List (Int × Int × Int × Int × Int × Int))) × (List Int) × Int × Bool)) : Option Bool := (lev Try.prog pvAnn d).call 30 (x1, x2)
/-- loop.example/g00838/laws.heldIntS -/
noncomputable def g38 (d : Nat) (l1 : List Int) (n2 : Int) : Option Int := (lev Try.prog pvAnn d).call 38 (l1, n2)
/-- loop.example/g00838/laws.heldPacketS -/
noncomputable def g115 (d : Nat) (l1 : List (Int × Int × Int × Int × Int × Int)) (n2 : Int) : Option Int := (lev Try.prog pvAnn d).call 115 (l1, n2)
/-- loop.example/g00838/laws.heldPacketSS -/
noncomputable def g83 (d : Nat) (l1 : List (List (Int × Int × Int × Int × Int × Int))) (n2 : Int) : Option Int := (lev Try.prog pvAnn d).call 83 (l1, n2)
/-- loop.example/g00838/laws.heldFair -/
noncomputable def g33 (d : Nat) (x1 : (Int × Int × (List (List (Int × Int × Int × Int × Int × Int))) × (List Int) × Int × Bool)) (n2 : Int) : Option Int := (lev Try.prog pvAnn d).call 33 (x1, n2)
/-- loop.example/g00838/laws.markIntS -/
noncomputable def g37 (d : Nat) (l1 : List Int) (n2 : Int) : Option (Int × (List Int)) := (lev Try.prog pvAnn d).call 37 (l1, n2)
/-- loop.example/g00838/laws.markPacketS -/
noncomputable def g46 (d : Nat) (l1 : List (Int × Int × Int × Int × Int × Int)) (n2 : Int) : Option (Int × (List (Int × Int × Int × Int × Int × Int))) := (lev Try.prog pvAnn d).call 46 (l1, n2)
/-- loop.example/g00838/laws.FnExactTakeFair -/
noncomputable def g4 (d : Nat) (x1 : (Int × Int × (List (List (Int × Int × Int × Int × Int × Int))) × (List Int) × Int × Bool)) : Option Bool := (lev Try.prog pvAnn d).call 4 (x1)

theorem e100 (d : Nat) (x1 : (Int × Int × Int × Int × Int × Int)) : g100 (d + 1) x1 =
 some (x1.2.1, x1.2.2.1, x1.2.2.2.1, x1.2.2.2.2.1) := by kernel_rfl

noncomputable def j52_0 (d : Nat) (x1 : (Int × Int × Int × Int × Int × Int)) (b4 : Bool) : Option Bool :=
 oif (decide ((x1.1 : Int) ≥ 1)) (
 oif (decide ((x1.1 : Int) ≤ 100000)) (
 oif (decide ((x1.2.2.2.2.2 : Int) ≥ 1)) (
 some (decide ((x1.2.2.2.2.2 : Int) ≤ 1500))) (
 some false)) (
 some false)) (
 some false)
noncomputable def l52_0_b (d : Nat) (r2 : (Int × Int × Int × Int)) (kx52_0_0 : Bool → Option Bool) (ag3 : (Bool × Int) → Option Bool) (b4 : Bool) (n5 : Int) : Option Bool :=
 oif (decide ((n5 : Int) < 4)) (
 oif (decide (0 ≤ (n5 : Int))) (
 obind (([r2.1, r2.2.1, r2.2.2.1, r2.2.2.2] : List Int)[(n5 : Int).toNat]?) fun n6 =>
 oif (decide ((n6 : Int) < 0)) (
 some false) (
 oif (decide ((n6 : Int) > 65535)) (
 some false) (
 ag3 (b4, (IntKind.i64.wrap (n5 + 1)))))) none) (
 kx52_0_0 b4)
noncomputable def l52_0 (d : Nat) (r2 : (Int × Int × Int × Int)) (kx52_0_0 : Bool → Option Bool) (ag3 : (Bool × Int) → Option Bool) (s : (Bool × Int)) : Option Bool := l52_0_b d r2 kx52_0_0 ag3 s.1 s.2
theorem e52 (d : Nat) (x1 : (Int × Int × Int × Int × Int × Int)) : g52 (d + 1) x1 =
 obind (g100 d x1) fun r2 =>
 iterP (l52_0 d r2 (j52_0 d x1)) fuelN (false, 0) := by kernel_rfl

noncomputable def j103i118i121_0 (d : Nat)  (n4 : Int) : Option Bool :=
 some (decide (((-1) : Int) ≥ 0))
noncomputable def l103i118i121_0_b (d : Nat) (l1 : List (Int × Int × Int × Int × Int × Int)) (n2 : Int) (kx103i118i121_0_0 : Int → Option Bool) (ag3 : (Int × Int) → Option Bool) (n4 : Int) (n5 : Int) : Option Bool :=
 oif (decide ((n5 : Int) < ((l1.length : Nat) : Int))) (
 oif (decide (0 ≤ (n5 : Int))) (
 obind (l1[(n5 : Int).toNat]?) fun x6 =>
 oif ((x6.1 : Int) == n2) (
 some (decide ((n5 : Int) ≥ 0))) (
 ag3 (n4, (IntKind.i64.wrap (n5 + 1))))) none) (
 kx103i118i121_0_0 n4)
noncomputable def l103i118i121_0 (d : Nat) (l1 : List (Int × Int × Int × Int × Int × Int)) (n2 : Int) (kx103i118i121_0_0 : Int → Option Bool) (ag3 : (Int × Int) → Option Bool) (s : (Int × Int)) : Option Bool := l103i118i121_0_b d l1 n2 kx103i118i121_0_0 ag3 s.1 s.2
theorem e103 (d : Nat) (l1 : List (Int × Int × Int × Int × Int × Int)) (n2 : Int) : g103 (d + 4) l1 n2 =
 iterP (l103i118i121_0 d l1 n2 (j103i118i121_0 d)) fuelN (0, 0) := by kernel_rfl

noncomputable def j93_0 (d : Nat)  (b3 : Bool) : Option Bool :=
 some true
noncomputable def l93_0_b (d : Nat) (l1 : List (Int × Int × Int × Int × Int × Int)) (kx93_0_0 : Bool → Option Bool) (ag2 : (Bool × Int) → Option Bool) (b3 : Bool) (n4 : Int) : Option Bool :=
 oif (decide ((n4 : Int) < ((l1.length : Nat) : Int))) (
 oif (decide (0 ≤ (n4 : Int))) (
 obind (l1[(n4 : Int).toNat]?) fun x5 =>
 obind (g52 d x5) fun r6 =>
 oif (!r6) (
 some false) (
 oif (decide (0 ≤ (n4 : Int))) (
 oif (Nat.ble ((n4 : Int).toNat) l1.length) (
 obind (g103 d (l1.take ((n4 : Int).toNat)) x5.1) fun r7 =>
 oif r7 (
 some false) (
 ag2 (b3, (IntKind.i64.wrap (n4 + 1))))) none) none)) none) (
 kx93_0_0 b3)
noncomputable def l93_0 (d : Nat) (l1 : List (Int × Int × Int × Int × Int × Int)) (kx93_0_0 : Bool → Option Bool) (ag2 : (Bool × Int) → Option Bool) (s : (Bool × Int)) : Option Bool := l93_0_b d l1 kx93_0_0 ag2 s.1 s.2
theorem e93 (d : Nat) (l1 : List (Int × Int × Int × Int × Int × Int)) : g93 (d + 1) l1 =
 iterP (l93_0 d l1 (j93_0 d)) fuelN (false, 0) := by kernel_rfl

noncomputable def j94_0 (d : Nat)  (l5 : List (Int × Int × Int × Int × Int × Int)) : Option (List (Int × Int × Int × Int × Int × Int)) :=
 some l5
noncomputable def l94_1_b (d : Nat) (l1 : List (List (Int × Int × Int × Int × Int × Int))) (kx94_1_0 : (List (Int × Int × Int × Int × Int × Int)) → Option (List (Int × Int × Int × Int × Int × Int))) (ag4 : ((List (Int × Int × Int × Int × Int × Int)) × Int) → Option (List (Int × Int × Int × Int × Int × Int))) (l5 : List (Int × Int × Int × Int × Int × Int)) (n6 : Int) : Option (List (Int × Int × Int × Int × Int × Int)) :=
 oif (decide ((n6 : Int) < ((l1.length : Nat) : Int))) (
 oif (decide (0 ≤ (n6 : Int))) (
 obind (l1[(n6 : Int).toNat]?) fun l7 =>
 oif (Nat.ble ((l5.length + l7.length) * 48) roomMax) (
 ag4 ((l5 ++ l7), (IntKind.i64.wrap (n6 + 1)))) none) none) (
 kx94_1_0 l5)
noncomputable def l94_1 (d : Nat) (l1 : List (List (Int × Int × Int × Int × Int × Int))) (kx94_1_0 : (List (Int × Int × Int × Int × Int × Int)) → Option (List (Int × Int × Int × Int × Int × Int))) (ag4 : ((List (Int × Int × Int × Int × Int × Int)) × Int) → Option (List (Int × Int × Int × Int × Int × Int))) (s : ((List (Int × Int × Int × Int × Int × Int)) × Int)) : Option (List (Int × Int × Int × Int × Int × Int)) := l94_1_b d l1 kx94_1_0 ag4 s.1 s.2
noncomputable def j94_1 (d : Nat)  (l9 : List (Int × Int × Int × Int × Int × Int)) : Option (List (Int × Int × Int × Int × Int × Int)) :=
 some l9
noncomputable def l94_1x_b (d : Nat) (l1 : List (List (Int × Int × Int × Int × Int × Int))) (kx94_1_0 : (List (Int × Int × Int × Int × Int × Int)) → Option (List (Int × Int × Int × Int × Int × Int))) (ag8 : ((List (Int × Int × Int × Int × Int × Int)) × Int) → Option (List (Int × Int × Int × Int × Int × Int))) (l9 : List (Int × Int × Int × Int × Int × Int)) (n10 : Int) : Option (List (Int × Int × Int × Int × Int × Int)) :=
 oif (decide ((n10 : Int) < ((l1.length : Nat) : Int))) (
 oif (decide (0 ≤ (n10 : Int))) (
 obind (l1[(n10 : Int).toNat]?) fun l11 =>
 oif (Nat.ble ((l9.length + l11.length) * 48) roomMax) (
 ag8 ((l9 ++ l11), (IntKind.i64.wrap (n10 + 1)))) none) none) (
 kx94_1_0 l9)
noncomputable def l94_1x (d : Nat) (l1 : List (List (Int × Int × Int × Int × Int × Int))) (kx94_1_0 : (List (Int × Int × Int × Int × Int × Int)) → Option (List (Int × Int × Int × Int × Int × Int))) (ag8 : ((List (Int × Int × Int × Int × Int × Int)) × Int) → Option (List (Int × Int × Int × Int × Int × Int))) (s : ((List (Int × Int × Int × Int × Int × Int)) × Int)) : Option (List (Int × Int × Int × Int × Int × Int)) := l94_1x_b d l1 kx94_1_0 ag8 s.1 s.2
noncomputable def j94_2 (d : Nat) (l1 : List (List (Int × Int × Int × Int × Int × Int))) (n3 : Int) : Option (List (Int × Int × Int × Int × Int × Int)) :=
 oif (decide ((n3 : Int) < 0)) (
 none) (
 oif (decide (((IntKind.i64.wrap (n3 - (IntKind.i64.wrap ((0 : Int) - ((0 : Nat) : Int))))) : Int) > 0)) (
 oif (Nat.ble 0 0) (
 oif (decide (0 ≤ ((IntKind.i64.wrap (n3 - (IntKind.i64.wrap ((0 : Int) - ((0 : Nat) : Int))))) : Int)) && decide (((IntKind.i64.wrap (n3 - (IntKind.i64.wrap ((0 : Int) - ((0 : Nat) : Int))))) : Int) * ((48 : Nat) : Int) ≤ ((roomMax : Nat) : Int))) (
 oif (Nat.ble ((List.replicate ((IntKind.i64.wrap (n3 - (IntKind.i64.wrap ((0 : Int) - ((0 : Nat) : Int))))) : Int).toNat ((0, 0, 0, 0, 0, 0) : (Int × Int × Int × Int × Int × Int))).length * 48) roomMax) (
 oif (decide (0 ≤ (((0 : Nat) : Int) : Int))) (
 oif (Nat.ble ((((0 : Nat) : Int) : Int).toNat) ((List.replicate ((IntKind.i64.wrap (n3 - (IntKind.i64.wrap ((0 : Int) - ((0 : Nat) : Int))))) : Int).toNat ((0, 0, 0, 0, 0, 0) : (Int × Int × Int × Int × Int × Int))).length)) (
 iterP (l94_1 d l1 (j94_0 d)) fuelN (((List.replicate ((IntKind.i64.wrap (n3 - (IntKind.i64.wrap ((0 : Int) - ((0 : Nat) : Int))))) : Int).toNat ((0, 0, 0, 0, 0, 0) : (Int × Int × Int × Int × Int × Int))).take ((((0 : Nat) : Int) : Int).toNat)), 0)) none) none) none) none) none) (
 iterP (l94_1x d l1 (j94_1 d)) fuelN ([], 0)))
noncomputable def l94_0_b (d : Nat) (l1 : List (List (Int × Int × Int × Int × Int × Int))) (kx94_0_0 : Int → Option (List (Int × Int × Int × Int × Int × Int))) (ag2 : (Int × Int) → Option (List (Int × Int × Int × Int × Int × Int))) (n3 : Int) (n4 : Int) : Option (List (Int × Int × Int × Int × Int × Int)) :=
 oif (decide ((n4 : Int) < ((l1.length : Nat) : Int))) (
 oif (decide (0 ≤ (n4 : Int))) (
 obind (l1[(n4 : Int).toNat]?) fun l5 =>
 oif (decide (((IntKind.i64.wrap (n3 + ((l5.length : Nat) : Int))) : Int) < 0)) (
 none) (
 ag2 ((IntKind.i64.wrap (n3 + ((l5.length : Nat) : Int))), (IntKind.i64.wrap (n4 + 1))))) none) (
 kx94_0_0 n3)
noncomputable def l94_0 (d : Nat) (l1 : List (List (Int × Int × Int × Int × Int × Int))) (kx94_0_0 : Int → Option (List (Int × Int × Int × Int × Int × Int))) (ag2 : (Int × Int) → Option (List (Int × Int × Int × Int × Int × Int))) (s : (Int × Int)) : Option (List (Int × Int × Int × Int × Int × Int)) := l94_0_b d l1 kx94_0_0 ag2 s.1 s.2
theorem e94 (d : Nat) (l1 : List (List (Int × Int × Int × Int × Int × Int))) : g94 (d + 2) l1 =
 iterP (l94_0 d l1 (j94_2 d l1)) fuelN (0, 0) := by kernel_rfl

noncomputable def j64_0 (d : Nat) (n2 : Int) (n4 : Int) : Option Int :=
 oif ((n2 : Int) == 0) none (
 some (n4.tmod n2))
noncomputable def l64_0_b (d : Nat) (x1 : (Int × Int × Int × Int × Int × Int)) (kx64_0_0 : Int → Option Int) (ag3 : (Int × Int) → Option Int) (n4 : Int) (n5 : Int) : Option Int :=
 oif (decide ((n5 : Int) < 3)) (
 oif (decide (0 ≤ (n5 : Int))) (
 obind (([x1.2.1, x1.2.2.1, x1.2.2.2.1] : List Int)[(n5 : Int).toNat]?) fun n6 =>
 ag3 (((IntKind.i64.wrap ((IntKind.i64.wrap ((IntKind.i64.wrap ((31 : Int) * n4)) + n6)) + 7)).tmod 1000003), (IntKind.i64.wrap (n5 + 1)))) none) (
 kx64_0_0 n4)
noncomputable def l64_0 (d : Nat) (x1 : (Int × Int × Int × Int × Int × Int)) (kx64_0_0 : Int → Option Int) (ag3 : (Int × Int) → Option Int) (s : (Int × Int)) : Option Int := l64_0_b d x1 kx64_0_0 ag3 s.1 s.2
theorem e64 (d : Nat) (x1 : (Int × Int × Int × Int × Int × Int)) (n2 : Int) : g64 (d + 1) x1 n2 =
 iterP (l64_0 d x1 (j64_0 d n2)) fuelN (40503, 0) := by kernel_rfl

noncomputable def j99_0 (d : Nat) (x1 : (Int × Int × (List (List (Int × Int × Int × Int × Int × Int))) × (List Int) × Int × Bool)) (n2 : Int) (l3 : List (Int × Int × Int × Int × Int × Int)) (n4 : Int) (b7 : Bool) : Option Bool :=
 oif ((((l3.length : Nat) : Int) : Int) == 0) (
 some ((n4 : Int) == 0)) (
 oif x1.2.2.2.2.2 (
 oif ((n2 : Int) == x1.2.2.2.2.1) (
 some true) (
 obind (l3[0]?) fun x8 =>
 some (decide ((n4 : Int) < x8.2.2.2.2.2)))) (
 obind (l3[0]?) fun x9 =>
 some (decide ((n4 : Int) < x9.2.2.2.2.2))))
noncomputable def l99_0_b (d : Nat) (x1 : (Int × Int × (List (List (Int × Int × Int × Int × Int × Int))) × (List Int) × Int × Bool)) (n2 : Int) (l3 : List (Int × Int × Int × Int × Int × Int)) (kx99_0_0 : Bool → Option Bool) (ag6 : (Bool × Int) → Option Bool) (b7 : Bool) (n8 : Int) : Option Bool :=
 oif (decide ((n8 : Int) < ((l3.length : Nat) : Int))) (
 oif (decide (0 ≤ (n8 : Int))) (
 obind (l3[(n8 : Int).toNat]?) fun x9 =>
 obind (g52 d x9) fun r10 =>
 oif (!r10) (
 some false) (
 obind (g64 d x9 ((x1.2.2.1.length : Nat) : Int)) fun r11 =>
 oif ((r11 : Int) != n2) (
 some false) (
 ag6 (b7, (IntKind.i64.wrap (n8 + 1)))))) none) (
 kx99_0_0 b7)
noncomputable def l99_0 (d : Nat) (x1 : (Int × Int × (List (List (Int × Int × Int × Int × Int × Int))) × (List Int) × Int × Bool)) (n2 : Int) (l3 : List (Int × Int × Int × Int × Int × Int)) (kx99_0_0 : Bool → Option Bool) (ag6 : (Bool × Int) → Option Bool) (s : (Bool × Int)) : Option Bool := l99_0_b d x1 n2 l3 kx99_0_0 ag6 s.1 s.2
noncomputable def j99_1 (d : Nat) (x1 : (Int × Int × (List (List (Int × Int × Int × Int × Int × Int))) × (List Int) × Int × Bool)) (n2 : Int) (l3 : List (Int × Int × Int × Int × Int × Int)) (n4 : Int) (b5 : Bool) : Option Bool :=
 oif b5 (
 some false) (
 iterP (l99_0 d x1 n2 l3 (j99_0 d x1 n2 l3 n4)) fuelN (false, 0))
theorem e99 (d : Nat) (x1 : (Int × Int × (List (List (Int × Int × Int × Int × Int × Int))) × (List Int) × Int × Bool)) (n2 : Int) : g99 (d + 1) x1 n2 =
 oif (decide (0 ≤ (n2 : Int))) (
 obind (x1.2.2.1[(n2 : Int).toNat]?) fun l3 =>
 oif (decide (0 ≤ (n2 : Int))) (
 obind (x1.2.2.2.1[(n2 : Int).toNat]?) fun n4 =>
 oif (decide ((((l3.length : Nat) : Int) : Int) > x1.2.1)) (
 j99_1 d x1 n2 l3 n4 true) (
 oif (decide ((n4 : Int) < 0)) (
 j99_1 d x1 n2 l3 n4 true) (
 j99_1 d x1 n2 l3 n4 (decide ((n4 : Int) > (IntKind.i64.wrap (x1.1 + 1500))))))) none) none := by kernel_rfl

noncomputable def j51_0 (d : Nat) (x1 : (Int × Int × (List (List (Int × Int × Int × Int × Int × Int))) × (List Int) × Int × Bool)) (b4 : Bool) : Option Bool :=
 oif x1.2.2.2.2.2 (
 oif (decide (0 ≤ (x1.2.2.2.2.1 : Int))) (
 obind (x1.2.2.1[(x1.2.2.2.2.1 : Int).toNat]?) fun l5 =>
 oif ((((l5.length : Nat) : Int) : Int) == 0) (
 some false) (
 obind (g94 d x1.2.2.1) fun r6 =>
 obind (g93 d r6) fun r7 =>
 some r7)) none) (
 obind (g94 d x1.2.2.1) fun r8 =>
 obind (g93 d r8) fun r9 =>
 some r9)
noncomputable def l51_0_b (d : Nat) (x1 : (Int × Int × (List (List (Int × Int × Int × Int × Int × Int))) × (List Int) × Int × Bool)) (kx51_0_0 : Bool → Option Bool) (ag3 : (Bool × Int) → Option Bool) (b4 : Bool) (n5 : Int) : Option Bool :=
 oif (decide ((n5 : Int) < ((x1.2.2.1.length : Nat) : Int))) (
 obind (g99 d x1 n5) fun r6 =>
 oif (!r6) (
 some false) (
 ag3 (b4, (IntKind.i64.wrap (n5 + 1))))) (
 kx51_0_0 b4)
noncomputable def l51_0 (d : Nat) (x1 : (Int × Int × (List (List (Int × Int × Int × Int × Int × Int))) × (List Int) × Int × Bool)) (kx51_0_0 : Bool → Option Bool) (ag3 : (Bool × Int) → Option Bool) (s : (Bool × Int)) : Option Bool := l51_0_b d x1 kx51_0_0 ag3 s.1 s.2
noncomputable def j51_1 (d : Nat) (x1 : (Int × Int × (List (List (Int × Int × Int × Int × Int × Int))) × (List Int) × Int × Bool)) (b2 : Bool) : Option Bool :=
 oif b2 (
 some false) (
 iterP (l51_0 d x1 (j51_0 d x1)) fuelN (false, 0))
theorem e51 (d : Nat) (x1 : (Int × Int × (List (List (Int × Int × Int × Int × Int × Int))) × (List Int) × Int × Bool)) : g51 (d + 1) x1 =
 oif (decide ((x1.1 : Int) < 100)) (
 j51_1 d x1 true) (
 oif (decide ((x1.1 : Int) > 3000)) (
 j51_1 d x1 true) (
 oif (decide ((x1.2.1 : Int) < 1)) (
 j51_1 d x1 true) (
 oif (decide ((x1.2.1 : Int) > 20)) (
 j51_1 d x1 true) (
 oif (decide ((((x1.2.2.1.length : Nat) : Int) : Int) < 1)) (
 j51_1 d x1 true) (
 oif (decide ((((x1.2.2.1.length : Nat) : Int) : Int) > 8)) (
 j51_1 d x1 true) (
 oif ((((x1.2.2.2.1.length : Nat) : Int) : Int) != ((x1.2.2.1.length : Nat) : Int)) (
 j51_1 d x1 true) (
 oif (decide ((x1.2.2.2.2.1 : Int) < 0)) (
 j51_1 d x1 true) (
 j51_1 d x1 (decide ((x1.2.2.2.2.1 : Int) ≥ ((x1.2.2.1.length : Nat) : Int))))))))))) := by kernel_rfl

theorem e120 (d : Nat) (l1 : List (Int × Int × Int × Int × Int × Int)) : g120 (d + 1) l1 =
 nilB l1.length (
 some []) (
 oif (Nat.ble ((([] : List (Int × Int × Int × Int × Int × Int)).length + l1.length) * 48) roomMax) (
 some (([] : List (Int × Int × Int × Int × Int × Int)) ++ l1)) none) := by kernel_rfl

noncomputable def j104_0 (d : Nat)  (l3 : List (List (Int × Int × Int × Int × Int × Int))) : Option (List (List (Int × Int × Int × Int × Int × Int))) :=
 some l3
noncomputable def l104_0_b (d : Nat) (l1 : List (List (Int × Int × Int × Int × Int × Int))) (kx104_0_0 : (List (List (Int × Int × Int × Int × Int × Int))) → Option (List (List (Int × Int × Int × Int × Int × Int)))) (ag2 : (Int × (List (List (Int × Int × Int × Int × Int × Int)))) → Option (List (List (Int × Int × Int × Int × Int × Int)))) (n3 : Int) (l4 : List (List (Int × Int × Int × Int × Int × Int))) : Option (List (List (Int × Int × Int × Int × Int × Int))) :=
 oif (decide ((n3 : Int) < ((l1.length : Nat) : Int))) (
 oif (decide (0 ≤ (n3 : Int))) (
 obind (l1[(n3 : Int).toNat]?) fun l5 =>
 obind (g120 d l5) fun r6 =>
 oif (decide (0 ≤ (n3 : Int))) (
 oif (Nat.blt ((n3 : Int).toNat) l4.length) (
 obind (l4[(n3 : Int).toNat]?) fun l7 =>
 ag2 ((IntKind.i64.wrap (n3 + 1)), (l4.set ((n3 : Int).toNat) r6))) none) none) none) (
 kx104_0_0 l4)
noncomputable def l104_0 (d : Nat) (l1 : List (List (Int × Int × Int × Int × Int × Int))) (kx104_0_0 : (List (List (Int × Int × Int × Int × Int × Int))) → Option (List (List (Int × Int × Int × Int × Int × Int)))) (ag2 : (Int × (List (List (Int × Int × Int × Int × Int × Int)))) → Option (List (List (Int × Int × Int × Int × Int × Int)))) (s : (Int × (List (List (Int × Int × Int × Int × Int × Int))))) : Option (List (List (Int × Int × Int × Int × Int × Int))) := l104_0_b d l1 kx104_0_0 ag2 s.1 s.2
theorem e104 (d : Nat) (l1 : List (List (Int × Int × Int × Int × Int × Int))) : g104 (d + 1) l1 =
 oif (decide (0 ≤ (((l1.length : Nat) : Int) : Int))) (
 oif (decide (0 ≤ (((l1.length : Nat) : Int) : Int))) (
 oif (Nat.ble ((((l1.length : Nat) : Int) : Int).toNat) ((((l1.length : Nat) : Int) : Int).toNat) && Nat.ble (((((l1.length : Nat) : Int) : Int).toNat) * 24) roomMax) (
 iterP (l104_0 d l1 (j104_0 d)) fuelN (0, (List.replicate ((((l1.length : Nat) : Int) : Int).toNat) ([] : List (Int × Int × Int × Int × Int × Int))))) none) none) none := by kernel_rfl

theorem e105 (d : Nat) (l1 : List Int) : g105 (d + 1) l1 =
 nilB l1.length (
 some []) (
 oif (Nat.ble ((([] : List Int).length + l1.length) * 8) roomMax) (
 some (([] : List Int) ++ l1)) none) := by kernel_rfl

theorem e54 (d : Nat) (x1 : (Int × Int × (List (List (Int × Int × Int × Int × Int × Int))) × (List Int) × Int × Bool)) : g54 (d + 1) x1 =
 obind (g104 d x1.2.2.1) fun r2 =>
 obind (g105 d x1.2.2.2.1) fun r3 =>
 some (x1.1, x1.2.1, r2, r3, x1.2.2.2.2) := by kernel_rfl

theorem e113 (d : Nat) (l1 : List (Int × Int × Int × Int × Int × Int)) (n2 : Int) (n3 : Int) : g113 (d + 1) l1 n2 n3 =
 oif (decide (0 ≤ n2) && (decide (n2 < n3) && (decide (n3 ≤ (l1.length : Int)) && Nat.ble l1.length 9223372036854775807))) (some (l1.take n2.toNat ++ l1.drop n3.toNat)) none := by kernel_rfl

noncomputable def j26i74_0 (d : Nat) (ag4 : (Int × Int × (List (List (Int × Int × Int × Int × Int × Int))) × (List Int) × Int × Bool) → Option ((Int × Int × (List (List (Int × Int × Int × Int × Int × Int))) × (List Int) × Int × Bool) × (Int × Int × Int × Int × Int × Int) × Bool)) (x5 : (Int × Int × (List (List (Int × Int × Int × Int × Int × Int))) × (List Int) × Int × Bool)) (b7 : Bool) (b8 : Bool) (l9 : List Int) : Option ((Int × Int × (List (List (Int × Int × Int × Int × Int × Int))) × (List Int) × Int × Bool) × (Int × Int × Int × Int × Int × Int) × Bool) :=
 oif (decide (0 ≤ (x5.2.2.2.2.1 : Int))) (
 oif (Nat.blt ((x5.2.2.2.2.1 : Int).toNat) x5.2.2.1.length) (
 obind (x5.2.2.1[(x5.2.2.2.2.1 : Int).toNat]?) fun l10 =>
 obind (l10[0]?) fun x11 =>
 oif (decide (0 ≤ (x5.2.2.2.2.1 : Int))) (
 oif (Nat.blt ((x5.2.2.2.2.1 : Int).toNat) l9.length) (
 obind (l9[(x5.2.2.2.2.1 : Int).toNat]?) fun n12 =>
 oif (decide ((x11.2.2.2.2.2 : Int) > n12)) (
 oif ((((x5.2.2.1.length : Nat) : Int) : Int) == 0) none (
 ag4 (x5.1, x5.2.1, x5.2.2.1, l9, ((IntKind.i64.wrap (x5.2.2.2.2.1 + 1)).tmod ((x5.2.2.1.length : Nat) : Int)), false))) (
 oif (decide (0 ≤ (x5.2.2.2.2.1 : Int))) (
 oif (Nat.blt ((x5.2.2.2.2.1 : Int).toNat) x5.2.2.1.length) (
 obind (x5.2.2.1[(x5.2.2.2.2.1 : Int).toNat]?) fun l13 =>
 obind (g113 (d + 3) l13 0 1) fun r14 =>
 oif (decide (0 ≤ (x5.2.2.2.2.1 : Int))) (
 oif (Nat.blt ((x5.2.2.2.2.1 : Int).toNat) x5.2.2.1.length) (
 oif (Nat.beq ((x5.2.2.2.2.1 : Int).toNat) ((x5.2.2.2.2.1 : Int).toNat)) (
 obind (x5.2.2.1[(x5.2.2.2.2.1 : Int).toNat]?) fun l15 =>
 oif (decide (0 ≤ (x5.2.2.2.2.1 : Int))) (
 oif (Nat.blt ((x5.2.2.2.2.1 : Int).toNat) l9.length) (
 obind (l9[(x5.2.2.2.2.1 : Int).toNat]?) fun n16 =>
 oif (decide (0 ≤ (x5.2.2.2.2.1 : Int))) (
 oif (Nat.blt ((x5.2.2.2.2.1 : Int).toNat) l9.length) (
 obind (l9[(x5.2.2.2.2.1 : Int).toNat]?) fun n17 =>
 oif (decide (0 ≤ (x5.2.2.2.2.1 : Int))) (
 oif (Nat.blt ((x5.2.2.2.2.1 : Int).toNat) (x5.2.2.1.set ((x5.2.2.2.2.1 : Int).toNat) r14).length) (
 obind ((x5.2.2.1.set ((x5.2.2.2.2.1 : Int).toNat) r14)[(x5.2.2.2.2.1 : Int).toNat]?) fun l18 =>
 oif ((((l18.length : Nat) : Int) : Int) == 0) (
 oif (decide (0 ≤ (x5.2.2.2.2.1 : Int))) (
 oif (Nat.blt ((x5.2.2.2.2.1 : Int).toNat) ((l9.set ((x5.2.2.2.2.1 : Int).toNat) (IntKind.i64.wrap (n16 - x11.2.2.2.2.2))).length)) (
 obind ((l9.set ((x5.2.2.2.2.1 : Int).toNat) (IntKind.i64.wrap (n16 - x11.2.2.2.2.2)))[(x5.2.2.2.2.1 : Int).toNat]?) fun n19 =>
 oif (((((x5.2.2.1.set ((x5.2.2.2.2.1 : Int).toNat) r14).length : Nat) : Int) : Int) == 0) none (
 some ((x5.1, x5.2.1, (x5.2.2.1.set ((x5.2.2.2.2.1 : Int).toNat) r14), ((l9.set ((x5.2.2.2.2.1 : Int).toNat) (IntKind.i64.wrap (n16 - x11.2.2.2.2.2))).set ((x5.2.2.2.2.1 : Int).toNat) 0), ((IntKind.i64.wrap (x5.2.2.2.2.1 + 1)).tmod (((x5.2.2.1.set ((x5.2.2.2.2.1 : Int).toNat) r14).length : Nat) : Int)), false), x11, true))) none) none) (
 some ((x5.1, x5.2.1, (x5.2.2.1.set ((x5.2.2.2.2.1 : Int).toNat) r14), (l9.set ((x5.2.2.2.2.1 : Int).toNat) (IntKind.i64.wrap (n16 - x11.2.2.2.2.2))), x5.2.2.2.2.1, b8), x11, true))) none) none) none) none) none) none) none) none) none) none) none)) none) none) none) none
noncomputable def l26i74_0_b (d : Nat)   (ag4 : (Int × Int × (List (List (Int × Int × Int × Int × Int × Int))) × (List Int) × Int × Bool) → Option ((Int × Int × (List (List (Int × Int × Int × Int × Int × Int))) × (List Int) × Int × Bool) × (Int × Int × Int × Int × Int × Int) × Bool)) (x5 : (Int × Int × (List (List (Int × Int × Int × Int × Int × Int))) × (List Int) × Int × Bool)) : Option ((Int × Int × (List (List (Int × Int × Int × Int × Int × Int))) × (List Int) × Int × Bool) × (Int × Int × Int × Int × Int × Int) × Bool) :=
 oif (decide (0 ≤ (x5.2.2.2.2.1 : Int))) (
 oif (Nat.blt ((x5.2.2.2.2.1 : Int).toNat) x5.2.2.1.length) (
 obind (x5.2.2.1[(x5.2.2.2.2.1 : Int).toNat]?) fun l6 =>
 oif ((((l6.length : Nat) : Int) : Int) == 0) (
 oif ((((x5.2.2.1.length : Nat) : Int) : Int) == 0) none (
 ag4 (x5.1, x5.2.1, x5.2.2.1, x5.2.2.2.1, ((IntKind.i64.wrap (x5.2.2.2.2.1 + 1)).tmod ((x5.2.2.1.length : Nat) : Int)), false))) (
 oif (!x5.2.2.2.2.2) (
 oif (decide (0 ≤ (x5.2.2.2.2.1 : Int))) (
 oif (Nat.blt ((x5.2.2.2.2.1 : Int).toNat) x5.2.2.2.1.length) (
 obind (x5.2.2.2.1[(x5.2.2.2.2.1 : Int).toNat]?) fun n7 =>
 oif (decide (0 ≤ (x5.2.2.2.2.1 : Int))) (
 oif (Nat.blt ((x5.2.2.2.2.1 : Int).toNat) x5.2.2.2.1.length) (
 obind (x5.2.2.2.1[(x5.2.2.2.2.1 : Int).toNat]?) fun n8 =>
 j26i74_0 d ag4 x5 true true (x5.2.2.2.1.set ((x5.2.2.2.2.1 : Int).toNat) (IntKind.i64.wrap (n7 + x5.1)))) none) none) none) none) (
 j26i74_0 d ag4 x5 false x5.2.2.2.2.2 x5.2.2.2.1))) none) none
noncomputable def l26i74_0 (d : Nat)   (ag4 : (Int × Int × (List (List (Int × Int × Int × Int × Int × Int))) × (List Int) × Int × Bool) → Option ((Int × Int × (List (List (Int × Int × Int × Int × Int × Int))) × (List Int) × Int × Bool) × (Int × Int × Int × Int × Int × Int) × Bool)) (s : (Int × Int × (List (List (Int × Int × Int × Int × Int × Int))) × (List Int) × Int × Bool)) : Option ((Int × Int × (List (List (Int × Int × Int × Int × Int × Int))) × (List Int) × Int × Bool) × (Int × Int × Int × Int × Int × Int) × Bool) := l26i74_0_b d ag4 s
noncomputable def j26_0 (d : Nat) (x1 : (Int × Int × (List (List (Int × Int × Int × Int × Int × Int))) × (List Int) × Int × Bool)) (b2 : Bool) : Option ((Int × Int × (List (List (Int × Int × Int × Int × Int × Int))) × (List Int) × Int × Bool) × (Int × Int × Int × Int × Int × Int) × Bool) :=
 oif b2 (
 some ((0, 0, [], [], 0, false), (0, 0, 0, 0, 0, 0), false)) (
 obind (g54 (d + 4) x1) fun r3 =>
 iterP (l26i74_0 d) fuelN r3)
noncomputable def j26i73i101i117_0 (d : Nat) (x1 : (Int × Int × (List (List (Int × Int × Int × Int × Int × Int))) × (List Int) × Int × Bool)) (n4 : Int) : Option ((Int × Int × (List (List (Int × Int × Int × Int × Int × Int))) × (List Int) × Int × Bool) × (Int × Int × Int × Int × Int × Int) × Bool) :=
 j26_0 d x1 (!(decide (((-1) : Int) ≥ 0)))
noncomputable def l26i73i101i117_0_b (d : Nat) (x1 : (Int × Int × (List (List (Int × Int × Int × Int × Int × Int))) × (List Int) × Int × Bool)) (kx26i73i101i117_0_0 : Int → Option ((Int × Int × (List (List (Int × Int × Int × Int × Int × Int))) × (List Int) × Int × Bool) × (Int × Int × Int × Int × Int × Int) × Bool)) (ag3 : (Int × Int) → Option ((Int × Int × (List (List (Int × Int × Int × Int × Int × Int))) × (List Int) × Int × Bool) × (Int × Int × Int × Int × Int × Int) × Bool)) (n4 : Int) (n5 : Int) : Option ((Int × Int × (List (List (Int × Int × Int × Int × Int × Int))) × (List Int) × Int × Bool) × (Int × Int × Int × Int × Int × Int) × Bool) :=
 oif (decide ((n5 : Int) < ((x1.2.2.1.length : Nat) : Int))) (
 oif (decide (0 ≤ (n5 : Int))) (
 obind (x1.2.2.1[(n5 : Int).toNat]?) fun l6 =>
 oif (decide ((((l6.length : Nat) : Int) : Int) > 0)) (
 j26_0 d x1 (!(decide ((n5 : Int) ≥ 0)))) (
 ag3 (n4, (IntKind.i64.wrap (n5 + 1))))) none) (
 kx26i73i101i117_0_0 n4)
noncomputable def l26i73i101i117_0 (d : Nat) (x1 : (Int × Int × (List (List (Int × Int × Int × Int × Int × Int))) × (List Int) × Int × Bool)) (kx26i73i101i117_0_0 : Int → Option ((Int × Int × (List (List (Int × Int × Int × Int × Int × Int))) × (List Int) × Int × Bool) × (Int × Int × Int × Int × Int × Int) × Bool)) (ag3 : (Int × Int) → Option ((Int × Int × (List (List (Int × Int × Int × Int × Int × Int))) × (List Int) × Int × Bool) × (Int × Int × Int × Int × Int × Int) × Bool)) (s : (Int × Int)) : Option ((Int × Int × (List (List (Int × Int × Int × Int × Int × Int))) × (List Int) × Int × Bool) × (Int × Int × Int × Int × Int × Int) × Bool) := l26i73i101i117_0_b d x1 kx26i73i101i117_0_0 ag3 s.1 s.2
theorem e26 (d : Nat) (x1 : (Int × Int × (List (List (Int × Int × Int × Int × Int × Int))) × (List Int) × Int × Bool)) : g26 (d + 5) x1 =
 obind (g51 (d + 4) x1) fun r2 =>
 oif (!r2) (
 j26_0 d x1 true) (
 iterP (l26i73i101i117_0 d x1 (j26i73i101i117_0 d x1)) fuelN (0, 0)) := by kernel_rfl

theorem e68 (d : Nat) (n1 : Int) (n2 : Int) (n3 : Int) : g68 (d + 1) n1 n2 n3 =
 oif (decide ((n1 : Int) ≥ n2)) (
 some (decide ((n1 : Int) ≤ n3))) (
 some false) := by kernel_rfl

theorem e108 (d : Nat) (n1 : Int) : g108 (d + 1) n1 =
 obind (g68 d n1 0 65535) fun r2 =>
 some r2 := by kernel_rfl

theorem e57 (d : Nat) (x1 : (Int × Int × Int × Int × Int × Int)) : g57 (d + 1) x1 =
 obind (g68 d x1.1 1 100000) fun r2 =>
 oif r2 (
 obind (g108 d x1.2.1) fun r3 =>
 oif r3 (
 obind (g108 d x1.2.2.1) fun r4 =>
 oif r4 (
 obind (g108 d x1.2.2.2.1) fun r5 =>
 oif r5 (
 obind (g108 d x1.2.2.2.2.1) fun r6 =>
 oif r6 (
 obind (g68 d x1.2.2.2.2.2 1 1500) fun r7 =>
 some r7) (
 some false)) (
 some false)) (
 some false)) (
 some false)) (
 some false) := by kernel_rfl

noncomputable def j90_0 (d : Nat) (n2 : Int) (n4 : Int) : Option Int :=
 oif ((n2 : Int) == 0) none (
 some (n4.tmod n2))
noncomputable def l90_0_b (d : Nat) (x1 : (Int × Int × Int × Int × Int × Int)) (kx90_0_0 : Int → Option Int) (ag3 : (Int × Int) → Option Int) (n4 : Int) (n5 : Int) : Option Int :=
 oif (decide ((n5 : Int) < (([x1.2.1, x1.2.2.1, x1.2.2.2.1].length : Nat) : Int))) (
 oif (decide (0 ≤ (n5 : Int))) (
 oif (Nat.blt ((n5 : Int).toNat) ([x1.2.1, x1.2.2.1, x1.2.2.2.1].length)) (
 obind ([x1.2.1, x1.2.2.1, x1.2.2.2.1][(n5 : Int).toNat]?) fun n6 =>
 ag3 (((IntKind.i64.wrap ((IntKind.i64.wrap ((IntKind.i64.wrap ((31 : Int) * n4)) + n6)) + 7)).tmod 1000003), (IntKind.i64.wrap (n5 + 1)))) none) none) (
 kx90_0_0 n4)
noncomputable def l90_0 (d : Nat) (x1 : (Int × Int × Int × Int × Int × Int)) (kx90_0_0 : Int → Option Int) (ag3 : (Int × Int) → Option Int) (s : (Int × Int)) : Option Int := l90_0_b d x1 kx90_0_0 ag3 s.1 s.2
theorem e90 (d : Nat) (x1 : (Int × Int × Int × Int × Int × Int)) (n2 : Int) : g90 (d + 1) x1 n2 =
 iterP (l90_0 d x1 (j90_0 d n2)) fuelN (40503, 0) := by kernel_rfl

noncomputable def j106_0 (d : Nat)  (b5 : Bool) : Option Bool :=
 some true
noncomputable def l106_0_b (d : Nat) (l1 : List Int) (n2 : Int) (n3 : Int) (kx106_0_0 : Bool → Option Bool) (ag4 : (Bool × Int) → Option Bool) (b5 : Bool) (n6 : Int) : Option Bool :=
 oif (decide ((n6 : Int) < ((l1.length : Nat) : Int))) (
 oif (decide (0 ≤ (n6 : Int))) (
 obind (l1[(n6 : Int).toNat]?) fun n7 =>
 obind (g68 d n7 n2 n3) fun r8 =>
 oif (!r8) (
 some false) (
 ag4 (b5, (IntKind.i64.wrap (n6 + 1))))) none) (
 kx106_0_0 b5)
noncomputable def l106_0 (d : Nat) (l1 : List Int) (n2 : Int) (n3 : Int) (kx106_0_0 : Bool → Option Bool) (ag4 : (Bool × Int) → Option Bool) (s : (Bool × Int)) : Option Bool := l106_0_b d l1 n2 n3 kx106_0_0 ag4 s.1 s.2
theorem e106 (d : Nat) (l1 : List Int) (n2 : Int) (n3 : Int) : g106 (d + 1) l1 n2 n3 =
 iterP (l106_0 d l1 n2 n3 (j106_0 d)) fuelN (false, 0) := by kernel_rfl

noncomputable def j107_0 (d : Nat)  (b4 : Bool) : Option Bool :=
 some false
noncomputable def l107_0_b (d : Nat) (l1 : List Int) (n2 : Int) (kx107_0_0 : Bool → Option Bool) (ag3 : (Bool × Int) → Option Bool) (b4 : Bool) (n5 : Int) : Option Bool :=
 oif (decide ((n5 : Int) < ((l1.length : Nat) : Int))) (
 oif (decide (0 ≤ (n5 : Int))) (
 obind (l1[(n5 : Int).toNat]?) fun n6 =>
 oif ((n6 : Int) == n2) (
 some true) (
 ag3 (b4, (IntKind.i64.wrap (n5 + 1))))) none) (
 kx107_0_0 b4)
noncomputable def l107_0 (d : Nat) (l1 : List Int) (n2 : Int) (kx107_0_0 : Bool → Option Bool) (ag3 : (Bool × Int) → Option Bool) (s : (Bool × Int)) : Option Bool := l107_0_b d l1 n2 kx107_0_0 ag3 s.1 s.2
theorem e107 (d : Nat) (l1 : List Int) (n2 : Int) : g107 (d + 1) l1 n2 =
 iterP (l107_0 d l1 n2 (j107_0 d)) fuelN (false, 0) := by kernel_rfl

noncomputable def j56_0 (d : Nat) (x1 : (Int × Int × (List (List (Int × Int × Int × Int × Int × Int))) × (List Int) × Int × Bool)) (b4 : Bool) : Option Bool :=
 oif (!x1.2.2.2.2.2) (
 some true) (
 oif (decide (0 ≤ (x1.2.2.2.2.1 : Int))) (
 obind (x1.2.2.1[(x1.2.2.2.2.1 : Int).toNat]?) fun l5 =>
 some (decide ((((l5.length : Nat) : Int) : Int) > 0))) none)
noncomputable def j56_1 (d : Nat) (ag3 : (Bool × (List Int) × Int) → Option Bool) (n6 : Int) (b11 : Bool) (l13 : List Int) (b14 : Bool) (b15 : Bool) (b16 : Bool) (b17 : Bool) : Option Bool :=
 oif b17 (
 some false) (
 ag3 (b11, l13, (IntKind.i64.wrap (n6 + 1))))
noncomputable def j56_2 (d : Nat) (x1 : (Int × Int × (List (List (Int × Int × Int × Int × Int × Int))) × (List Int) × Int × Bool)) (ag3 : (Bool × (List Int) × Int) → Option Bool) (n6 : Int) (l7 : List (Int × Int × Int × Int × Int × Int)) (b11 : Bool) (n12 : Int) (l13 : List Int) : Option Bool :=
 oif (decide ((((l7.length : Nat) : Int) : Int) > 0)) (
 oif (decide (0 ≤ (n6 : Int))) (
 obind (x1.2.2.2.1[(n6 : Int).toNat]?) fun n14 =>
 obind (l7[0]?) fun x15 =>
 oif (decide ((n14 : Int) ≥ x15.2.2.2.2.2)) (
 oif (!x1.2.2.2.2.2) (
 j56_1 d ag3 n6 b11 l13 true (decide ((n14 : Int) ≥ x15.2.2.2.2.2)) true true) (
 j56_1 d ag3 n6 b11 l13 true (decide ((n14 : Int) ≥ x15.2.2.2.2.2)) true ((x1.2.2.2.2.1 : Int) != n6))) (
 j56_1 d ag3 n6 b11 l13 true (decide ((n14 : Int) ≥ x15.2.2.2.2.2)) false false)) none) (
 j56_1 d ag3 n6 b11 l13 false false false false)
noncomputable def l56_1_b (d : Nat) (x1 : (Int × Int × (List (List (Int × Int × Int × Int × Int × Int))) × (List Int) × Int × Bool)) (n6 : Int) (l7 : List (Int × Int × Int × Int × Int × Int)) (kx56_1_0 : Bool → Int → (List Int) → Option Bool) (ag10 : (Bool × (List Int) × Int) → Option Bool) (b11 : Bool) (l12 : List Int) (n13 : Int) : Option Bool :=
 oif (decide ((n13 : Int) < ((l7.length : Nat) : Int))) (
 oif (decide (0 ≤ (n13 : Int))) (
 obind (l7[(n13 : Int).toNat]?) fun x14 =>
 obind (g57 d x14) fun r15 =>
 oif (!r15) (
 some false) (
 obind (g90 d x14 ((x1.2.2.1.length : Nat) : Int)) fun r16 =>
 oif ((r16 : Int) != n6) (
 some false) (
 obind (g107 d l12 x14.1) fun r17 =>
 oif r17 (
 some false) (
 oif (Nat.ble ((l12.length + [x14.1].length) * 8) roomMax) (
 ag10 (b11, (l12 ++ [x14.1]), (IntKind.i64.wrap (n13 + 1)))) none)))) none) (
 kx56_1_0 b11 n13 l12)
noncomputable def l56_1 (d : Nat) (x1 : (Int × Int × (List (List (Int × Int × Int × Int × Int × Int))) × (List Int) × Int × Bool)) (n6 : Int) (l7 : List (Int × Int × Int × Int × Int × Int)) (kx56_1_0 : Bool → Int → (List Int) → Option Bool) (ag10 : (Bool × (List Int) × Int) → Option Bool) (s : (Bool × (List Int) × Int)) : Option Bool := l56_1_b d x1 n6 l7 kx56_1_0 ag10 s.1 s.2.1 s.2.2
noncomputable def j56_3 (d : Nat) (x1 : (Int × Int × (List (List (Int × Int × Int × Int × Int × Int))) × (List Int) × Int × Bool)) (ag3 : (Bool × (List Int) × Int) → Option Bool) (b4 : Bool) (l5 : List Int) (n6 : Int) (l7 : List (Int × Int × Int × Int × Int × Int)) (b8 : Bool) (b9 : Bool) : Option Bool :=
 oif b9 (
 some false) (
 iterP (l56_1 d x1 n6 l7 (j56_2 d x1 ag3 n6 l7)) fuelN (b4, l5, 0))
noncomputable def l56_0_b (d : Nat) (x1 : (Int × Int × (List (List (Int × Int × Int × Int × Int × Int))) × (List Int) × Int × Bool)) (kx56_0_0 : Bool → Option Bool) (ag3 : (Bool × (List Int) × Int) → Option Bool) (b4 : Bool) (l5 : List Int) (n6 : Int) : Option Bool :=
 oif (decide ((n6 : Int) < ((x1.2.2.1.length : Nat) : Int))) (
 oif (decide (0 ≤ (n6 : Int))) (
 obind (x1.2.2.1[(n6 : Int).toNat]?) fun l7 =>
 oif (decide ((((l7.length : Nat) : Int) : Int) > x1.2.1)) (
 j56_3 d x1 ag3 b4 l5 n6 l7 true true) (
 oif ((((l7.length : Nat) : Int) : Int) == 0) (
 oif (decide (0 ≤ (n6 : Int))) (
 obind (x1.2.2.2.1[(n6 : Int).toNat]?) fun n8 =>
 j56_3 d x1 ag3 b4 l5 n6 l7 false ((n8 : Int) != 0)) none) (
 j56_3 d x1 ag3 b4 l5 n6 l7 false false))) none) (
 kx56_0_0 b4)
noncomputable def l56_0 (d : Nat) (x1 : (Int × Int × (List (List (Int × Int × Int × Int × Int × Int))) × (List Int) × Int × Bool)) (kx56_0_0 : Bool → Option Bool) (ag3 : (Bool × (List Int) × Int) → Option Bool) (s : (Bool × (List Int) × Int)) : Option Bool := l56_0_b d x1 kx56_0_0 ag3 s.1 s.2.1 s.2.2
noncomputable def j56_4 (d : Nat) (x1 : (Int × Int × (List (List (Int × Int × Int × Int × Int × Int))) × (List Int) × Int × Bool)) (b2 : Bool) : Option Bool :=
 oif b2 (
 some false) (
 iterP (l56_0 d x1 (j56_0 d x1)) fuelN (false, [], 0))
theorem e56 (d : Nat) (x1 : (Int × Int × (List (List (Int × Int × Int × Int × Int × Int))) × (List Int) × Int × Bool)) : g56 (d + 1) x1 =
 obind (g68 d x1.1 100 3000) fun r2 =>
 oif (!r2) (
 j56_4 d x1 true) (
 obind (g68 d x1.2.1 1 20) fun r3 =>
 oif (!r3) (
 j56_4 d x1 true) (
 obind (g68 d ((x1.2.2.1.length : Nat) : Int) 1 8) fun r4 =>
 oif (!r4) (
 j56_4 d x1 true) (
 oif ((((x1.2.2.2.1.length : Nat) : Int) : Int) != ((x1.2.2.1.length : Nat) : Int)) (
 j56_4 d x1 true) (
 obind (g68 d x1.2.2.2.2.1 0 (IntKind.i64.wrap (((x1.2.2.1.length : Nat) : Int) - 1))) fun r5 =>
 oif (!r5) (
 j56_4 d x1 true) (
 obind (g106 d x1.2.2.2.1 0 (IntKind.i64.wrap (x1.1 + 1500))) fun r6 =>
 j56_4 d x1 (!r6)))))) := by kernel_rfl

theorem e109 (d : Nat) (l1 : List Int) : g109 (d + 1) l1 =
 oif (Nat.ble ((([] : List Int).length + l1.length) * 8) roomMax) (
 some (([] : List Int) ++ l1)) none := by kernel_rfl

noncomputable def j59_0 (d : Nat)  (n4 : Int) (n5 : Int) (n6 : Int) (b7 : Bool) (l8 : List (List (Int × Int × Int × Int × Int × Int))) (l9 : List Int) : Option (Int × Int × (List (List (Int × Int × Int × Int × Int × Int))) × (List Int) × Int × Bool) :=
 some (n4, n5, l8, l9, n6, b7)
noncomputable def l59_0_b (d : Nat) (x1 : (Int × Int × (List (List (Int × Int × Int × Int × Int × Int))) × (List Int) × Int × Bool)) (kx59_0_0 : Int → Int → Int → Bool → (List (List (Int × Int × Int × Int × Int × Int))) → (List Int) → Option (Int × Int × (List (List (Int × Int × Int × Int × Int × Int))) × (List Int) × Int × Bool)) (ag3 : (Int × (Int × Int × (List (List (Int × Int × Int × Int × Int × Int))) × (List Int) × Int × Bool)) → Option (Int × Int × (List (List (Int × Int × Int × Int × Int × Int))) × (List Int) × Int × Bool)) (n4 : Int) (x5 : (Int × Int × (List (List (Int × Int × Int × Int × Int × Int))) × (List Int) × Int × Bool)) : Option (Int × Int × (List (List (Int × Int × Int × Int × Int × Int))) × (List Int) × Int × Bool) :=
 oif (decide ((n4 : Int) < ((x1.2.2.1.length : Nat) : Int))) (
 oif (decide (0 ≤ (n4 : Int))) (
 obind (x1.2.2.1[(n4 : Int).toNat]?) fun l6 =>
 oif (Nat.ble ((([] : List (Int × Int × Int × Int × Int × Int)).length + l6.length) * 48) roomMax) (
 oif (Nat.ble ((x5.2.2.1.length + ([(([] : List (Int × Int × Int × Int × Int × Int)) ++ l6)] : List (List (Int × Int × Int × Int × Int × Int))).length) * 24) roomMax) (
 ag3 ((IntKind.i64.wrap (n4 + 1)), (x5.1, x5.2.1, (x5.2.2.1 ++ ([(([] : List (Int × Int × Int × Int × Int × Int)) ++ l6)] : List (List (Int × Int × Int × Int × Int × Int)))), x5.2.2.2))) none) none) none) (
 kx59_0_0 x5.1 x5.2.1 x5.2.2.2.2.1 x5.2.2.2.2.2 x5.2.2.1 x5.2.2.2.1)
noncomputable def l59_0 (d : Nat) (x1 : (Int × Int × (List (List (Int × Int × Int × Int × Int × Int))) × (List Int) × Int × Bool)) (kx59_0_0 : Int → Int → Int → Bool → (List (List (Int × Int × Int × Int × Int × Int))) → (List Int) → Option (Int × Int × (List (List (Int × Int × Int × Int × Int × Int))) × (List Int) × Int × Bool)) (ag3 : (Int × (Int × Int × (List (List (Int × Int × Int × Int × Int × Int))) × (List Int) × Int × Bool)) → Option (Int × Int × (List (List (Int × Int × Int × Int × Int × Int))) × (List Int) × Int × Bool)) (s : (Int × (Int × Int × (List (List (Int × Int × Int × Int × Int × Int))) × (List Int) × Int × Bool))) : Option (Int × Int × (List (List (Int × Int × Int × Int × Int × Int))) × (List Int) × Int × Bool) := l59_0_b d x1 kx59_0_0 ag3 s.1 s.2
theorem e59 (d : Nat) (x1 : (Int × Int × (List (List (Int × Int × Int × Int × Int × Int))) × (List Int) × Int × Bool)) : g59 (d + 1) x1 =
 obind (g109 d x1.2.2.2.1) fun r2 =>
 iterP (l59_0 d x1 (j59_0 d)) fuelN (0, (x1.1, x1.2.1, [], r2, x1.2.2.2.2)) := by kernel_rfl

noncomputable def j27i76_0 (d : Nat) (ag4 : (Int × Int × (List (List (Int × Int × Int × Int × Int × Int))) × (List Int) × Int × Bool) → Option ((Int × Int × (List (List (Int × Int × Int × Int × Int × Int))) × (List Int) × Int × Bool) × (Int × Int × Int × Int × Int × Int) × Bool)) (x5 : (Int × Int × (List (List (Int × Int × Int × Int × Int × Int))) × (List Int) × Int × Bool)) (b7 : Bool) (b8 : Bool) (l9 : List Int) : Option ((Int × Int × (List (List (Int × Int × Int × Int × Int × Int))) × (List Int) × Int × Bool) × (Int × Int × Int × Int × Int × Int) × Bool) :=
 oif (decide (0 ≤ (x5.2.2.2.2.1 : Int))) (
 oif (Nat.blt ((x5.2.2.2.2.1 : Int).toNat) x5.2.2.1.length) (
 obind (x5.2.2.1[(x5.2.2.2.2.1 : Int).toNat]?) fun l10 =>
 obind (l10[0]?) fun x11 =>
 oif (decide (0 ≤ (x5.2.2.2.2.1 : Int))) (
 oif (Nat.blt ((x5.2.2.2.2.1 : Int).toNat) l9.length) (
 obind (l9[(x5.2.2.2.2.1 : Int).toNat]?) fun n12 =>
 oif (decide ((x11.2.2.2.2.2 : Int) > n12)) (
 oif ((((x5.2.2.1.length : Nat) : Int) : Int) == 0) none (
 ag4 (x5.1, x5.2.1, x5.2.2.1, l9, ((IntKind.i64.wrap (x5.2.2.2.2.1 + 1)).tmod ((x5.2.2.1.length : Nat) : Int)), false))) (
 oif (decide (0 ≤ (x5.2.2.2.2.1 : Int))) (
 oif (Nat.blt ((x5.2.2.2.2.1 : Int).toNat) x5.2.2.1.length) (
 obind (x5.2.2.1[(x5.2.2.2.2.1 : Int).toNat]?) fun l13 =>
 oif (Nat.ble 1 l13.length) (
 oif (decide (0 ≤ (x5.2.2.2.2.1 : Int))) (
 oif (Nat.blt ((x5.2.2.2.2.1 : Int).toNat) x5.2.2.1.length) (
 oif (Nat.beq ((x5.2.2.2.2.1 : Int).toNat) ((x5.2.2.2.2.1 : Int).toNat)) (
 obind (x5.2.2.1[(x5.2.2.2.2.1 : Int).toNat]?) fun l14 =>
 oif (decide (0 ≤ (x5.2.2.2.2.1 : Int))) (
 oif (Nat.blt ((x5.2.2.2.2.1 : Int).toNat) l9.length) (
 obind (l9[(x5.2.2.2.2.1 : Int).toNat]?) fun n15 =>
 oif (decide (0 ≤ (x5.2.2.2.2.1 : Int))) (
 oif (Nat.blt ((x5.2.2.2.2.1 : Int).toNat) l9.length) (
 obind (l9[(x5.2.2.2.2.1 : Int).toNat]?) fun n16 =>
 oif (decide (0 ≤ (x5.2.2.2.2.1 : Int))) (
 oif (Nat.blt ((x5.2.2.2.2.1 : Int).toNat) (x5.2.2.1.set ((x5.2.2.2.2.1 : Int).toNat) (l13.drop 1)).length) (
 obind ((x5.2.2.1.set ((x5.2.2.2.2.1 : Int).toNat) (l13.drop 1))[(x5.2.2.2.2.1 : Int).toNat]?) fun l17 =>
 oif ((((l17.length : Nat) : Int) : Int) == 0) (
 oif (decide (0 ≤ (x5.2.2.2.2.1 : Int))) (
 oif (Nat.blt ((x5.2.2.2.2.1 : Int).toNat) ((l9.set ((x5.2.2.2.2.1 : Int).toNat) (IntKind.i64.wrap (n15 - x11.2.2.2.2.2))).length)) (
 obind ((l9.set ((x5.2.2.2.2.1 : Int).toNat) (IntKind.i64.wrap (n15 - x11.2.2.2.2.2)))[(x5.2.2.2.2.1 : Int).toNat]?) fun n18 =>
 oif (((((x5.2.2.1.set ((x5.2.2.2.2.1 : Int).toNat) (l13.drop 1)).length : Nat) : Int) : Int) == 0) none (
 obind (g59 (d + 2) (x5.1, x5.2.1, (x5.2.2.1.set ((x5.2.2.2.2.1 : Int).toNat) (l13.drop 1)), ((l9.set ((x5.2.2.2.2.1 : Int).toNat) (IntKind.i64.wrap (n15 - x11.2.2.2.2.2))).set ((x5.2.2.2.2.1 : Int).toNat) 0), ((IntKind.i64.wrap (x5.2.2.2.2.1 + 1)).tmod (((x5.2.2.1.set ((x5.2.2.2.2.1 : Int).toNat) (l13.drop 1)).length : Nat) : Int)), false)) fun r19 =>
 some (r19, x11, true))) none) none) (
 obind (g59 (d + 2) (x5.1, x5.2.1, (x5.2.2.1.set ((x5.2.2.2.2.1 : Int).toNat) (l13.drop 1)), (l9.set ((x5.2.2.2.2.1 : Int).toNat) (IntKind.i64.wrap (n15 - x11.2.2.2.2.2))), x5.2.2.2.2.1, b8)) fun r20 =>
 some (r20, x11, true))) none) none) none) none) none) none) none) none) none) none) none) none)) none) none) none) none
noncomputable def l27i76_0_b (d : Nat)   (ag4 : (Int × Int × (List (List (Int × Int × Int × Int × Int × Int))) × (List Int) × Int × Bool) → Option ((Int × Int × (List (List (Int × Int × Int × Int × Int × Int))) × (List Int) × Int × Bool) × (Int × Int × Int × Int × Int × Int) × Bool)) (x5 : (Int × Int × (List (List (Int × Int × Int × Int × Int × Int))) × (List Int) × Int × Bool)) : Option ((Int × Int × (List (List (Int × Int × Int × Int × Int × Int))) × (List Int) × Int × Bool) × (Int × Int × Int × Int × Int × Int) × Bool) :=
 oif (decide (0 ≤ (x5.2.2.2.2.1 : Int))) (
 oif (Nat.blt ((x5.2.2.2.2.1 : Int).toNat) x5.2.2.1.length) (
 obind (x5.2.2.1[(x5.2.2.2.2.1 : Int).toNat]?) fun l6 =>
 oif ((((l6.length : Nat) : Int) : Int) == 0) (
 oif ((((x5.2.2.1.length : Nat) : Int) : Int) == 0) none (
 ag4 (x5.1, x5.2.1, x5.2.2.1, x5.2.2.2.1, ((IntKind.i64.wrap (x5.2.2.2.2.1 + 1)).tmod ((x5.2.2.1.length : Nat) : Int)), false))) (
 oif (!x5.2.2.2.2.2) (
 oif (decide (0 ≤ (x5.2.2.2.2.1 : Int))) (
 oif (Nat.blt ((x5.2.2.2.2.1 : Int).toNat) x5.2.2.2.1.length) (
 obind (x5.2.2.2.1[(x5.2.2.2.2.1 : Int).toNat]?) fun n7 =>
 oif (decide (0 ≤ (x5.2.2.2.2.1 : Int))) (
 oif (Nat.blt ((x5.2.2.2.2.1 : Int).toNat) x5.2.2.2.1.length) (
 obind (x5.2.2.2.1[(x5.2.2.2.2.1 : Int).toNat]?) fun n8 =>
 j27i76_0 d ag4 x5 true true (x5.2.2.2.1.set ((x5.2.2.2.2.1 : Int).toNat) (IntKind.i64.wrap (n7 + x5.1)))) none) none) none) none) (
 j27i76_0 d ag4 x5 false x5.2.2.2.2.2 x5.2.2.2.1))) none) none
noncomputable def l27i76_0 (d : Nat)   (ag4 : (Int × Int × (List (List (Int × Int × Int × Int × Int × Int))) × (List Int) × Int × Bool) → Option ((Int × Int × (List (List (Int × Int × Int × Int × Int × Int))) × (List Int) × Int × Bool) × (Int × Int × Int × Int × Int × Int) × Bool)) (s : (Int × Int × (List (List (Int × Int × Int × Int × Int × Int))) × (List Int) × Int × Bool)) : Option ((Int × Int × (List (List (Int × Int × Int × Int × Int × Int))) × (List Int) × Int × Bool) × (Int × Int × Int × Int × Int × Int) × Bool) := l27i76_0_b d ag4 s
noncomputable def j27_0 (d : Nat) (x1 : (Int × Int × (List (List (Int × Int × Int × Int × Int × Int))) × (List Int) × Int × Bool)) (b2 : Bool) : Option ((Int × Int × (List (List (Int × Int × Int × Int × Int × Int))) × (List Int) × Int × Bool) × (Int × Int × Int × Int × Int × Int) × Bool) :=
 oif b2 (
 some ((0, 0, [], [], 0, false), (0, 0, 0, 0, 0, 0), false)) (
 obind (g59 (d + 2) x1) fun r3 =>
 iterP (l27i76_0 d) fuelN r3)
noncomputable def j27i75_0 (d : Nat) (x1 : (Int × Int × (List (List (Int × Int × Int × Int × Int × Int))) × (List Int) × Int × Bool)) (b4 : Bool) : Option ((Int × Int × (List (List (Int × Int × Int × Int × Int × Int))) × (List Int) × Int × Bool) × (Int × Int × Int × Int × Int × Int) × Bool) :=
 j27_0 d x1 true
noncomputable def l27i75_0_b (d : Nat) (x1 : (Int × Int × (List (List (Int × Int × Int × Int × Int × Int))) × (List Int) × Int × Bool)) (kx27i75_0_0 : Bool → Option ((Int × Int × (List (List (Int × Int × Int × Int × Int × Int))) × (List Int) × Int × Bool) × (Int × Int × Int × Int × Int × Int) × Bool)) (ag3 : (Bool × Int) → Option ((Int × Int × (List (List (Int × Int × Int × Int × Int × Int))) × (List Int) × Int × Bool) × (Int × Int × Int × Int × Int × Int) × Bool)) (b4 : Bool) (n5 : Int) : Option ((Int × Int × (List (List (Int × Int × Int × Int × Int × Int))) × (List Int) × Int × Bool) × (Int × Int × Int × Int × Int × Int) × Bool) :=
 oif (decide ((n5 : Int) < ((x1.2.2.1.length : Nat) : Int))) (
 oif (decide (0 ≤ (n5 : Int))) (
 obind (x1.2.2.1[(n5 : Int).toNat]?) fun l6 =>
 oif (decide ((((l6.length : Nat) : Int) : Int) > 0)) (
 j27_0 d x1 false) (
 ag3 (b4, (IntKind.i64.wrap (n5 + 1))))) none) (
 kx27i75_0_0 b4)
noncomputable def l27i75_0 (d : Nat) (x1 : (Int × Int × (List (List (Int × Int × Int × Int × Int × Int))) × (List Int) × Int × Bool)) (kx27i75_0_0 : Bool → Option ((Int × Int × (List (List (Int × Int × Int × Int × Int × Int))) × (List Int) × Int × Bool) × (Int × Int × Int × Int × Int × Int) × Bool)) (ag3 : (Bool × Int) → Option ((Int × Int × (List (List (Int × Int × Int × Int × Int × Int))) × (List Int) × Int × Bool) × (Int × Int × Int × Int × Int × Int) × Bool)) (s : (Bool × Int)) : Option ((Int × Int × (List (List (Int × Int × Int × Int × Int × Int))) × (List Int) × Int × Bool) × (Int × Int × Int × Int × Int × Int) × Bool) := l27i75_0_b d x1 kx27i75_0_0 ag3 s.1 s.2
theorem e27 (d : Nat) (x1 : (Int × Int × (List (List (Int × Int × Int × Int × Int × Int))) × (List Int) × Int × Bool)) : g27 (d + 3) x1 =
 obind (g56 (d + 2) x1) fun r2 =>
 oif (!r2) (
 j27_0 d x1 true) (
 iterP (l27i75_0 d x1 (j27i75_0 d x1)) fuelN (false, 0)) := by kernel_rfl

theorem e41 (d : Nat) (l1 : List (Int × Int × Int × Int × Int × Int)) (n2 : Int) : g41 (d + 1) l1 n2 =
 oif (decide (((IntKind.i64.wrap (n2 - ((l1.length : Nat) : Int))) : Int) < 0)) (
 some (-1)) (
 some (IntKind.i64.wrap (n2 - ((l1.length : Nat) : Int)))) := by kernel_rfl

noncomputable def j77_0 (d : Nat)  (n4 : Int) (n5 : Int) : Option Int :=
 some n4
noncomputable def l77_0_b (d : Nat) (l1 : List (List (Int × Int × Int × Int × Int × Int))) (kx77_0_0 : Int → Int → Option Int) (ag3 : (Int × Int × Int) → Option Int) (n4 : Int) (n5 : Int) (n6 : Int) : Option Int :=
 oif (decide ((n6 : Int) < ((l1.length : Nat) : Int))) (
 oif (decide (0 ≤ (n6 : Int))) (
 obind (l1[(n6 : Int).toNat]?) fun l7 =>
 obind (g41 d l7 n4) fun r8 =>
 oif (decide ((r8 : Int) < 0)) (
 some (-1)) (
 ag3 (r8, n5, (IntKind.i64.wrap (n6 + 1))))) none) (
 kx77_0_0 n4 n5)
noncomputable def l77_0 (d : Nat) (l1 : List (List (Int × Int × Int × Int × Int × Int))) (kx77_0_0 : Int → Int → Option Int) (ag3 : (Int × Int × Int) → Option Int) (s : (Int × Int × Int)) : Option Int := l77_0_b d l1 kx77_0_0 ag3 s.1 s.2.1 s.2.2
theorem e77 (d : Nat) (l1 : List (List (Int × Int × Int × Int × Int × Int))) (n2 : Int) : g77 (d + 1) l1 n2 =
 oif (decide (((IntKind.i64.wrap (n2 - ((l1.length : Nat) : Int))) : Int) < 0)) (
 some (-1)) (
 iterP (l77_0 d l1 (j77_0 d)) fuelN ((IntKind.i64.wrap (n2 - ((l1.length : Nat) : Int))), 0, 0)) := by kernel_rfl

theorem e78 (d : Nat) (l1 : List Int) (n2 : Int) : g78 (d + 1) l1 n2 =
 oif (decide (((IntKind.i64.wrap (n2 - ((l1.length : Nat) : Int))) : Int) < 0)) (
 some (-1)) (
 some (IntKind.i64.wrap (n2 - ((l1.length : Nat) : Int)))) := by kernel_rfl

theorem e28 (d : Nat) (x1 : (Int × Int × (List (List (Int × Int × Int × Int × Int × Int))) × (List Int) × Int × Bool)) (n2 : Int) : g28 (d + 1) x1 n2 =
 obind (g77 d x1.2.2.1 n2) fun r3 =>
 oif (decide ((r3 : Int) < 0)) (
 some (-1)) (
 obind (g78 d x1.2.2.2.1 r3) fun r4 =>
 oif (decide ((r4 : Int) < 0)) (
 some (-1)) (
 some r4)) := by kernel_rfl

theorem e92 (d : Nat) (x1 : (Int × Int × Int × Int × Int × Int)) : g92 (d + 1) x1 =
 some x1 := by kernel_rfl

noncomputable def j43_0 (d : Nat)  (l3 : List (Int × Int × Int × Int × Int × Int)) : Option (List (Int × Int × Int × Int × Int × Int)) :=
 some l3
noncomputable def l43_0_b (d : Nat) (l1 : List (Int × Int × Int × Int × Int × Int)) (kx43_0_0 : (List (Int × Int × Int × Int × Int × Int)) → Option (List (Int × Int × Int × Int × Int × Int))) (ag2 : (Int × (List (Int × Int × Int × Int × Int × Int))) → Option (List (Int × Int × Int × Int × Int × Int))) (n3 : Int) (l4 : List (Int × Int × Int × Int × Int × Int)) : Option (List (Int × Int × Int × Int × Int × Int)) :=
 oif (decide ((n3 : Int) < ((l1.length : Nat) : Int))) (
 oif (decide (0 ≤ (n3 : Int))) (
 obind (l1[(n3 : Int).toNat]?) fun x5 =>
 obind (g92 d x5) fun r6 =>
 oif (decide (0 ≤ (n3 : Int))) (
 oif (Nat.blt ((n3 : Int).toNat) l4.length) (
 obind (l4[(n3 : Int).toNat]?) fun x7 =>
 ag2 ((IntKind.i64.wrap (n3 + 1)), (l4.set ((n3 : Int).toNat) r6))) none) none) none) (
 kx43_0_0 l4)
noncomputable def l43_0 (d : Nat) (l1 : List (Int × Int × Int × Int × Int × Int)) (kx43_0_0 : (List (Int × Int × Int × Int × Int × Int)) → Option (List (Int × Int × Int × Int × Int × Int))) (ag2 : (Int × (List (Int × Int × Int × Int × Int × Int))) → Option (List (Int × Int × Int × Int × Int × Int))) (s : (Int × (List (Int × Int × Int × Int × Int × Int)))) : Option (List (Int × Int × Int × Int × Int × Int)) := l43_0_b d l1 kx43_0_0 ag2 s.1 s.2
theorem e43 (d : Nat) (l1 : List (Int × Int × Int × Int × Int × Int)) : g43 (d + 1) l1 =
 oif (decide (0 ≤ (((l1.length : Nat) : Int) : Int))) (
 oif (decide (0 ≤ (((l1.length : Nat) : Int) : Int))) (
 oif (Nat.ble ((((l1.length : Nat) : Int) : Int).toNat) ((((l1.length : Nat) : Int) : Int).toNat) && Nat.ble (((((l1.length : Nat) : Int) : Int).toNat) * 48) roomMax) (
 iterP (l43_0 d l1 (j43_0 d)) fuelN (0, (List.replicate ((((l1.length : Nat) : Int) : Int).toNat) ((0, 0, 0, 0, 0, 0) : (Int × Int × Int × Int × Int × Int))))) none) none) none := by kernel_rfl

noncomputable def j79_0 (d : Nat)  (l3 : List (List (Int × Int × Int × Int × Int × Int))) : Option (List (List (Int × Int × Int × Int × Int × Int))) :=
 some l3
noncomputable def l79_0_b (d : Nat) (l1 : List (List (Int × Int × Int × Int × Int × Int))) (kx79_0_0 : (List (List (Int × Int × Int × Int × Int × Int))) → Option (List (List (Int × Int × Int × Int × Int × Int)))) (ag2 : (Int × (List (List (Int × Int × Int × Int × Int × Int)))) → Option (List (List (Int × Int × Int × Int × Int × Int)))) (n3 : Int) (l4 : List (List (Int × Int × Int × Int × Int × Int))) : Option (List (List (Int × Int × Int × Int × Int × Int))) :=
 oif (decide ((n3 : Int) < ((l1.length : Nat) : Int))) (
 oif (decide (0 ≤ (n3 : Int))) (
 obind (l1[(n3 : Int).toNat]?) fun l5 =>
 obind (g43 d l5) fun r6 =>
 oif (decide (0 ≤ (n3 : Int))) (
 oif (Nat.blt ((n3 : Int).toNat) l4.length) (
 obind (l4[(n3 : Int).toNat]?) fun l7 =>
 ag2 ((IntKind.i64.wrap (n3 + 1)), (l4.set ((n3 : Int).toNat) r6))) none) none) none) (
 kx79_0_0 l4)
noncomputable def l79_0 (d : Nat) (l1 : List (List (Int × Int × Int × Int × Int × Int))) (kx79_0_0 : (List (List (Int × Int × Int × Int × Int × Int))) → Option (List (List (Int × Int × Int × Int × Int × Int)))) (ag2 : (Int × (List (List (Int × Int × Int × Int × Int × Int)))) → Option (List (List (Int × Int × Int × Int × Int × Int)))) (s : (Int × (List (List (Int × Int × Int × Int × Int × Int))))) : Option (List (List (Int × Int × Int × Int × Int × Int))) := l79_0_b d l1 kx79_0_0 ag2 s.1 s.2
theorem e79 (d : Nat) (l1 : List (List (Int × Int × Int × Int × Int × Int))) : g79 (d + 1) l1 =
 oif (decide (0 ≤ (((l1.length : Nat) : Int) : Int))) (
 oif (decide (0 ≤ (((l1.length : Nat) : Int) : Int))) (
 oif (Nat.ble ((((l1.length : Nat) : Int) : Int).toNat) ((((l1.length : Nat) : Int) : Int).toNat) && Nat.ble (((((l1.length : Nat) : Int) : Int).toNat) * 24) roomMax) (
 iterP (l79_0 d l1 (j79_0 d)) fuelN (0, (List.replicate ((((l1.length : Nat) : Int) : Int).toNat) ([] : List (Int × Int × Int × Int × Int × Int))))) none) none) none := by kernel_rfl

noncomputable def j80_0 (d : Nat)  (l3 : List Int) : Option (List Int) :=
 some l3
noncomputable def l80_0_b (d : Nat) (l1 : List Int) (kx80_0_0 : (List Int) → Option (List Int)) (ag2 : (Int × (List Int)) → Option (List Int)) (n3 : Int) (l4 : List Int) : Option (List Int) :=
 oif (decide ((n3 : Int) < ((l1.length : Nat) : Int))) (
 oif (decide (0 ≤ (n3 : Int))) (
 obind (l1[(n3 : Int).toNat]?) fun n5 =>
 oif (decide (0 ≤ (n3 : Int))) (
 oif (Nat.blt ((n3 : Int).toNat) l4.length) (
 obind (l4[(n3 : Int).toNat]?) fun n6 =>
 ag2 ((IntKind.i64.wrap (n3 + 1)), (l4.set ((n3 : Int).toNat) n5))) none) none) none) (
 kx80_0_0 l4)
noncomputable def l80_0 (d : Nat) (l1 : List Int) (kx80_0_0 : (List Int) → Option (List Int)) (ag2 : (Int × (List Int)) → Option (List Int)) (s : (Int × (List Int))) : Option (List Int) := l80_0_b d l1 kx80_0_0 ag2 s.1 s.2
theorem e80 (d : Nat) (l1 : List Int) : g80 (d + 1) l1 =
 oif (decide (0 ≤ (((l1.length : Nat) : Int) : Int))) (
 oif (decide (0 ≤ (((l1.length : Nat) : Int) : Int))) (
 oif (Nat.ble ((((l1.length : Nat) : Int) : Int).toNat) ((((l1.length : Nat) : Int) : Int).toNat) && Nat.ble (((((l1.length : Nat) : Int) : Int).toNat) * 8) roomMax) (
 iterP (l80_0 d l1 (j80_0 d)) fuelN (0, (List.replicate ((((l1.length : Nat) : Int) : Int).toNat) (0 : Int)))) none) none) none := by kernel_rfl

theorem e29 (d : Nat) (x1 : (Int × Int × (List (List (Int × Int × Int × Int × Int × Int))) × (List Int) × Int × Bool)) : g29 (d + 1) x1 =
 obind (g79 d x1.2.2.1) fun r2 =>
 obind (g80 d x1.2.2.2.1) fun r3 =>
 some (x1.1, x1.2.1, r2, r3, x1.2.2.2.2) := by kernel_rfl

noncomputable def j36_0 (d : Nat)  (b4 : Bool) : Option Bool :=
 some true
noncomputable def l36_0_b (d : Nat) (l1 : List Int) (l2 : List Int) (kx36_0_0 : Bool → Option Bool) (ag3 : (Bool × Int) → Option Bool) (b4 : Bool) (n5 : Int) : Option Bool :=
 oif (decide ((n5 : Int) < ((l1.length : Nat) : Int))) (
 oif (decide (0 ≤ (n5 : Int))) (
 obind (l1[(n5 : Int).toNat]?) fun n6 =>
 oif (decide (0 ≤ (n5 : Int))) (
 obind (l2[(n5 : Int).toNat]?) fun n7 =>
 oif ((n6 : Int) != n7) (
 some false) (
 ag3 (b4, (IntKind.i64.wrap (n5 + 1))))) none) none) (
 kx36_0_0 b4)
noncomputable def l36_0 (d : Nat) (l1 : List Int) (l2 : List Int) (kx36_0_0 : Bool → Option Bool) (ag3 : (Bool × Int) → Option Bool) (s : (Bool × Int)) : Option Bool := l36_0_b d l1 l2 kx36_0_0 ag3 s.1 s.2
theorem e36 (d : Nat) (l1 : List Int) (l2 : List Int) : g36 (d + 1) l1 l2 =
 oif ((((l1.length : Nat) : Int) : Int) != ((l2.length : Nat) : Int)) (
 some false) (
 iterP (l36_0 d l1 l2 (j36_0 d)) fuelN (false, 0)) := by kernel_rfl

theorem e31 (d : Nat) (x1 : (Int × Int × Int × Int × Int × Int)) (x2 : (Int × Int × Int × Int × Int × Int)) : g31 (d + 1) x1 x2 =
 oif ((x1.1 : Int) != x2.1) (
 some false) (
 oif ((x1.2.1 : Int) != x2.2.1) (
 some false) (
 oif ((x1.2.2.1 : Int) != x2.2.2.1) (
 some false) (
 oif ((x1.2.2.2.1 : Int) != x2.2.2.2.1) (
 some false) (
 oif ((x1.2.2.2.2.1 : Int) != x2.2.2.2.2.1) (
 some false) (
 oif ((x1.2.2.2.2.2 : Int) != x2.2.2.2.2.2) (
 some false) (
 some true)))))) := by kernel_rfl

noncomputable def j45_0 (d : Nat)  (b4 : Bool) : Option Bool :=
 some true
noncomputable def l45_0_b (d : Nat) (l1 : List (Int × Int × Int × Int × Int × Int)) (l2 : List (Int × Int × Int × Int × Int × Int)) (kx45_0_0 : Bool → Option Bool) (ag3 : (Bool × Int) → Option Bool) (b4 : Bool) (n5 : Int) : Option Bool :=
 oif (decide ((n5 : Int) < ((l1.length : Nat) : Int))) (
 oif (decide (0 ≤ (n5 : Int))) (
 obind (l1[(n5 : Int).toNat]?) fun x6 =>
 oif (decide (0 ≤ (n5 : Int))) (
 obind (l2[(n5 : Int).toNat]?) fun x7 =>
 obind (g31 d x6 x7) fun r8 =>
 oif (!r8) (
 some false) (
 ag3 (b4, (IntKind.i64.wrap (n5 + 1))))) none) none) (
 kx45_0_0 b4)
noncomputable def l45_0 (d : Nat) (l1 : List (Int × Int × Int × Int × Int × Int)) (l2 : List (Int × Int × Int × Int × Int × Int)) (kx45_0_0 : Bool → Option Bool) (ag3 : (Bool × Int) → Option Bool) (s : (Bool × Int)) : Option Bool := l45_0_b d l1 l2 kx45_0_0 ag3 s.1 s.2
theorem e45 (d : Nat) (l1 : List (Int × Int × Int × Int × Int × Int)) (l2 : List (Int × Int × Int × Int × Int × Int)) : g45 (d + 1) l1 l2 =
 oif ((((l1.length : Nat) : Int) : Int) != ((l2.length : Nat) : Int)) (
 some false) (
 iterP (l45_0 d l1 l2 (j45_0 d)) fuelN (false, 0)) := by kernel_rfl

noncomputable def j81_0 (d : Nat)  (b4 : Bool) : Option Bool :=
 some true
noncomputable def l81_0_b (d : Nat) (l1 : List (List (Int × Int × Int × Int × Int × Int))) (l2 : List (List (Int × Int × Int × Int × Int × Int))) (kx81_0_0 : Bool → Option Bool) (ag3 : (Bool × Int) → Option Bool) (b4 : Bool) (n5 : Int) : Option Bool :=
 oif (decide ((n5 : Int) < ((l1.length : Nat) : Int))) (
 oif (decide (0 ≤ (n5 : Int))) (
 obind (l1[(n5 : Int).toNat]?) fun l6 =>
 oif (decide (0 ≤ (n5 : Int))) (
 obind (l2[(n5 : Int).toNat]?) fun l7 =>
 obind (g45 d l6 l7) fun r8 =>
 oif (!r8) (
 some false) (
 ag3 (b4, (IntKind.i64.wrap (n5 + 1))))) none) none) (
 kx81_0_0 b4)
noncomputable def l81_0 (d : Nat) (l1 : List (List (Int × Int × Int × Int × Int × Int))) (l2 : List (List (Int × Int × Int × Int × Int × Int))) (kx81_0_0 : Bool → Option Bool) (ag3 : (Bool × Int) → Option Bool) (s : (Bool × Int)) : Option Bool := l81_0_b d l1 l2 kx81_0_0 ag3 s.1 s.2
theorem e81 (d : Nat) (l1 : List (List (Int × Int × Int × Int × Int × Int))) (l2 : List (List (Int × Int × Int × Int × Int × Int))) : g81 (d + 1) l1 l2 =
 oif ((((l1.length : Nat) : Int) : Int) != ((l2.length : Nat) : Int)) (
 some false) (
 iterP (l81_0 d l1 l2 (j81_0 d)) fuelN (false, 0)) := by kernel_rfl

theorem e30 (d : Nat) (x1 : (Int × Int × (List (List (Int × Int × Int × Int × Int × Int))) × (List Int) × Int × Bool)) (x2 : (Int × Int × (List (List (Int × Int × Int × Int × Int × Int))) × (List Int) × Int × Bool)) : g30 (d + 1) x1 x2 =
 oif ((x1.1 : Int) != x2.1) (
 some false) (
 oif ((x1.2.1 : Int) != x2.2.1) (
 some false) (
 obind (g81 d x1.2.2.1 x2.2.2.1) fun r3 =>
 oif (!r3) (
 some false) (
 obind (g36 d x1.2.2.2.1 x2.2.2.2.1) fun r4 =>
 oif (!r4) (
 some false) (
 oif ((x1.2.2.2.2.1 : Int) != x2.2.2.2.2.1) (
 some false) (
 oif (!(x1.2.2.2.2.2 == x2.2.2.2.2.2)) (
 some false) (
 some true)))))) := by kernel_rfl

noncomputable def j38_0 (d : Nat)  (n4 : Int) (n5 : Int) : Option Int :=
 some n4
noncomputable def l38_0_b (d : Nat) (l1 : List Int) (kx38_0_0 : Int → Int → Option Int) (ag3 : (Int × Int × Int) → Option Int) (n4 : Int) (n5 : Int) (n6 : Int) : Option Int :=
 oif (decide ((n6 : Int) < ((l1.length : Nat) : Int))) (
 oif (decide (0 ≤ (n6 : Int))) (
 obind (l1[(n6 : Int).toNat]?) fun n7 =>
 oif ((n7 : Int) != n4) (
 some (-1)) (
 ag3 ((IntKind.i64.wrap (n4 + 1)), n5, (IntKind.i64.wrap (n6 + 1))))) none) (
 kx38_0_0 n4 n5)
noncomputable def l38_0 (d : Nat) (l1 : List Int) (kx38_0_0 : Int → Int → Option Int) (ag3 : (Int × Int × Int) → Option Int) (s : (Int × Int × Int)) : Option Int := l38_0_b d l1 kx38_0_0 ag3 s.1 s.2.1 s.2.2
theorem e38 (d : Nat) (l1 : List Int) (n2 : Int) : g38 (d + 1) l1 n2 =
 iterP (l38_0 d l1 (j38_0 d)) fuelN (n2, 0, 0) := by kernel_rfl

noncomputable def j115_0 (d : Nat)  (n4 : Int) (n5 : Int) : Option Int :=
 some n4
noncomputable def l115_0_b (d : Nat) (l1 : List (Int × Int × Int × Int × Int × Int)) (kx115_0_0 : Int → Int → Option Int) (ag3 : (Int × Int × Int) → Option Int) (n4 : Int) (n5 : Int) (n6 : Int) : Option Int :=
 oif (decide ((n6 : Int) < ((l1.length : Nat) : Int))) (
 oif (decide (0 ≤ (n6 : Int))) (
 obind (l1[(n6 : Int).toNat]?) fun x7 =>
 oif ((x7.1 : Int) != n4) (
 some (-1)) (
 oif (decide (0 ≤ (n6 : Int))) (
 obind (l1[(n6 : Int).toNat]?) fun x8 =>
 oif ((x8.2.1 : Int) != (IntKind.i64.wrap (n4 + 1))) (
 some (-1)) (
 oif (decide (0 ≤ (n6 : Int))) (
 obind (l1[(n6 : Int).toNat]?) fun x9 =>
 oif ((x9.2.2.1 : Int) != (IntKind.i64.wrap ((IntKind.i64.wrap (n4 + 1)) + 1))) (
 some (-1)) (
 oif (decide (0 ≤ (n6 : Int))) (
 obind (l1[(n6 : Int).toNat]?) fun x10 =>
 oif ((x10.2.2.2.1 : Int) != (IntKind.i64.wrap ((IntKind.i64.wrap ((IntKind.i64.wrap (n4 + 1)) + 1)) + 1))) (
 some (-1)) (
 oif (decide (0 ≤ (n6 : Int))) (
 obind (l1[(n6 : Int).toNat]?) fun x11 =>
 oif ((x11.2.2.2.2.1 : Int) != (IntKind.i64.wrap ((IntKind.i64.wrap ((IntKind.i64.wrap ((IntKind.i64.wrap (n4 + 1)) + 1)) + 1)) + 1))) (
 some (-1)) (
 oif (decide (0 ≤ (n6 : Int))) (
 obind (l1[(n6 : Int).toNat]?) fun x12 =>
 oif ((x12.2.2.2.2.2 : Int) != (IntKind.i64.wrap ((IntKind.i64.wrap ((IntKind.i64.wrap ((IntKind.i64.wrap ((IntKind.i64.wrap (n4 + 1)) + 1)) + 1)) + 1)) + 1))) (
 some (-1)) (
 ag3 ((IntKind.i64.wrap ((IntKind.i64.wrap ((IntKind.i64.wrap ((IntKind.i64.wrap ((IntKind.i64.wrap ((IntKind.i64.wrap (n4 + 1)) + 1)) + 1)) + 1)) + 1)) + 1)), n5, (IntKind.i64.wrap (n6 + 1))))) none)) none)) none)) none)) none)) none) (
 kx115_0_0 n4 n5)
noncomputable def l115_0 (d : Nat) (l1 : List (Int × Int × Int × Int × Int × Int)) (kx115_0_0 : Int → Int → Option Int) (ag3 : (Int × Int × Int) → Option Int) (s : (Int × Int × Int)) : Option Int := l115_0_b d l1 kx115_0_0 ag3 s.1 s.2.1 s.2.2
theorem e115 (d : Nat) (l1 : List (Int × Int × Int × Int × Int × Int)) (n2 : Int) : g115 (d + 1) l1 n2 =
 iterP (l115_0 d l1 (j115_0 d)) fuelN (n2, 0, 0) := by kernel_rfl

noncomputable def j83_0 (d : Nat)  (n4 : Int) (n5 : Int) : Option Int :=
 some n4
noncomputable def l83_0_b (d : Nat) (l1 : List (List (Int × Int × Int × Int × Int × Int))) (kx83_0_0 : Int → Int → Option Int) (ag3 : (Int × Int × Int) → Option Int) (n4 : Int) (n5 : Int) (n6 : Int) : Option Int :=
 oif (decide ((n6 : Int) < ((l1.length : Nat) : Int))) (
 oif (decide (0 ≤ (n6 : Int))) (
 obind (l1[(n6 : Int).toNat]?) fun l7 =>
 obind (g115 d l7 n4) fun r8 =>
 oif (decide ((r8 : Int) < 0)) (
 some (-1)) (
 ag3 (r8, n5, (IntKind.i64.wrap (n6 + 1))))) none) (
 kx83_0_0 n4 n5)
noncomputable def l83_0 (d : Nat) (l1 : List (List (Int × Int × Int × Int × Int × Int))) (kx83_0_0 : Int → Int → Option Int) (ag3 : (Int × Int × Int) → Option Int) (s : (Int × Int × Int)) : Option Int := l83_0_b d l1 kx83_0_0 ag3 s.1 s.2.1 s.2.2
theorem e83 (d : Nat) (l1 : List (List (Int × Int × Int × Int × Int × Int))) (n2 : Int) : g83 (d + 1) l1 n2 =
 iterP (l83_0 d l1 (j83_0 d)) fuelN (n2, 0, 0) := by kernel_rfl

theorem e33 (d : Nat) (x1 : (Int × Int × (List (List (Int × Int × Int × Int × Int × Int))) × (List Int) × Int × Bool)) (n2 : Int) : g33 (d + 1) x1 n2 =
 obind (g83 d x1.2.2.1 n2) fun r3 =>
 oif (decide ((r3 : Int) < 0)) (
 some (-1)) (
 obind (g38 d x1.2.2.2.1 r3) fun r4 =>
 oif (decide ((r4 : Int) < 0)) (
 some (-1)) (
 some r4)) := by kernel_rfl

noncomputable def j37_0 (d : Nat)  (n4 : Int) (l5 : List Int) : Option (Int × (List Int)) :=
 some (n4, l5)
noncomputable def l37_0_b (d : Nat)  (kx37_0_0 : Int → (List Int) → Option (Int × (List Int))) (ag3 : (Int × Int × (List Int)) → Option (Int × (List Int))) (n4 : Int) (n5 : Int) (l6 : List Int) : Option (Int × (List Int)) :=
 oif (decide ((n5 : Int) < ((l6.length : Nat) : Int))) (
 oif (decide (0 ≤ (n5 : Int))) (
 oif (Nat.blt ((n5 : Int).toNat) l6.length) (
 obind (l6[(n5 : Int).toNat]?) fun n7 =>
 ag3 ((IntKind.i64.wrap (n4 + 1)), (IntKind.i64.wrap (n5 + 1)), (l6.set ((n5 : Int).toNat) n4))) none) none) (
 kx37_0_0 n4 l6)
noncomputable def l37_0 (d : Nat)  (kx37_0_0 : Int → (List Int) → Option (Int × (List Int))) (ag3 : (Int × Int × (List Int)) → Option (Int × (List Int))) (s : (Int × Int × (List Int))) : Option (Int × (List Int)) := l37_0_b d kx37_0_0 ag3 s.1 s.2.1 s.2.2
theorem e37 (d : Nat) (l1 : List Int) (n2 : Int) : g37 (d + 1) l1 n2 =
 iterP (l37_0 d (j37_0 d)) fuelN (n2, 0, l1) := by kernel_rfl

noncomputable def j46_0 (d : Nat)  (n4 : Int) (l5 : List (Int × Int × Int × Int × Int × Int)) : Option (Int × (List (Int × Int × Int × Int × Int × Int))) :=
 some (n4, l5)
noncomputable def l46_0_b (d : Nat)  (kx46_0_0 : Int → (List (Int × Int × Int × Int × Int × Int)) → Option (Int × (List (Int × Int × Int × Int × Int × Int)))) (ag3 : (Int × Int × (List (Int × Int × Int × Int × Int × Int))) → Option (Int × (List (Int × Int × Int × Int × Int × Int)))) (n4 : Int) (n5 : Int) (l6 : List (Int × Int × Int × Int × Int × Int)) : Option (Int × (List (Int × Int × Int × Int × Int × Int))) :=
 oif (decide ((n5 : Int) < ((l6.length : Nat) : Int))) (
 oif (decide (0 ≤ (n5 : Int))) (
 oif (Nat.blt ((n5 : Int).toNat) l6.length) (
 obind (l6[(n5 : Int).toNat]?) fun x7 =>
 oif (decide (0 ≤ (n5 : Int))) (
 oif (Nat.blt ((n5 : Int).toNat) ((l6.set ((n5 : Int).toNat) (n4, x7.2)).length)) (
 obind ((l6.set ((n5 : Int).toNat) (n4, x7.2))[(n5 : Int).toNat]?) fun x8 =>
 oif (decide (0 ≤ (n5 : Int))) (
 oif (Nat.blt ((n5 : Int).toNat) (((l6.set ((n5 : Int).toNat) (n4, x7.2)).set ((n5 : Int).toNat) (x8.1, (IntKind.i64.wrap (n4 + 1)), x8.2.2)).length)) (
 obind (((l6.set ((n5 : Int).toNat) (n4, x7.2)).set ((n5 : Int).toNat) (x8.1, (IntKind.i64.wrap (n4 + 1)), x8.2.2))[(n5 : Int).toNat]?) fun x9 =>
 oif (decide (0 ≤ (n5 : Int))) (
 oif (Nat.blt ((n5 : Int).toNat) ((((l6.set ((n5 : Int).toNat) (n4, x7.2)).set ((n5 : Int).toNat) (x8.1, (IntKind.i64.wrap (n4 + 1)), x8.2.2)).set ((n5 : Int).toNat) (x9.1, x9.2.1, (IntKind.i64.wrap ((IntKind.i64.wrap (n4 + 1)) + 1)), x9.2.2.2)).length)) (
 obind ((((l6.set ((n5 : Int).toNat) (n4, x7.2)).set ((n5 : Int).toNat) (x8.1, (IntKind.i64.wrap (n4 + 1)), x8.2.2)).set ((n5 : Int).toNat) (x9.1, x9.2.1, (IntKind.i64.wrap ((IntKind.i64.wrap (n4 + 1)) + 1)), x9.2.2.2))[(n5 : Int).toNat]?) fun x10 =>
 oif (decide (0 ≤ (n5 : Int))) (
 oif (Nat.blt ((n5 : Int).toNat) (((((l6.set ((n5 : Int).toNat) (n4, x7.2)).set ((n5 : Int).toNat) (x8.1, (IntKind.i64.wrap (n4 + 1)), x8.2.2)).set ((n5 : Int).toNat) (x9.1, x9.2.1, (IntKind.i64.wrap ((IntKind.i64.wrap (n4 + 1)) + 1)), x9.2.2.2)).set ((n5 : Int).toNat) (x10.1, x10.2.1, x10.2.2.1, (IntKind.i64.wrap ((IntKind.i64.wrap ((IntKind.i64.wrap (n4 + 1)) + 1)) + 1)), x10.2.2.2.2)).length)) (
 obind (((((l6.set ((n5 : Int).toNat) (n4, x7.2)).set ((n5 : Int).toNat) (x8.1, (IntKind.i64.wrap (n4 + 1)), x8.2.2)).set ((n5 : Int).toNat) (x9.1, x9.2.1, (IntKind.i64.wrap ((IntKind.i64.wrap (n4 + 1)) + 1)), x9.2.2.2)).set ((n5 : Int).toNat) (x10.1, x10.2.1, x10.2.2.1, (IntKind.i64.wrap ((IntKind.i64.wrap ((IntKind.i64.wrap (n4 + 1)) + 1)) + 1)), x10.2.2.2.2))[(n5 : Int).toNat]?) fun x11 =>
 oif (decide (0 ≤ (n5 : Int))) (
 oif (Nat.blt ((n5 : Int).toNat) ((((((l6.set ((n5 : Int).toNat) (n4, x7.2)).set ((n5 : Int).toNat) (x8.1, (IntKind.i64.wrap (n4 + 1)), x8.2.2)).set ((n5 : Int).toNat) (x9.1, x9.2.1, (IntKind.i64.wrap ((IntKind.i64.wrap (n4 + 1)) + 1)), x9.2.2.2)).set ((n5 : Int).toNat) (x10.1, x10.2.1, x10.2.2.1, (IntKind.i64.wrap ((IntKind.i64.wrap ((IntKind.i64.wrap (n4 + 1)) + 1)) + 1)), x10.2.2.2.2)).set ((n5 : Int).toNat) (x11.1, x11.2.1, x11.2.2.1, x11.2.2.2.1, (IntKind.i64.wrap ((IntKind.i64.wrap ((IntKind.i64.wrap ((IntKind.i64.wrap (n4 + 1)) + 1)) + 1)) + 1)), x11.2.2.2.2.2)).length)) (
 obind ((((((l6.set ((n5 : Int).toNat) (n4, x7.2)).set ((n5 : Int).toNat) (x8.1, (IntKind.i64.wrap (n4 + 1)), x8.2.2)).set ((n5 : Int).toNat) (x9.1, x9.2.1, (IntKind.i64.wrap ((IntKind.i64.wrap (n4 + 1)) + 1)), x9.2.2.2)).set ((n5 : Int).toNat) (x10.1, x10.2.1, x10.2.2.1, (IntKind.i64.wrap ((IntKind.i64.wrap ((IntKind.i64.wrap (n4 + 1)) + 1)) + 1)), x10.2.2.2.2)).set ((n5 : Int).toNat) (x11.1, x11.2.1, x11.2.2.1, x11.2.2.2.1, (IntKind.i64.wrap ((IntKind.i64.wrap ((IntKind.i64.wrap ((IntKind.i64.wrap (n4 + 1)) + 1)) + 1)) + 1)), x11.2.2.2.2.2))[(n5 : Int).toNat]?) fun x12 =>
 ag3 ((IntKind.i64.wrap ((IntKind.i64.wrap ((IntKind.i64.wrap ((IntKind.i64.wrap ((IntKind.i64.wrap ((IntKind.i64.wrap (n4 + 1)) + 1)) + 1)) + 1)) + 1)) + 1)), (IntKind.i64.wrap (n5 + 1)), ((((((l6.set ((n5 : Int).toNat) (n4, x7.2)).set ((n5 : Int).toNat) (x8.1, (IntKind.i64.wrap (n4 + 1)), x8.2.2)).set ((n5 : Int).toNat) (x9.1, x9.2.1, (IntKind.i64.wrap ((IntKind.i64.wrap (n4 + 1)) + 1)), x9.2.2.2)).set ((n5 : Int).toNat) (x10.1, x10.2.1, x10.2.2.1, (IntKind.i64.wrap ((IntKind.i64.wrap ((IntKind.i64.wrap (n4 + 1)) + 1)) + 1)), x10.2.2.2.2)).set ((n5 : Int).toNat) (x11.1, x11.2.1, x11.2.2.1, x11.2.2.2.1, (IntKind.i64.wrap ((IntKind.i64.wrap ((IntKind.i64.wrap ((IntKind.i64.wrap (n4 + 1)) + 1)) + 1)) + 1)), x11.2.2.2.2.2)).set ((n5 : Int).toNat) (x12.1, x12.2.1, x12.2.2.1, x12.2.2.2.1, x12.2.2.2.2.1, (IntKind.i64.wrap ((IntKind.i64.wrap ((IntKind.i64.wrap ((IntKind.i64.wrap ((IntKind.i64.wrap (n4 + 1)) + 1)) + 1)) + 1)) + 1)))))) none) none) none) none) none) none) none) none) none) none) none) none) (
 kx46_0_0 n4 l6)
noncomputable def l46_0 (d : Nat)  (kx46_0_0 : Int → (List (Int × Int × Int × Int × Int × Int)) → Option (Int × (List (Int × Int × Int × Int × Int × Int)))) (ag3 : (Int × Int × (List (Int × Int × Int × Int × Int × Int))) → Option (Int × (List (Int × Int × Int × Int × Int × Int)))) (s : (Int × Int × (List (Int × Int × Int × Int × Int × Int)))) : Option (Int × (List (Int × Int × Int × Int × Int × Int))) := l46_0_b d kx46_0_0 ag3 s.1 s.2.1 s.2.2
theorem e46 (d : Nat) (l1 : List (Int × Int × Int × Int × Int × Int)) (n2 : Int) : g46 (d + 1) l1 n2 =
 iterP (l46_0 d (j46_0 d)) fuelN (n2, 0, l1) := by kernel_rfl

noncomputable def j4_0 (d : Nat) (r6 : ((Int × Int × (List (List (Int × Int × Int × Int × Int × Int))) × (List Int) × Int × Bool) × (Int × Int × Int × Int × Int × Int) × Bool)) (l17 : List (List (Int × Int × Int × Int × Int × Int))) (r18 : (Int × (List Int))) (b22 : Bool) : Option Bool :=
 oif b22 (
 some false) (
 obind (g33 (d + 2) (r6.1.1, r6.1.2.1, l17, r18.2, r6.1.2.2.2.2) 1) fun r23 =>
 oif (decide ((r23 : Int) < 0)) (
 some false) (
 oif ((r23 : Int) != r18.1) (
 some false) (
 some true)))
noncomputable def j4i32i82_0 (d : Nat) (x1 : (Int × Int × (List (List (Int × Int × Int × Int × Int × Int))) × (List Int) × Int × Bool)) (r4 : ((Int × Int × (List (List (Int × Int × Int × Int × Int × Int))) × (List Int) × Int × Bool) × (Int × Int × Int × Int × Int × Int) × Bool)) (r6 : ((Int × Int × (List (List (Int × Int × Int × Int × Int × Int))) × (List Int) × Int × Bool) × (Int × Int × Int × Int × Int × Int) × Bool)) (n16 : Int) (l17 : List (List (Int × Int × Int × Int × Int × Int))) : Option Bool :=
 obind (g37 (d + 1) r6.1.2.2.2.1 n16) fun r18 =>
 obind (g33 (d + 2) (r6.1.1, r6.1.2.1, l17, r18.2, r6.1.2.2.2.2) 1) fun r19 =>
 oif (decide ((r19 : Int) < 0)) (
 some false) (
 oif ((r19 : Int) != r18.1) (
 some false) (
 obind (g29 (d + 2) x1) fun r20 =>
 obind (g26 (d + 2) r20) fun r21 =>
 obind (g30 (d + 2) r21.1 r4.1) fun r22 =>
 oif (!r22) (
 j4_0 d r6 l17 r18 true) (
 obind (g31 (d + 2) r21.2.1 r4.2.1) fun r23 =>
 oif (!r23) (
 j4_0 d r6 l17 r18 true) (
 j4_0 d r6 l17 r18 (!(r21.2.2 == r4.2.2))))))
noncomputable def l4i32i82_0_b (d : Nat)  (kx4i32i82_0_0 : Int → (List (List (Int × Int × Int × Int × Int × Int))) → Option Bool) (ag15 : (Int × Int × (List (List (Int × Int × Int × Int × Int × Int)))) → Option Bool) (n16 : Int) (n17 : Int) (l18 : List (List (Int × Int × Int × Int × Int × Int))) : Option Bool :=
 oif (decide ((n17 : Int) < ((l18.length : Nat) : Int))) (
 oif (decide (0 ≤ (n17 : Int))) (
 oif (Nat.blt ((n17 : Int).toNat) l18.length) (
 obind (l18[(n17 : Int).toNat]?) fun l19 =>
 obind (l18[(n17 : Int).toNat]?) fun l20 =>
 oif (Nat.beq l20.length l19.length) (
 obind (g46 d l19 n16) fun r21 =>
 ag15 (r21.1, (IntKind.i64.wrap (n17 + 1)), (l18.set ((n17 : Int).toNat) r21.2))) none) none) none) (
 kx4i32i82_0_0 n16 l18)
noncomputable def l4i32i82_0 (d : Nat)  (kx4i32i82_0_0 : Int → (List (List (Int × Int × Int × Int × Int × Int))) → Option Bool) (ag15 : (Int × Int × (List (List (Int × Int × Int × Int × Int × Int)))) → Option Bool) (s : (Int × Int × (List (List (Int × Int × Int × Int × Int × Int))))) : Option Bool := l4i32i82_0_b d kx4i32i82_0_0 ag15 s.1 s.2.1 s.2.2
noncomputable def j4_1 (d : Nat) (x1 : (Int × Int × (List (List (Int × Int × Int × Int × Int × Int))) × (List Int) × Int × Bool)) (r4 : ((Int × Int × (List (List (Int × Int × Int × Int × Int × Int))) × (List Int) × Int × Bool) × (Int × Int × Int × Int × Int × Int) × Bool)) (r6 : ((Int × Int × (List (List (Int × Int × Int × Int × Int × Int))) × (List Int) × Int × Bool) × (Int × Int × Int × Int × Int × Int) × Bool)) (b14 : Bool) : Option Bool :=
 oif b14 (
 some false) (
 iterP (l4i32i82_0 d (j4i32i82_0 d x1 r4 r6)) fuelN (1, 0, r6.1.2.2.1))
noncomputable def j4i32i82_1 (d : Nat) (x1 : (Int × Int × (List (List (Int × Int × Int × Int × Int × Int))) × (List Int) × Int × Bool)) (r4 : ((Int × Int × (List (List (Int × Int × Int × Int × Int × Int))) × (List Int) × Int × Bool) × (Int × Int × Int × Int × Int × Int) × Bool)) (r5 : (Int × Int × (List (List (Int × Int × Int × Int × Int × Int))) × (List Int) × Int × Bool)) (r6 : ((Int × Int × (List (List (Int × Int × Int × Int × Int × Int))) × (List Int) × Int × Bool) × (Int × Int × Int × Int × Int × Int) × Bool)) (n11 : Int) (l12 : List (List (Int × Int × Int × Int × Int × Int))) : Option Bool :=
 obind (g37 (d + 1) r5.2.2.2.1 n11) fun r13 =>
 oif (decide ((r13.1 : Int) < 0)) (
 j4_1 d x1 r4 r6 true) (
 obind (g30 (d + 2) r6.1 r4.1) fun r14 =>
 oif (!r14) (
 j4_1 d x1 r4 r6 true) (
 obind (g31 (d + 2) r6.2.1 r4.2.1) fun r15 =>
 oif (!r15) (
 j4_1 d x1 r4 r6 true) (
 j4_1 d x1 r4 r6 (!(r6.2.2 == r4.2.2)))))
noncomputable def l4i32i82_0x_b (d : Nat)  (kx4i32i82_0_0 : Int → (List (List (Int × Int × Int × Int × Int × Int))) → Option Bool) (ag10 : (Int × Int × (List (List (Int × Int × Int × Int × Int × Int)))) → Option Bool) (n11 : Int) (n12 : Int) (l13 : List (List (Int × Int × Int × Int × Int × Int))) : Option Bool :=
 oif (decide ((n12 : Int) < ((l13.length : Nat) : Int))) (
 oif (decide (0 ≤ (n12 : Int))) (
 oif (Nat.blt ((n12 : Int).toNat) l13.length) (
 obind (l13[(n12 : Int).toNat]?) fun l14 =>
 obind (l13[(n12 : Int).toNat]?) fun l15 =>
 oif (Nat.beq l15.length l14.length) (
 obind (g46 d l14 n11) fun r16 =>
 ag10 (r16.1, (IntKind.i64.wrap (n12 + 1)), (l13.set ((n12 : Int).toNat) r16.2))) none) none) none) (
 kx4i32i82_0_0 n11 l13)
noncomputable def l4i32i82_0x (d : Nat)  (kx4i32i82_0_0 : Int → (List (List (Int × Int × Int × Int × Int × Int))) → Option Bool) (ag10 : (Int × Int × (List (List (Int × Int × Int × Int × Int × Int)))) → Option Bool) (s : (Int × Int × (List (List (Int × Int × Int × Int × Int × Int))))) : Option Bool := l4i32i82_0x_b d kx4i32i82_0_0 ag10 s.1 s.2.1 s.2.2
noncomputable def j4_2 (d : Nat) (x1 : (Int × Int × (List (List (Int × Int × Int × Int × Int × Int))) × (List Int) × Int × Bool)) (r4 : ((Int × Int × (List (List (Int × Int × Int × Int × Int × Int))) × (List Int) × Int × Bool) × (Int × Int × Int × Int × Int × Int) × Bool)) (r5 : (Int × Int × (List (List (Int × Int × Int × Int × Int × Int))) × (List Int) × Int × Bool)) (r6 : ((Int × Int × (List (List (Int × Int × Int × Int × Int × Int))) × (List Int) × Int × Bool) × (Int × Int × Int × Int × Int × Int) × Bool)) (b7 : Bool) : Option Bool :=
 oif b7 (
 some false) (
 obind (g29 (d + 2) x1) fun r8 =>
 obind (g30 (d + 2) r5 r8) fun r9 =>
 oif (!r9) (
 some false) (
 iterP (l4i32i82_0x d (j4i32i82_1 d x1 r4 r5 r6)) fuelN (1, 0, r5.2.2.1)))
theorem e4 (d : Nat) (x1 : (Int × Int × (List (List (Int × Int × Int × Int × Int × Int))) × (List Int) × Int × Bool)) : g4 (d + 3) x1 =
 obind (g28 (d + 2) x1 1048576) fun r2 =>
 oif (decide ((r2 : Int) < 0)) (
 some true) (
 obind (g29 (d + 2) x1) fun r3 =>
 obind (g27 (d + 2) r3) fun r4 =>
 obind (g29 (d + 2) x1) fun r5 =>
 obind (g26 (d + 2) r5) fun r6 =>
 obind (g30 (d + 2) r6.1 r4.1) fun r7 =>
 oif (!r7) (
 j4_2 d x1 r4 r5 r6 true) (
 obind (g31 (d + 2) r6.2.1 r4.2.1) fun r8 =>
 oif (!r8) (
 j4_2 d x1 r4 r5 r6 true) (
 j4_2 d x1 r4 r5 r6 (!(r6.2.2 == r4.2.2))))) := by kernel_rfl

end Go.Proofs.Ytdogommoghjncaa
