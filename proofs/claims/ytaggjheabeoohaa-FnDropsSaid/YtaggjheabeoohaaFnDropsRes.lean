/-
  The residual forms of the program's functions under the interpreter by value, printed by program (wip/pv/gen2.py); each equation is checked by the kernel.
  Conditions: none.
-/
import Derived.Test.YtaggjheabeoohaaVDef
import Derived.Test.YtaggjheabeoohaaProg
import Derived.Test.YtaggjheabeoohaaDelW
import Derived.KernelRfl
set_option linter.all false
set_option maxRecDepth 1000000
namespace Go.Proofs.Ytaggjheabeoohaa
open Go.Ev Go.Pv

theorem fuel_is : ∃ n : Nat, n = 4194304 := ⟨_, rfl⟩
noncomputable def fuelN : Nat := Classical.choose fuel_is
theorem fuelN_eq : fuelN = 4194304 := Classical.choose_spec fuel_is
def pvSig : FuncId → Sig
  | 7 => ⟨[(.ro, (.sl (.int .u8))), (.ro, (.sl (.int .u8)))], [(false, .bool)]⟩
  | 53 => ⟨[(.ro, (.sl (.int .u8))), (.ro, (.sl (.int .u8)))], [(false, .bool)]⟩
  | 70 => ⟨[(.ro, (.sl (.int .u8)))], [(false, (.pair (.int .i64) (.pair (.int .i64) (.pair (.os (.pair (.int .i64) (.pair (.int .i64) (.pair (.int .i64) (.pair (.int .i64) (.pair (.int .i64) (.int .i64))))))) (.pair (.int .i64) (.int .i64)))))), (false, (.pair (.int .i64) (.pair (.int .i64) (.pair (.int .i64) (.pair (.int .i64) (.pair (.int .i64) (.int .i64)))))))]⟩
  | 71 => ⟨[(.ro, (.pair (.int .i64) (.pair (.int .i64) (.pair (.sl (.pair (.int .i64) (.pair (.int .i64) (.pair (.int .i64) (.pair (.int .i64) (.pair (.int .i64) (.int .i64))))))) (.pair (.int .i64) (.int .i64)))))), (.ro, (.pair (.int .i64) (.pair (.int .i64) (.pair (.int .i64) (.pair (.int .i64) (.pair (.int .i64) (.int .i64)))))))], [(false, (.pair (.int .i64) (.pair (.int .i64) (.pair (.os (.pair (.int .i64) (.pair (.int .i64) (.pair (.int .i64) (.pair (.int .i64) (.pair (.int .i64) (.int .i64))))))) (.pair (.int .i64) (.int .i64)))))), (true, (.sl (.int .i64))), (false, .bool)]⟩
  | 72 => ⟨[(.ro, (.pair (.int .i64) (.pair (.int .i64) (.pair (.sl (.pair (.int .i64) (.pair (.int .i64) (.pair (.int .i64) (.pair (.int .i64) (.pair (.int .i64) (.int .i64))))))) (.pair (.int .i64) (.int .i64)))))), (.ro, (.pair (.int .i64) (.pair (.int .i64) (.pair (.int .i64) (.pair (.int .i64) (.pair (.int .i64) (.int .i64)))))))], [(false, (.pair (.int .i64) (.pair (.int .i64) (.pair (.sl (.pair (.int .i64) (.pair (.int .i64) (.pair (.int .i64) (.pair (.int .i64) (.pair (.int .i64) (.int .i64))))))) (.pair (.int .i64) (.int .i64)))))), (true, (.sl (.int .i64))), (false, .bool)]⟩
  | 73 => ⟨[(.ro, (.sl (.int .i64))), (.ro, (.sl (.int .i64)))], [(false, .bool)]⟩
  | 74 => ⟨[(.ro, (.pair (.int .i64) (.pair (.int .i64) (.pair (.sl (.pair (.int .i64) (.pair (.int .i64) (.pair (.int .i64) (.pair (.int .i64) (.pair (.int .i64) (.int .i64))))))) (.pair (.int .i64) (.int .i64)))))), (.ro, (.pair (.int .i64) (.pair (.int .i64) (.pair (.sl (.pair (.int .i64) (.pair (.int .i64) (.pair (.int .i64) (.pair (.int .i64) (.pair (.int .i64) (.int .i64))))))) (.pair (.int .i64) (.int .i64))))))], [(false, .bool)]⟩
  | 75 => ⟨[(.ro, (.sl (.int .u8)))], [(false, (.pair (.int .i64) (.pair (.int .i64) (.pair (.os (.pair (.int .i64) (.pair (.int .i64) (.pair (.int .i64) (.pair (.int .i64) (.pair (.int .i64) (.int .i64))))))) (.pair (.int .i64) (.int .i64)))))), (false, (.pair (.int .i64) (.pair (.int .i64) (.pair (.int .i64) (.pair (.int .i64) (.pair (.int .i64) (.int .i64)))))))]⟩
  | 76 => ⟨[(.ro, (.pair (.int .i64) (.pair (.int .i64) (.pair (.sl (.pair (.int .i64) (.pair (.int .i64) (.pair (.int .i64) (.pair (.int .i64) (.pair (.int .i64) (.int .i64))))))) (.pair (.int .i64) (.int .i64)))))), (.ro, (.pair (.int .i64) (.pair (.int .i64) (.pair (.int .i64) (.pair (.int .i64) (.pair (.int .i64) (.int .i64)))))))], [(false, (.pair (.int .i64) (.pair (.int .i64) (.pair (.os (.pair (.int .i64) (.pair (.int .i64) (.pair (.int .i64) (.pair (.int .i64) (.pair (.int .i64) (.int .i64))))))) (.pair (.int .i64) (.int .i64)))))), (true, (.sl (.int .i64))), (false, .bool)]⟩
  | 77 => ⟨[(.ro, (.pair (.int .i64) (.pair (.int .i64) (.pair (.sl (.pair (.int .i64) (.pair (.int .i64) (.pair (.int .i64) (.pair (.int .i64) (.pair (.int .i64) (.int .i64))))))) (.pair (.int .i64) (.int .i64)))))), (.ro, (.pair (.int .i64) (.pair (.int .i64) (.pair (.int .i64) (.pair (.int .i64) (.pair (.int .i64) (.int .i64)))))))], [(false, (.pair (.int .i64) (.pair (.int .i64) (.pair (.sl (.pair (.int .i64) (.pair (.int .i64) (.pair (.int .i64) (.pair (.int .i64) (.pair (.int .i64) (.int .i64))))))) (.pair (.int .i64) (.int .i64)))))), (true, (.sl (.int .i64))), (false, .bool)]⟩
  | 78 => ⟨[(.ro, (.pair (.int .i64) (.pair (.int .i64) (.pair (.int .i64) (.pair (.int .i64) (.pair (.int .i64) (.int .i64))))))), (.ro, (.pair (.int .i64) (.pair (.int .i64) (.pair (.int .i64) (.pair (.int .i64) (.pair (.int .i64) (.int .i64)))))))], [(false, .bool), (false, .bool)]⟩
  | 79 => ⟨[(.ro, (.sl (.int .u8)))], [(false, (.pair (.int .i64) (.pair (.int .i64) (.pair (.os (.pair (.int .i64) (.pair (.int .i64) (.pair (.int .i64) (.pair (.int .i64) (.pair (.int .i64) (.int .i64))))))) (.pair (.int .i64) (.int .i64)))))), (false, (.int .i64)), (false, (.int .i64))]⟩
  | 80 => ⟨[(.ro, (.pair (.int .i64) (.pair (.int .i64) (.pair (.sl (.pair (.int .i64) (.pair (.int .i64) (.pair (.int .i64) (.pair (.int .i64) (.pair (.int .i64) (.int .i64))))))) (.pair (.int .i64) (.int .i64)))))), (.ro, (.int .i64)), (.ro, (.int .i64))], [(false, (.int .i64)), (false, .bool)]⟩
  | 81 => ⟨[(.ro, (.pair (.int .i64) (.pair (.int .i64) (.pair (.sl (.pair (.int .i64) (.pair (.int .i64) (.pair (.int .i64) (.pair (.int .i64) (.pair (.int .i64) (.int .i64))))))) (.pair (.int .i64) (.int .i64)))))), (.ro, (.int .i64)), (.ro, (.int .i64))], [(false, (.int .i64)), (false, .bool)]⟩
  | 82 => ⟨[(.ro, (.sl (.int .u8)))], [(false, (.int .i64)), (false, (.int .i64))]⟩
  | 83 => ⟨[(.ro, (.int .i64)), (.ro, (.int .i64))], [(false, (.pair (.int .i64) (.pair (.int .i64) (.pair (.os (.pair (.int .i64) (.pair (.int .i64) (.pair (.int .i64) (.pair (.int .i64) (.pair (.int .i64) (.int .i64))))))) (.pair (.int .i64) (.int .i64)))))), (false, .bool)]⟩
  | 84 => ⟨[(.ro, (.int .i64)), (.ro, (.int .i64))], [(false, (.pair (.int .i64) (.pair (.int .i64) (.pair (.os (.pair (.int .i64) (.pair (.int .i64) (.pair (.int .i64) (.pair (.int .i64) (.pair (.int .i64) (.int .i64))))))) (.pair (.int .i64) (.int .i64)))))), (false, .bool)]⟩
  | 85 => ⟨[(.ro, (.sl (.int .u8)))], [(false, (.pair (.int .i64) (.pair (.int .i64) (.pair (.os (.pair (.int .i64) (.pair (.int .i64) (.pair (.int .i64) (.pair (.int .i64) (.pair (.int .i64) (.int .i64))))))) (.pair (.int .i64) (.int .i64))))))]⟩
  | 86 => ⟨[(.ro, (.pair (.int .i64) (.pair (.int .i64) (.pair (.sl (.pair (.int .i64) (.pair (.int .i64) (.pair (.int .i64) (.pair (.int .i64) (.pair (.int .i64) (.int .i64))))))) (.pair (.int .i64) (.int .i64))))))], [(false, (.pair (.int .i64) (.pair (.int .i64) (.pair (.os (.pair (.int .i64) (.pair (.int .i64) (.pair (.int .i64) (.pair (.int .i64) (.pair (.int .i64) (.int .i64))))))) (.pair (.int .i64) (.int .i64)))))), (true, (.sl (.int .i64))), (false, .bool)]⟩
  | 87 => ⟨[(.ro, (.pair (.int .i64) (.pair (.int .i64) (.pair (.sl (.pair (.int .i64) (.pair (.int .i64) (.pair (.int .i64) (.pair (.int .i64) (.pair (.int .i64) (.int .i64))))))) (.pair (.int .i64) (.int .i64))))))], [(false, (.pair (.int .i64) (.pair (.int .i64) (.pair (.sl (.pair (.int .i64) (.pair (.int .i64) (.pair (.int .i64) (.pair (.int .i64) (.pair (.int .i64) (.int .i64))))))) (.pair (.int .i64) (.int .i64)))))), (true, (.sl (.int .i64))), (false, .bool)]⟩
  | 124 => ⟨[(.ps, (.pair (.sl (.int .u8)) (.pair (.int .i64) (.int .u64)))), (.ro, (.int .i64))], [(false, (.int .i64))]⟩
  | 125 => ⟨[(.ps, (.pair (.sl (.int .u8)) (.pair (.int .i64) (.int .u64)))), (.ro, (.int .i64))], [(false, .bool)]⟩
  | 141 => ⟨[(.ps, (.pair (.sl (.int .u8)) (.pair (.int .i64) (.int .u64)))), (.ro, (.sl (.int .i64)))], [(false, (.int .i64))]⟩
  | 142 => ⟨[(.ro, (.int .i64)), (.ro, (.int .i64)), (.ro, (.int .i64))], [(false, .bool)]⟩
  | 189 => ⟨[(.ro, (.sl (.int .u8)))], [(false, (.pair (.int .i64) (.pair (.int .i64) (.pair (.os (.pair (.int .i64) (.pair (.int .i64) (.pair (.int .i64) (.pair (.int .i64) (.pair (.int .i64) (.int .i64))))))) (.pair (.int .i64) (.int .i64)))))), (false, (.pair (.int .i64) (.pair (.int .i64) (.pair (.int .i64) (.pair (.int .i64) (.pair (.int .i64) (.int .i64)))))))]⟩
  | 190 => ⟨[(.ro, (.pair (.int .i64) (.pair (.int .i64) (.pair (.sl (.pair (.int .i64) (.pair (.int .i64) (.pair (.int .i64) (.pair (.int .i64) (.pair (.int .i64) (.int .i64))))))) (.pair (.int .i64) (.int .i64)))))), (.ro, (.pair (.int .i64) (.pair (.int .i64) (.pair (.int .i64) (.pair (.int .i64) (.pair (.int .i64) (.int .i64)))))))], [(false, .bool)]⟩
  | 191 => ⟨[(.ro, (.pair (.int .i64) (.pair (.int .i64) (.pair (.sl (.pair (.int .i64) (.pair (.int .i64) (.pair (.int .i64) (.pair (.int .i64) (.pair (.int .i64) (.int .i64))))))) (.pair (.int .i64) (.int .i64))))))], [(false, (.pair (.int .i64) (.pair (.int .i64) (.pair (.os (.pair (.int .i64) (.pair (.int .i64) (.pair (.int .i64) (.pair (.int .i64) (.pair (.int .i64) (.int .i64))))))) (.pair (.int .i64) (.int .i64))))))]⟩
  | 192 => ⟨[(.ro, (.pair (.int .i64) (.pair (.int .i64) (.pair (.sl (.pair (.int .i64) (.pair (.int .i64) (.pair (.int .i64) (.pair (.int .i64) (.pair (.int .i64) (.int .i64))))))) (.pair (.int .i64) (.int .i64)))))), (.ro, (.pair (.int .i64) (.pair (.int .i64) (.pair (.int .i64) (.pair (.int .i64) (.pair (.int .i64) (.int .i64)))))))], [(false, .bool)]⟩
  | 193 => ⟨[(.mv, (.sl (.pair (.int .i64) (.pair (.int .i64) (.pair (.int .i64) (.pair (.int .i64) (.pair (.int .i64) (.int .i64)))))))), (.ro, (.int .i64)), (.ro, (.int .i64))], [(true, (.sl (.pair (.int .i64) (.pair (.int .i64) (.pair (.int .i64) (.pair (.int .i64) (.pair (.int .i64) (.int .i64))))))))]⟩
  | 194 => ⟨[(.ro, (.pair (.int .i64) (.pair (.int .i64) (.pair (.sl (.pair (.int .i64) (.pair (.int .i64) (.pair (.int .i64) (.pair (.int .i64) (.pair (.int .i64) (.int .i64))))))) (.pair (.int .i64) (.int .i64))))))], [(false, .bool)]⟩
  | 195 => ⟨[(.ro, (.pair (.int .i64) (.pair (.int .i64) (.pair (.sl (.pair (.int .i64) (.pair (.int .i64) (.pair (.int .i64) (.pair (.int .i64) (.pair (.int .i64) (.int .i64))))))) (.pair (.int .i64) (.int .i64)))))), (.ro, (.pair (.int .i64) (.pair (.int .i64) (.pair (.int .i64) (.pair (.int .i64) (.pair (.int .i64) (.int .i64)))))))], [(false, .bool)]⟩
  | 196 => ⟨[(.ro, (.pair (.int .i64) (.pair (.int .i64) (.pair (.sl (.pair (.int .i64) (.pair (.int .i64) (.pair (.int .i64) (.pair (.int .i64) (.pair (.int .i64) (.int .i64))))))) (.pair (.int .i64) (.int .i64)))))), (.ro, (.sl (.pair (.int .i64) (.pair (.int .i64) (.pair (.int .i64) (.pair (.int .i64) (.pair (.int .i64) (.int .i64)))))))), (.ro, (.int .i64)), (.ro, (.int .i64))], [(false, (.pair (.int .i64) (.pair (.int .i64) (.pair (.os (.pair (.int .i64) (.pair (.int .i64) (.pair (.int .i64) (.pair (.int .i64) (.pair (.int .i64) (.int .i64))))))) (.pair (.int .i64) (.int .i64))))))]⟩
  | 197 => ⟨[(.ro, (.pair (.int .i64) (.pair (.int .i64) (.pair (.sl (.pair (.int .i64) (.pair (.int .i64) (.pair (.int .i64) (.pair (.int .i64) (.pair (.int .i64) (.int .i64))))))) (.pair (.int .i64) (.int .i64)))))), (.ro, (.pair (.int .i64) (.pair (.int .i64) (.pair (.int .i64) (.pair (.int .i64) (.pair (.int .i64) (.int .i64)))))))], [(false, .bool)]⟩
  | 198 => ⟨[(.ro, (.sl (.pair (.int .i64) (.pair (.int .i64) (.pair (.int .i64) (.pair (.int .i64) (.pair (.int .i64) (.int .i64))))))))], [(true, (.sl (.int .i64)))]⟩
  | 199 => ⟨[(.ro, (.pair (.int .i64) (.pair (.int .i64) (.pair (.sl (.pair (.int .i64) (.pair (.int .i64) (.pair (.int .i64) (.pair (.int .i64) (.pair (.int .i64) (.int .i64))))))) (.pair (.int .i64) (.int .i64)))))), (.ro, (.pair (.int .i64) (.pair (.int .i64) (.pair (.int .i64) (.pair (.int .i64) (.pair (.int .i64) (.int .i64)))))))], [(false, (.pair (.int .i64) (.pair (.int .i64) (.pair (.os (.pair (.int .i64) (.pair (.int .i64) (.pair (.int .i64) (.pair (.int .i64) (.pair (.int .i64) (.int .i64))))))) (.pair (.int .i64) (.int .i64)))))), (false, .bool)]⟩
  | 200 => ⟨[(.ro, (.pair (.int .i64) (.pair (.int .i64) (.pair (.sl (.pair (.int .i64) (.pair (.int .i64) (.pair (.int .i64) (.pair (.int .i64) (.pair (.int .i64) (.int .i64))))))) (.pair (.int .i64) (.int .i64))))))], [(false, (.pair (.int .i64) (.pair (.int .i64) (.pair (.sl (.pair (.int .i64) (.pair (.int .i64) (.pair (.int .i64) (.pair (.int .i64) (.pair (.int .i64) (.int .i64))))))) (.pair (.int .i64) (.int .i64)))))), (false, .bool)]⟩
  | 201 => ⟨[(.ro, (.sl (.pair (.int .i64) (.pair (.int .i64) (.pair (.int .i64) (.pair (.int .i64) (.pair (.int .i64) (.int .i64)))))))), (.ro, (.sl (.pair (.int .i64) (.pair (.int .i64) (.pair (.int .i64) (.pair (.int .i64) (.pair (.int .i64) (.int .i64))))))))], [(false, .bool)]⟩
  | 202 => ⟨[(.ps, (.pair (.sl (.int .u8)) (.pair (.int .i64) (.int .u64))))], [(false, (.pair (.int .i64) (.pair (.int .i64) (.pair (.os (.pair (.int .i64) (.pair (.int .i64) (.pair (.int .i64) (.pair (.int .i64) (.pair (.int .i64) (.int .i64))))))) (.pair (.int .i64) (.int .i64))))))]⟩
  | 203 => ⟨[(.ps, (.pair (.sl (.int .u8)) (.pair (.int .i64) (.int .u64))))], [(false, (.pair (.int .i64) (.pair (.int .i64) (.pair (.int .i64) (.pair (.int .i64) (.pair (.int .i64) (.int .i64)))))))]⟩
  | 204 => ⟨[(.ro, (.pair (.int .i64) (.pair (.int .i64) (.pair (.sl (.pair (.int .i64) (.pair (.int .i64) (.pair (.int .i64) (.pair (.int .i64) (.pair (.int .i64) (.int .i64))))))) (.pair (.int .i64) (.int .i64))))))], [(false, .bool)]⟩
  | 205 => ⟨[(.ro, (.pair (.int .i64) (.pair (.int .i64) (.pair (.int .i64) (.pair (.int .i64) (.pair (.int .i64) (.int .i64)))))))], [(false, .bool)]⟩
  | 206 => ⟨[(.ro, (.pair (.int .i64) (.pair (.int .i64) (.pair (.int .i64) (.pair (.int .i64) (.pair (.int .i64) (.int .i64))))))), (.ro, (.pair (.int .i64) (.pair (.int .i64) (.pair (.int .i64) (.pair (.int .i64) (.pair (.int .i64) (.int .i64)))))))], [(false, .bool)]⟩
  | 207 => ⟨[(.ro, (.pair (.int .i64) (.pair (.int .i64) (.pair (.sl (.pair (.int .i64) (.pair (.int .i64) (.pair (.int .i64) (.pair (.int .i64) (.pair (.int .i64) (.int .i64))))))) (.pair (.int .i64) (.int .i64))))))], [(false, .bool)]⟩
  | 208 => ⟨[(.ro, (.pair (.int .i64) (.pair (.int .i64) (.pair (.int .i64) (.pair (.int .i64) (.pair (.int .i64) (.int .i64)))))))], [(false, .bool)]⟩
  | 209 => ⟨[(.ro, (.pair (.int .i64) (.pair (.int .i64) (.pair (.int .i64) (.pair (.int .i64) (.pair (.int .i64) (.int .i64))))))), (.ro, (.pair (.int .i64) (.pair (.int .i64) (.pair (.int .i64) (.pair (.int .i64) (.pair (.int .i64) (.int .i64)))))))], [(false, .bool), (false, .bool)]⟩
  | 210 => ⟨[(.ro, (.sl (.pair (.int .i64) (.pair (.int .i64) (.pair (.int .i64) (.pair (.int .i64) (.pair (.int .i64) (.int .i64)))))))), (.ro, (.int .i64))], [(false, (.int .i64))]⟩
  | 211 => ⟨[(.ro, (.sl (.pair (.int .i64) (.pair (.int .i64) (.pair (.int .i64) (.pair (.int .i64) (.pair (.int .i64) (.int .i64))))))))], [(false, (.int .i64))]⟩
  | 212 => ⟨[(.ro, (.sl (.int .u8)))], [(false, (.pair (.int .i64) (.pair (.int .i64) (.pair (.os (.pair (.int .i64) (.pair (.int .i64) (.pair (.int .i64) (.pair (.int .i64) (.pair (.int .i64) (.int .i64))))))) (.pair (.int .i64) (.int .i64))))))]⟩
  | 213 => ⟨[(.ro, (.sl (.pair (.int .i64) (.pair (.int .i64) (.pair (.int .i64) (.pair (.int .i64) (.pair (.int .i64) (.int .i64))))))))], [(true, (.sl (.int .i64)))]⟩
  | 226 => ⟨[(.ro, (.sl (.pair (.int .i64) (.pair (.int .i64) (.pair (.int .i64) (.pair (.int .i64) (.pair (.int .i64) (.int .i64))))))))], [(false, (.int .i64))]⟩
  | 260 => ⟨[(.ps, (.pair (.sl (.int .u8)) (.pair (.int .i64) (.int .u64))))], [(false, (.int .i64))]⟩
  | 266 => ⟨[(.ps, (.pair (.sl (.int .u8)) (.pair (.int .i64) (.int .u64))))], [(false, (.pair (.int .i64) (.pair (.int .i64) (.pair (.int .i64) (.pair (.int .i64) (.pair (.int .i64) (.int .i64)))))))]⟩
  | 267 => ⟨[(.ps, (.pair (.sl (.int .u8)) (.pair (.int .i64) (.int .u64))))], [(false, (.pair (.int .i64) (.pair (.int .i64) (.pair (.int .i64) (.pair (.int .i64) (.pair (.int .i64) (.int .i64)))))))]⟩
  | 282 => ⟨[(.ro, (.sl (.pair (.int .i64) (.pair (.int .i64) (.pair (.int .i64) (.pair (.int .i64) (.pair (.int .i64) (.int .i64)))))))), (.ro, (.int .i64))], [(false, .bool)]⟩
  | 283 => ⟨[(.ro, (.sl (.pair (.int .i64) (.pair (.int .i64) (.pair (.int .i64) (.pair (.int .i64) (.pair (.int .i64) (.int .i64))))))))], [(true, (.sl (.pair (.int .i64) (.pair (.int .i64) (.pair (.int .i64) (.pair (.int .i64) (.pair (.int .i64) (.int .i64))))))))]⟩
  | 284 => ⟨[(.ro, (.int .i64))], [(false, .bool)]⟩
  | 285 => ⟨[(.ro, (.pair (.int .i64) (.pair (.int .i64) (.pair (.sl (.pair (.int .i64) (.pair (.int .i64) (.pair (.int .i64) (.pair (.int .i64) (.pair (.int .i64) (.int .i64))))))) (.pair (.int .i64) (.int .i64))))))], [(false, (.int .i64))]⟩
  | 286 => ⟨[(.ro, (.sl (.pair (.int .i64) (.pair (.int .i64) (.pair (.int .i64) (.pair (.int .i64) (.pair (.int .i64) (.int .i64))))))))], [(false, .bool)]⟩
  | 287 => ⟨[(.ro, (.pair (.int .i64) (.pair (.int .i64) (.pair (.int .i64) (.pair (.int .i64) (.pair (.int .i64) (.int .i64)))))))], [(false, (.pair (.int .i64) (.pair (.int .i64) (.pair (.int .i64) (.int .i64)))))]⟩
  | 288 => ⟨[(.ro, (.int .i64))], [(false, .bool)]⟩
  | 289 => ⟨[(.ro, (.int .i64))], [(false, .bool)]⟩
  | _ => ⟨[], []⟩
def pvLoops : FuncId → Nat → LoopA
  | 7, 0 => ⟨[(4, false, .bool), (124, false, (.int .i64))], [], [], []⟩
  | 7, 1 => ⟨[(4, false, .bool), (176, false, (.int .i64))], [], [], []⟩
  | 71, 0 => ⟨[(8, true, (.sl (.int .i64)))], [(7, (.pair (.int .i64) (.pair (.int .i64) (.pair (.os (.pair (.int .i64) (.pair (.int .i64) (.pair (.int .i64) (.pair (.int .i64) (.pair (.int .i64) (.int .i64))))))) (.pair (.int .i64) (.int .i64))))))], [], []⟩
  | 72, 0 => ⟨[(9, false, (.int .i64))], [], [], []⟩
  | 73, 0 => ⟨[(4, false, .bool), (13, false, (.int .i64))], [], [], []⟩
  | 76, 0 => ⟨[(7, true, (.sl (.pair (.int .i64) (.pair (.int .i64) (.pair (.int .i64) (.pair (.int .i64) (.pair (.int .i64) (.int .i64)))))))), (8, true, (.sl (.int .i64))), (25, false, (.int .i64))], [], [], []⟩
  | 77, 0 => ⟨[(7, true, (.sl (.pair (.int .i64) (.pair (.int .i64) (.pair (.int .i64) (.pair (.int .i64) (.pair (.int .i64) (.int .i64)))))))), (8, true, (.sl (.pair (.int .i64) (.pair (.int .i64) (.pair (.int .i64) (.pair (.int .i64) (.pair (.int .i64) (.int .i64)))))))), (27, false, (.int .i64))], [], [], []⟩
  | 80, 0 => ⟨[(6, false, (.int .i64)), (7, false, .bool), (8, false, (.int .i64)), (25, false, (.int .i64))], [], [], []⟩
  | 198, 0 => ⟨[(3, true, (.sl (.int .i64))), (8, false, (.int .i64))], [], [], []⟩
  | 201, 0 => ⟨[(4, false, .bool), (13, false, (.int .i64))], [], [], []⟩
  | 202, 0 => ⟨[(4, false, (.int .i64))], [(0, (.pair (.sl (.int .u8)) (.pair (.int .i64) (.int .u64)))), (3, (.pair (.int .i64) (.pair (.int .i64) (.pair (.os (.pair (.int .i64) (.pair (.int .i64) (.pair (.int .i64) (.pair (.int .i64) (.pair (.int .i64) (.int .i64))))))) (.pair (.int .i64) (.int .i64))))))], [], []⟩
  | 202, 1 => ⟨[(8, false, (.int .i64))], [(0, (.pair (.sl (.int .u8)) (.pair (.int .i64) (.int .u64)))), (3, (.pair (.int .i64) (.pair (.int .i64) (.pair (.os (.pair (.int .i64) (.pair (.int .i64) (.pair (.int .i64) (.pair (.int .i64) (.pair (.int .i64) (.int .i64))))))) (.pair (.int .i64) (.int .i64))))))], [], []⟩
  | 205, 0 => ⟨[(2, false, .bool), (7, false, (.int .i64))], [], [], []⟩
  | 207, 0 => ⟨[(2, false, .bool), (8, false, (.int .i64))], [], [], []⟩
  | 210, 0 => ⟨[(4, false, (.int .i64)), (9, false, (.int .i64))], [], [], []⟩
  | 211, 0 => ⟨[(3, false, (.int .i64)), (8, false, (.int .i64))], [], [], []⟩
  | 213, 0 => ⟨[(3, true, (.sl (.int .i64))), (9, false, (.int .i64))], [], [], []⟩
  | 226, 0 => ⟨[(3, false, (.int .i64)), (8, false, (.int .i64))], [], [], []⟩
  | 286, 0 => ⟨[(2, false, .bool), (7, false, (.int .i64))], [], [], []⟩
  | 353, 0 => ⟨[(4, false, (.int .i64)), (8, false, (.int .i64))], [], [], []⟩
  | _, _ => ⟨[], [], [], []⟩
def pvEloops : FuncId → Nat → List (Nat × Value)
  | 7, 0 => [(1, (.slice none 0 0)), (4, (.bool false)), (5, (.pointer (some ⟨0, 0, none⟩))), (122, (.slice none 0 0)), (123, (.int .i64 0)), (124, (.int .i64 0))]
  | 7, 1 => [(1, (.slice none 0 0)), (4, (.bool false)), (16, (.pointer (some ⟨0, 0, none⟩))), (17, (.pointer (some ⟨0, 0, none⟩))), (21, (.pointer (some ⟨0, 0, none⟩))), (22, (.slice none 0 0)), (174, (.slice none 0 0)), (175, (.int .i64 0)), (176, (.int .i64 0))]
  | 71, 0 => [(3, (.pointer (some ⟨0, 0, none⟩))), (4, (.pointer (some ⟨0, 0, none⟩))), (5, (.slice none 0 0)), (6, (.bool false)), (7, (.pointer (some ⟨0, 0, none⟩))), (8, (.slice none 0 0))]
  | 72, 0 => [(2, (.pointer (some ⟨0, 0, none⟩))), (3, (.pointer (some ⟨0, 0, none⟩))), (4, (.pointer (some ⟨0, 0, none⟩))), (5, (.slice none 0 0)), (6, (.bool false)), (7, (.slice none 0 0)), (8, (.pointer (some ⟨0, 0, none⟩))), (9, (.int .i64 0))]
  | 73, 0 => [(0, (.slice none 0 0)), (1, (.slice none 0 0)), (4, (.bool false)), (12, (.int .i64 0)), (13, (.int .i64 0))]
  | 76, 0 => [(2, (.pointer (some ⟨0, 0, none⟩))), (3, (.pointer (some ⟨0, 0, none⟩))), (4, (.pointer (some ⟨0, 0, none⟩))), (5, (.slice none 0 0)), (6, (.bool false)), (7, (.slice none 0 0)), (8, (.slice none 0 0)), (23, (.slice none 0 0)), (24, (.int .i64 0)), (25, (.int .i64 0))]
  | 77, 0 => [(2, (.pointer (some ⟨0, 0, none⟩))), (3, (.pointer (some ⟨0, 0, none⟩))), (4, (.pointer (some ⟨0, 0, none⟩))), (5, (.slice none 0 0)), (6, (.bool false)), (7, (.slice none 0 0)), (8, (.slice none 0 0)), (25, (.slice none 0 0)), (26, (.int .i64 0)), (27, (.int .i64 0))]
  | 80, 0 => [(1, (.int .i64 0)), (2, (.int .i64 0)), (6, (.int .i64 0)), (7, (.bool false)), (8, (.int .i64 0)), (23, (.slice none 0 0)), (24, (.int .i64 0)), (25, (.int .i64 0))]
  | 198, 0 => [(2, (.slice none 0 0)), (3, (.slice none 0 0)), (6, (.slice none 0 0)), (7, (.int .i64 0)), (8, (.int .i64 0))]
  | 201, 0 => [(0, (.slice none 0 0)), (1, (.slice none 0 0)), (4, (.bool false)), (12, (.int .i64 0)), (13, (.int .i64 0))]
  | 202, 0 => [(0, (.pointer (some ⟨0, 0, none⟩))), (2, (.pointer (some ⟨0, 0, none⟩))), (3, (.pointer (some ⟨0, 0, none⟩))), (4, (.int .i64 0))]
  | 202, 1 => [(0, (.pointer (some ⟨0, 0, none⟩))), (2, (.pointer (some ⟨0, 0, none⟩))), (3, (.pointer (some ⟨0, 0, none⟩))), (8, (.int .i64 0))]
  | 205, 0 => [(1, (.pointer (some ⟨0, 0, none⟩))), (2, (.bool false)), (6, (.agg #[(.int .i64 0), (.int .i64 0), (.int .i64 0), (.int .i64 0)])), (7, (.int .i64 0))]
  | 207, 0 => [(1, (.pointer (some ⟨0, 0, none⟩))), (2, (.bool false)), (6, (.slice none 0 0)), (7, (.int .i64 0)), (8, (.int .i64 0))]
  | 210, 0 => [(1, (.int .i64 0)), (4, (.int .i64 0)), (7, (.slice none 0 0)), (8, (.int .i64 0)), (9, (.int .i64 0))]
  | 211, 0 => [(2, (.int .i64 0)), (3, (.int .i64 0)), (6, (.slice none 0 0)), (7, (.int .i64 0)), (8, (.int .i64 0))]
  | 213, 0 => [(2, (.slice none 0 0)), (3, (.slice none 0 0)), (7, (.slice none 0 0)), (8, (.int .i64 0)), (9, (.int .i64 0))]
  | 226, 0 => [(2, (.int .i64 0)), (3, (.int .i64 0)), (6, (.slice none 0 0)), (7, (.int .i64 0)), (8, (.int .i64 0))]
  | 286, 0 => [(0, (.slice none 0 0)), (2, (.bool false)), (5, (.slice none 0 0)), (6, (.int .i64 0)), (7, (.int .i64 0))]
  | 353, 0 => [(0, (.slice none 0 0)), (1, .nilFunc), (4, (.int .i64 0)), (7, (.int .i64 0)), (8, (.int .i64 0))]
  | _, _ => []
def pvInline : FuncId → Bool
  | 131 => true
  | 132 => true
  | 263 => true
  | 292 => true
  | 293 => true
  | 298 => true
  | 318 => true
  | 319 => true
  | 336 => true
  | 337 => true
  | 338 => true
  | 339 => true
  | 342 => true
  | 353 => true
  | 354 => true
  | _ => false
def pvExt : FuncId → Option (List Value → Nat → Go.Ev.Heap → Option (Value × Go.Ev.Heap))
  | 193 => some (delX 6 zsDel)
  | _ => none
def pvVext : (f : FuncId) → Option (TupT (pvSig f).ptys → Option (TupT (pvSig f).rtys))
  | 193 => some (fun a => delV tyDel a)
  | _ => none
noncomputable def pvAnn : AnnV := ⟨fuelN, pvSig, pvLoops, pvEloops, pvInline, pvExt, pvVext⟩

/-- loop.example/g00838/laws.big -/
noncomputable def g53 (d : Nat) (l1 : List Int) (l2 : List Int) : Option Bool := (lev Try.prog pvAnn d).call 53 (l1, l2)
/-- (*loop.example/g00838/spec.l1Cur).next -/
noncomputable def g260 (d : Nat) (x1 : ((List Int) × Int × Int)) : Option (Int × ((List Int) × Int × Int)) := (lev Try.prog pvAnn d).call 260 (x1)
/-- (*loop.example/g00838/spec.l1Cur).pick -/
noncomputable def g124 (d : Nat) (x1 : ((List Int) × Int × Int)) (n2 : Int) : Option (Int × ((List Int) × Int × Int)) := (lev Try.prog pvAnn d).call 124 (x1, n2)
/-- (*loop.example/g00838/spec.l1Cur).among -/
noncomputable def g141 (d : Nat) (x1 : ((List Int) × Int × Int)) (l2 : List Int) : Option (Int × ((List Int) × Int × Int)) := (lev Try.prog pvAnn d).call 141 (x1, l2)
/-- loop.example/g00838/spec.quWith -/
noncomputable def g196 (d : Nat) (x1 : (Int × Int × (List (Int × Int × Int × Int × Int × Int)) × Int × Int)) (l2 : List (Int × Int × Int × Int × Int × Int)) (n3 : Int) (n4 : Int) : Option (Int × Int × (List (Int × Int × Int × Int × Int × Int)) × Int × Int) := (lev Try.prog pvAnn d).call 196 (x1, l2, n3, n4)
/-- loop.example/g00838/spec.pkSum -/
noncomputable def g211 (d : Nat) (l1 : List (Int × Int × Int × Int × Int × Int)) : Option Int := (lev Try.prog pvAnn d).call 211 (l1)
/-- loop.example/g00838/spec.quBytes -/
noncomputable def g285 (d : Nat) (x1 : (Int × Int × (List (Int × Int × Int × Int × Int × Int)) × Int × Int)) : Option Int := (lev Try.prog pvAnn d).call 285 (x1)
/-- loop.example/g00838/spec.quRoom -/
noncomputable def g197 (d : Nat) (x1 : (Int × Int × (List (Int × Int × Int × Int × Int × Int)) × Int × Int)) (x2 : (Int × Int × Int × Int × Int × Int)) : Option Bool := (lev Try.prog pvAnn d).call 197 (x1, x2)
/-- loop.example/g00838/spec.quPut -/
noncomputable def g199 (d : Nat) (x1 : (Int × Int × (List (Int × Int × Int × Int × Int × Int)) × Int × Int)) (x2 : (Int × Int × Int × Int × Int × Int)) : Option ((Int × Int × (List (Int × Int × Int × Int × Int × Int)) × Int × Int) × Bool) := (lev Try.prog pvAnn d).call 199 (x1, x2)
/-- loop.example/g00838/spec.quAt -/
noncomputable def g210 (d : Nat) (l1 : List (Int × Int × Int × Int × Int × Int)) (n2 : Int) : Option Int := (lev Try.prog pvAnn d).call 210 (l1, n2)
/-- (*loop.example/g00838/spec.l1Cur).packet -/
noncomputable def g266 (d : Nat) (x1 : ((List Int) × Int × Int)) : Option ((Int × Int × Int × Int × Int × Int) × ((List Int) × Int × Int)) := (lev Try.prog pvAnn d).call 266 (x1)
/-- (*loop.example/g00838/spec.l1Cur).queue -/
noncomputable def g202 (d : Nat) (x1 : ((List Int) × Int × Int)) : Option ((Int × Int × (List (Int × Int × Int × Int × Int × Int)) × Int × Int) × ((List Int) × Int × Int)) := (lev Try.prog pvAnn d).call 202 (x1)
/-- (*loop.example/g00838/spec.l1Cur).one -/
noncomputable def g125 (d : Nat) (x1 : ((List Int) × Int × Int)) (n2 : Int) : Option (Bool × ((List Int) × Int × Int)) := (lev Try.prog pvAnn d).call 125 (x1, n2)
/-- (*loop.example/g00838/spec.l1Cur).anyPacket -/
noncomputable def g267 (d : Nat) (x1 : ((List Int) × Int × Int)) : Option ((Int × Int × Int × Int × Int × Int) × ((List Int) × Int × Int)) := (lev Try.prog pvAnn d).call 267 (x1)
/-- (*loop.example/g00838/spec.l1Cur).comer -/
noncomputable def g203 (d : Nat) (x1 : ((List Int) × Int × Int)) : Option ((Int × Int × Int × Int × Int × Int) × ((List Int) × Int × Int)) := (lev Try.prog pvAnn d).call 203 (x1)
/-- loop.example/g00838/spec.DrawHasRoom -/
noncomputable def g189 (d : Nat) (l1 : List Int) : Option ((Int × Int × (List (Int × Int × Int × Int × Int × Int)) × Int × Int) × (Int × Int × Int × Int × Int × Int)) := (lev Try.prog pvAnn d).call 189 (l1)
/-- loop.example/g00838/spec.DrawPutDropHead -/
noncomputable def g70 (d : Nat) (l1 : List Int) : Option ((Int × Int × (List (Int × Int × Int × Int × Int × Int)) × Int × Int) × (Int × Int × Int × Int × Int × Int)) := (lev Try.prog pvAnn d).call 70 (l1)
/-- loop.example/g00838/impl.sumSizes -/
noncomputable def g226 (d : Nat) (l1 : List (Int × Int × Int × Int × Int × Int)) : Option Int := (lev Try.prog pvAnn d).call 226 (l1)
/-- loop.example/g00838/impl.isCount -/
noncomputable def g284 (d : Nat) (n1 : Int) : Option Bool := (lev Try.prog pvAnn d).call 284 (n1)
/-- loop.example/g00838/impl.fieldsOf -/
noncomputable def g287 (d : Nat) (x1 : (Int × Int × Int × Int × Int × Int)) : Option (Int × Int × Int × Int) := (lev Try.prog pvAnn d).call 287 (x1)
/-- loop.example/g00838/impl.IsPacket -/
noncomputable def g205 (d : Nat) (x1 : (Int × Int × Int × Int × Int × Int)) : Option Bool := (lev Try.prog pvAnn d).call 205 (x1)
/-- loop.example/g00838/impl.hasId -/
noncomputable def g282 (d : Nat) (l1 : List (Int × Int × Int × Int × Int × Int)) (n2 : Int) : Option Bool := (lev Try.prog pvAnn d).call 282 (l1, n2)
/-- loop.example/g00838/impl.apartIds -/
noncomputable def g286 (d : Nat) (l1 : List (Int × Int × Int × Int × Int × Int)) : Option Bool := (lev Try.prog pvAnn d).call 286 (l1)
/-- loop.example/g00838/impl.IsQueue -/
noncomputable def g204 (d : Nat) (x1 : (Int × Int × (List (Int × Int × Int × Int × Int × Int)) × Int × Int)) : Option Bool := (lev Try.prog pvAnn d).call 204 (x1)
/-- loop.example/g00838/impl.canPut -/
noncomputable def g190 (d : Nat) (x1 : (Int × Int × (List (Int × Int × Int × Int × Int × Int)) × Int × Int)) (x2 : (Int × Int × Int × Int × Int × Int)) : Option Bool := (lev Try.prog pvAnn d).call 190 (x1, x2)
/-- slices.Clone[[]loop.example/g00838/impl.Packet,loop.example/g00838/impl.Packet] -/
noncomputable def g283 (d : Nat) (l1 : List (Int × Int × Int × Int × Int × Int)) : Option (List (Int × Int × Int × Int × Int × Int)) := (lev Try.prog pvAnn d).call 283 (l1)
/-- loop.example/g00838/impl.copyQueue -/
noncomputable def g191 (d : Nat) (x1 : (Int × Int × (List (Int × Int × Int × Int × Int × Int)) × Int × Int)) : Option (Int × Int × (List (Int × Int × Int × Int × Int × Int)) × Int × Int) := (lev Try.prog pvAnn d).call 191 (x1)
/-- loop.example/g00838/impl.hasRoom -/
noncomputable def g192 (d : Nat) (x1 : (Int × Int × (List (Int × Int × Int × Int × Int × Int)) × Int × Int)) (x2 : (Int × Int × Int × Int × Int × Int)) : Option Bool := (lev Try.prog pvAnn d).call 192 (x1, x2)
/-- slices.Delete[[]loop.example/g00838/impl.Packet,loop.example/g00838/impl.Packet] -/
noncomputable def g193 (d : Nat) (l1 : List (Int × Int × Int × Int × Int × Int)) (n2 : Int) (n3 : Int) : Option (List (Int × Int × Int × Int × Int × Int)) := (lev Try.prog pvAnn d).call 193 (l1, n2, n3)
/-- loop.example/g00838/impl.ifQueue -/
noncomputable def g194 (d : Nat) (x1 : (Int × Int × (List (Int × Int × Int × Int × Int × Int)) × Int × Int)) : Option Bool := (lev Try.prog pvAnn d).call 194 (x1)
/-- loop.example/g00838/impl.PutDropHead -/
noncomputable def g71 (d : Nat) (x1 : (Int × Int × (List (Int × Int × Int × Int × Int × Int)) × Int × Int)) (x2 : (Int × Int × Int × Int × Int × Int)) : Option ((Int × Int × (List (Int × Int × Int × Int × Int × Int)) × Int × Int) × (List Int) × Bool) := (lev Try.prog pvAnn d).call 71 (x1, x2)
/-- loop.example/g00838/spec.l1In -/
noncomputable def g142 (d : Nat) (n1 : Int) (n2 : Int) (n3 : Int) : Option Bool := (lev Try.prog pvAnn d).call 142 (n1, n2, n3)
/-- loop.example/g00838/spec.pkWord -/
noncomputable def g289 (d : Nat) (n1 : Int) : Option Bool := (lev Try.prog pvAnn d).call 289 (n1)
/-- loop.example/g00838/spec.pkGood -/
noncomputable def g208 (d : Nat) (x1 : (Int × Int × Int × Int × Int × Int)) : Option Bool := (lev Try.prog pvAnn d).call 208 (x1)
/-- loop.example/g00838/spec.quCount -/
noncomputable def g288 (d : Nat) (n1 : Int) : Option Bool := (lev Try.prog pvAnn d).call 288 (n1)
/-- loop.example/g00838/spec.quGood -/
noncomputable def g207 (d : Nat) (x1 : (Int × Int × (List (Int × Int × Int × Int × Int × Int)) × Int × Int)) : Option Bool := (lev Try.prog pvAnn d).call 207 (x1)
/-- loop.example/g00838/spec.quAsked -/
noncomputable def g195 (d : Nat) (x1 : (Int × Int × (List (Int × Int × Int × Int × Int × Int)) × Int × Int)) (x2 : (Int × Int × Int × Int × Int × Int)) : Option Bool := (lev Try.prog pvAnn d).call 195 (x1, x2)
/-- loop.example/g00838/spec.quIds -/
noncomputable def g198 (d : Nat) (l1 : List (Int × Int × Int × Int × Int × Int)) : Option (List Int) := (lev Try.prog pvAnn d).call 198 (l1)
/-- loop.example/g00838/spec.quIf -/
noncomputable def g200 (d : Nat) (x1 : (Int × Int × (List (Int × Int × Int × Int × Int × Int)) × Int × Int)) : Option ((Int × Int × (List (Int × Int × Int × Int × Int × Int)) × Int × Int) × Bool) := (lev Try.prog pvAnn d).call 200 (x1)
/-- loop.example/g00838/spec.PutDropHead -/
noncomputable def g72 (d : Nat) (x1 : (Int × Int × (List (Int × Int × Int × Int × Int × Int)) × Int × Int)) (x2 : (Int × Int × Int × Int × Int × Int)) : Option ((Int × Int × (List (Int × Int × Int × Int × Int × Int)) × Int × Int) × (List Int) × Bool) := (lev Try.prog pvAnn d).call 72 (x1, x2)
/-- loop.example/g00838/laws.sameInts -/
noncomputable def g73 (d : Nat) (l1 : List Int) (l2 : List Int) : Option Bool := (lev Try.prog pvAnn d).call 73 (l1, l2)
/-- loop.example/g00838/laws.pSamePackets -/
noncomputable def g201 (d : Nat) (l1 : List (Int × Int × Int × Int × Int × Int)) (l2 : List (Int × Int × Int × Int × Int × Int)) : Option Bool := (lev Try.prog pvAnn d).call 201 (l1, l2)
/-- loop.example/g00838/laws.pSameQueue -/
noncomputable def g74 (d : Nat) (x1 : (Int × Int × (List (Int × Int × Int × Int × Int × Int)) × Int × Int)) (x2 : (Int × Int × (List (Int × Int × Int × Int × Int × Int)) × Int × Int)) : Option Bool := (lev Try.prog pvAnn d).call 74 (x1, x2)
/-- loop.example/g00838/spec.DrawRemoveFlow -/
noncomputable def g75 (d : Nat) (l1 : List Int) : Option ((Int × Int × (List (Int × Int × Int × Int × Int × Int)) × Int × Int) × (Int × Int × Int × Int × Int × Int)) := (lev Try.prog pvAnn d).call 75 (l1)
/-- loop.example/g00838/impl.sameFlow -/
noncomputable def g206 (d : Nat) (x1 : (Int × Int × Int × Int × Int × Int)) (x2 : (Int × Int × Int × Int × Int × Int)) : Option Bool := (lev Try.prog pvAnn d).call 206 (x1, x2)
/-- loop.example/g00838/impl.RemoveFlow -/
noncomputable def g76 (d : Nat) (x1 : (Int × Int × (List (Int × Int × Int × Int × Int × Int)) × Int × Int)) (x2 : (Int × Int × Int × Int × Int × Int)) : Option ((Int × Int × (List (Int × Int × Int × Int × Int × Int)) × Int × Int) × (List Int) × Bool) := (lev Try.prog pvAnn d).call 76 (x1, x2)
/-- loop.example/g00838/spec.SameFlow -/
noncomputable def g209 (d : Nat) (x1 : (Int × Int × Int × Int × Int × Int)) (x2 : (Int × Int × Int × Int × Int × Int)) : Option (Bool × Bool) := (lev Try.prog pvAnn d).call 209 (x1, x2)
/-- loop.example/g00838/spec.RemoveFlow -/
noncomputable def g77 (d : Nat) (x1 : (Int × Int × (List (Int × Int × Int × Int × Int × Int)) × Int × Int)) (x2 : (Int × Int × Int × Int × Int × Int)) : Option ((Int × Int × (List (Int × Int × Int × Int × Int × Int)) × Int × Int) × (List Int) × Bool) := (lev Try.prog pvAnn d).call 77 (x1, x2)
/-- loop.example/g00838/impl.SameFlow -/
noncomputable def g78 (d : Nat) (x1 : (Int × Int × Int × Int × Int × Int)) (x2 : (Int × Int × Int × Int × Int × Int)) : Option (Bool × Bool) := (lev Try.prog pvAnn d).call 78 (x1, x2)
/-- loop.example/g00838/spec.DrawDelayOf -/
noncomputable def g79 (d : Nat) (l1 : List Int) : Option ((Int × Int × (List (Int × Int × Int × Int × Int × Int)) × Int × Int) × Int × Int) := (lev Try.prog pvAnn d).call 79 (l1)
/-- loop.example/g00838/impl.DelayOf -/
noncomputable def g80 (d : Nat) (x1 : (Int × Int × (List (Int × Int × Int × Int × Int × Int)) × Int × Int)) (n2 : Int) (n3 : Int) : Option (Int × Bool) := (lev Try.prog pvAnn d).call 80 (x1, n2, n3)
/-- loop.example/g00838/spec.DelayOf -/
noncomputable def g81 (d : Nat) (x1 : (Int × Int × (List (Int × Int × Int × Int × Int × Int)) × Int × Int)) (n2 : Int) (n3 : Int) : Option (Int × Bool) := (lev Try.prog pvAnn d).call 81 (x1, n2, n3)
/-- loop.example/g00838/spec.DrawNewQueue -/
noncomputable def g82 (d : Nat) (l1 : List Int) : Option (Int × Int) := (lev Try.prog pvAnn d).call 82 (l1)
/-- loop.example/g00838/impl.NewQueue -/
noncomputable def g83 (d : Nat) (n1 : Int) (n2 : Int) : Option ((Int × Int × (List (Int × Int × Int × Int × Int × Int)) × Int × Int) × Bool) := (lev Try.prog pvAnn d).call 83 (n1, n2)
/-- loop.example/g00838/spec.NewQueue -/
noncomputable def g84 (d : Nat) (n1 : Int) (n2 : Int) : Option ((Int × Int × (List (Int × Int × Int × Int × Int × Int)) × Int × Int) × Bool) := (lev Try.prog pvAnn d).call 84 (n1, n2)
/-- loop.example/g00838/spec.DrawIsQueue -/
noncomputable def g212 (d : Nat) (l1 : List Int) : Option (Int × Int × (List (Int × Int × Int × Int × Int × Int)) × Int × Int) := (lev Try.prog pvAnn d).call 212 (l1)
/-- loop.example/g00838/spec.DrawTakeAll -/
noncomputable def g85 (d : Nat) (l1 : List Int) : Option (Int × Int × (List (Int × Int × Int × Int × Int × Int)) × Int × Int) := (lev Try.prog pvAnn d).call 85 (l1)
/-- loop.example/g00838/impl.idsOf -/
noncomputable def g213 (d : Nat) (l1 : List (Int × Int × Int × Int × Int × Int)) : Option (List Int) := (lev Try.prog pvAnn d).call 213 (l1)
/-- loop.example/g00838/impl.TakeAll -/
noncomputable def g86 (d : Nat) (x1 : (Int × Int × (List (Int × Int × Int × Int × Int × Int)) × Int × Int)) : Option ((Int × Int × (List (Int × Int × Int × Int × Int × Int)) × Int × Int) × (List Int) × Bool) := (lev Try.prog pvAnn d).call 86 (x1)
/-- loop.example/g00838/spec.TakeAll -/
noncomputable def g87 (d : Nat) (x1 : (Int × Int × (List (Int × Int × Int × Int × Int × Int)) × Int × Int)) : Option ((Int × Int × (List (Int × Int × Int × Int × Int × Int)) × Int × Int) × (List Int) × Bool) := (lev Try.prog pvAnn d).call 87 (x1)
/-- loop.example/g00838/laws.FnDrops -/
noncomputable def g7 (d : Nat) (l1 : List Int) (l2 : List Int) : Option Bool := (lev Try.prog pvAnn d).call 7 (l1, l2)

theorem e53 (d : Nat) (l1 : List Int) (l2 : List Int) : g53 (d + 1) l1 l2 =
 oif (decide ((((l1.length : Nat) : Int) : Int) > 1048576)) (
 some true) (
 some (decide ((((l2.length : Nat) : Int) : Int) > (IntKind.i64.wrap ((1048576 : Int) - ((l1.length : Nat) : Int)))))) := by kernel_rfl

noncomputable def j260_0 (d : Nat) (x1 : ((List Int) × Int × Int)) (n2 : Int) : Option (Int × ((List Int) × Int × Int)) :=
 oif (decide (((IntKind.i64.wrap (x1.2.1 + 1)) : Int) ≤ ((x1.1.length : Nat) : Int))) (
 some (n2, (x1.1, (IntKind.i64.wrap (x1.2.1 + 1)), (IntKind.u64.wrap ((IntKind.u64.wrap ((IntKind.u64.wrap (x1.2.2 * 6364136223846793005)) + (IntKind.u64.wrap n2))) + 1442695040888963407))))) (
 some ((IntKind.i64.wrap (IntKind.u64.wrap ((BitVec.ofInt IntKind.u64.bits ((IntKind.u64.wrap ((IntKind.u64.wrap ((IntKind.u64.wrap (x1.2.2 * 6364136223846793005)) + (IntKind.u64.wrap n2))) + 1442695040888963407)).fdiv (2 ^ (min (40 : Int).toNat IntKind.u64.bits))) &&& BitVec.ofInt IntKind.u64.bits 255).toNat : Int))), (x1.1, (IntKind.i64.wrap (x1.2.1 + 1)), (IntKind.u64.wrap ((IntKind.u64.wrap ((IntKind.u64.wrap (x1.2.2 * 6364136223846793005)) + (IntKind.u64.wrap n2))) + 1442695040888963407)))))
theorem e260 (d : Nat) (x1 : ((List Int) × Int × Int)) : g260 (d + 1) x1 =
 oif (decide ((x1.2.1 : Int) < ((x1.1.length : Nat) : Int))) (
 oif (decide (0 ≤ (x1.2.1 : Int))) (
 obind (x1.1[(x1.2.1 : Int).toNat]?) fun n2 =>
 j260_0 d x1 (IntKind.i64.wrap n2)) none) (
 j260_0 d x1 0) := by kernel_rfl

theorem e124 (d : Nat) (x1 : ((List Int) × Int × Int)) (n2 : Int) : g124 (d + 1) x1 n2 =
 oif (decide ((n2 : Int) ≤ 1)) (
 some (0, x1)) (
 obind (g260 d x1) fun r3 =>
 oif (decide ((n2 : Int) > 200)) (
 obind (g260 d r3.2) fun r4 =>
 oif ((n2 : Int) == 0) none (
 some (((IntKind.i64.wrap ((IntKind.i64.wrap (r3.1 * 256)) + r4.1)).tmod n2), r4.2))) (
 oif ((n2 : Int) == 0) none (
 some ((r3.1.tmod n2), r3.2)))) := by kernel_rfl

theorem e141 (d : Nat) (x1 : ((List Int) × Int × Int)) (l2 : List Int) : g141 (d + 1) x1 l2 =
 obind (g124 d x1 ((l2.length : Nat) : Int)) fun r3 =>
 oif (decide (0 ≤ (r3.1 : Int))) (
 obind (l2[(r3.1 : Int).toNat]?) fun n4 =>
 some (n4, r3.2)) none := by kernel_rfl

theorem e196 (d : Nat) (x1 : (Int × Int × (List (Int × Int × Int × Int × Int × Int)) × Int × Int)) (l2 : List (Int × Int × Int × Int × Int × Int)) (n3 : Int) (n4 : Int) : g196 (d + 1) x1 l2 n3 n4 =
 oif (Nat.ble ((([] : List (Int × Int × Int × Int × Int × Int)).length + l2.length) * 48) roomMax) (
 some (x1.1, x1.2.1, (([] : List (Int × Int × Int × Int × Int × Int)) ++ l2), (IntKind.i64.wrap (x1.2.2.2.1 + n3)), (IntKind.i64.wrap (x1.2.2.2.2 + n4)))) none := by kernel_rfl

noncomputable def j211_0 (d : Nat)  (n3 : Int) : Option Int :=
 some n3
noncomputable def l211_0_b (d : Nat) (l1 : List (Int × Int × Int × Int × Int × Int)) (kx211_0_0 : Int → Option Int) (ag2 : (Int × Int) → Option Int) (n3 : Int) (n4 : Int) : Option Int :=
 oif (decide ((n4 : Int) < ((l1.length : Nat) : Int))) (
 oif (decide (0 ≤ (n4 : Int))) (
 obind (l1[(n4 : Int).toNat]?) fun x5 =>
 ag2 ((IntKind.i64.wrap (n3 + x5.2.2.2.2.2)), (IntKind.i64.wrap (n4 + 1)))) none) (
 kx211_0_0 n3)
noncomputable def l211_0 (d : Nat) (l1 : List (Int × Int × Int × Int × Int × Int)) (kx211_0_0 : Int → Option Int) (ag2 : (Int × Int) → Option Int) (s : (Int × Int)) : Option Int := l211_0_b d l1 kx211_0_0 ag2 s.1 s.2
theorem e211 (d : Nat) (l1 : List (Int × Int × Int × Int × Int × Int)) : g211 (d + 1) l1 =
 iterP (l211_0 d l1 (j211_0 d)) fuelN (0, 0) := by kernel_rfl

theorem e285 (d : Nat) (x1 : (Int × Int × (List (Int × Int × Int × Int × Int × Int)) × Int × Int)) : g285 (d + 1) x1 =
 obind (g211 d x1.2.2.1) fun r2 =>
 some r2 := by kernel_rfl

theorem e197 (d : Nat) (x1 : (Int × Int × (List (Int × Int × Int × Int × Int × Int)) × Int × Int)) (x2 : (Int × Int × Int × Int × Int × Int)) : g197 (d + 1) x1 x2 =
 oif (decide ((((x1.2.2.1.length : Nat) : Int) : Int) < x1.1)) (
 obind (g285 d x1) fun r3 =>
 some (decide (((IntKind.i64.wrap (r3 + x2.2.2.2.2.2)) : Int) ≤ x1.2.1))) (
 some false) := by kernel_rfl

theorem e199 (d : Nat) (x1 : (Int × Int × (List (Int × Int × Int × Int × Int × Int)) × Int × Int)) (x2 : (Int × Int × Int × Int × Int × Int)) : g199 (d + 1) x1 x2 =
 obind (g197 d x1 x2) fun r3 =>
 oif (!r3) (
 obind (g196 d x1 x1.2.2.1 0 1) fun r4 =>
 some (r4, false)) (
 obind (g196 d x1 x1.2.2.1 0 0) fun r5 =>
 oif (Nat.ble ((r5.2.2.1.length + [x2].length) * 48) roomMax) (
 some ((r5.1, r5.2.1, (r5.2.2.1 ++ [x2]), r5.2.2.2), true)) none) := by kernel_rfl

noncomputable def j210_0 (d : Nat)  (n4 : Int) : Option Int :=
 some (-1)
noncomputable def l210_0_b (d : Nat) (l1 : List (Int × Int × Int × Int × Int × Int)) (n2 : Int) (kx210_0_0 : Int → Option Int) (ag3 : (Int × Int) → Option Int) (n4 : Int) (n5 : Int) : Option Int :=
 oif (decide ((n5 : Int) < ((l1.length : Nat) : Int))) (
 oif (decide (0 ≤ (n5 : Int))) (
 obind (l1[(n5 : Int).toNat]?) fun x6 =>
 oif ((x6.1 : Int) == n2) (
 some n5) (
 ag3 (n4, (IntKind.i64.wrap (n5 + 1))))) none) (
 kx210_0_0 n4)
noncomputable def l210_0 (d : Nat) (l1 : List (Int × Int × Int × Int × Int × Int)) (n2 : Int) (kx210_0_0 : Int → Option Int) (ag3 : (Int × Int) → Option Int) (s : (Int × Int)) : Option Int := l210_0_b d l1 n2 kx210_0_0 ag3 s.1 s.2
theorem e210 (d : Nat) (l1 : List (Int × Int × Int × Int × Int × Int)) (n2 : Int) : g210 (d + 1) l1 n2 =
 iterP (l210_0 d l1 n2 (j210_0 d)) fuelN (0, 0) := by kernel_rfl

theorem e266 (d : Nat) (x1 : ((List Int) × Int × Int)) : g266 (d + 1) x1 =
 obind (g124 d x1 60000) fun r2 =>
 obind (g124 d r2.2 60000) fun r3 =>
 obind (g141 d r3.2 [1, 2, 3, 65535, r3.1]) fun r4 =>
 obind (g141 d r4.2 [1, 2, 9]) fun r5 =>
 obind (g141 d r5.2 [22, 80, 443]) fun r6 =>
 obind (g141 d r6.2 [0, 1, 5, 255]) fun r7 =>
 obind (g124 d r7.2 1500) fun r8 =>
 obind (g141 d r8.2 [1, 40, 64, 100, 500, 1000, 1500, (IntKind.i64.wrap ((1 : Int) + r8.1))]) fun r9 =>
 some (((IntKind.i64.wrap ((1 : Int) + r2.1)), r4.1, r5.1, r6.1, r7.1, r9.1), r9.2) := by kernel_rfl

noncomputable def j202_0 (d : Nat)  (n24 : Int) (n25 : Int) (n26 : Int) (n27 : Int) (l28 : List Int) (n29 : Int) (n30 : Int) (l31 : List (Int × Int × Int × Int × Int × Int)) : Option ((Int × Int × (List (Int × Int × Int × Int × Int × Int)) × Int × Int) × ((List Int) × Int × Int)) :=
 some ((n24, n25, l31, n26, n27), (l28, n29, n30))
noncomputable def l202_1_b (d : Nat)  (kx202_1_0 : Int → Int → Int → Int → (List Int) → Int → Int → (List (Int × Int × Int × Int × Int × Int)) → Option ((Int × Int × (List (Int × Int × Int × Int × Int × Int)) × Int × Int) × ((List Int) × Int × Int))) (ag23 : (Int × ((List Int) × Int × Int) × (Int × Int × (List (Int × Int × Int × Int × Int × Int)) × Int × Int)) → Option ((Int × Int × (List (Int × Int × Int × Int × Int × Int)) × Int × Int) × ((List Int) × Int × Int))) (n24 : Int) (x25 : ((List Int) × Int × Int)) (x26 : (Int × Int × (List (Int × Int × Int × Int × Int × Int)) × Int × Int)) : Option ((Int × Int × (List (Int × Int × Int × Int × Int × Int)) × Int × Int) × ((List Int) × Int × Int)) :=
 oif (decide ((n24 : Int) > 0)) (
 obind (g141 d x25 [1, 1500]) fun r27 =>
 oif (Nat.ble ((x26.2.2.1.length + [(n24, 0, 0, 0, 0, r27.1)].length) * 48) roomMax) (
 ag23 ((IntKind.i64.wrap (n24 - 1)), r27.2, (x26.1, x26.2.1, (x26.2.2.1 ++ [(n24, 0, 0, 0, 0, r27.1)]), x26.2.2.2))) none) (
 kx202_1_0 x26.1 x26.2.1 x26.2.2.2.1 x26.2.2.2.2 x25.1 x25.2.1 x25.2.2 x26.2.2.1)
noncomputable def l202_1 (d : Nat)  (kx202_1_0 : Int → Int → Int → Int → (List Int) → Int → Int → (List (Int × Int × Int × Int × Int × Int)) → Option ((Int × Int × (List (Int × Int × Int × Int × Int × Int)) × Int × Int) × ((List Int) × Int × Int))) (ag23 : (Int × ((List Int) × Int × Int) × (Int × Int × (List (Int × Int × Int × Int × Int × Int)) × Int × Int)) → Option ((Int × Int × (List (Int × Int × Int × Int × Int × Int)) × Int × Int) × ((List Int) × Int × Int))) (s : (Int × ((List Int) × Int × Int) × (Int × Int × (List (Int × Int × Int × Int × Int × Int)) × Int × Int))) : Option ((Int × Int × (List (Int × Int × Int × Int × Int × Int)) × Int × Int) × ((List Int) × Int × Int)) := l202_1_b d kx202_1_0 ag23 s.1 s.2.1 s.2.2
noncomputable def j202_1 (d : Nat)  (l8 : List Int) (n9 : Int) (n10 : Int) (n11 : Int) (n12 : Int) (n13 : Int) (n14 : Int) (l15 : List (Int × Int × Int × Int × Int × Int)) : Option ((Int × Int × (List (Int × Int × Int × Int × Int × Int)) × Int × Int) × ((List Int) × Int × Int)) :=
 obind (g124 d (l8, n9, n10) 24) fun r16 =>
 oif ((r16.1 : Int) == 0) (
 obind (g141 d r16.2 [0, 60, 61, (-1)]) fun r17 =>
 some ((r17.1, n12, l15, n13, n14), r17.2)) (
 oif ((r16.1 : Int) == 1) (
 obind (g141 d r16.2 [0, 90000, 90001]) fun r18 =>
 some ((n11, r18.1, l15, n13, n14), r18.2)) (
 oif ((r16.1 : Int) == 2) (
 obind (g141 d r16.2 [(-1), 1000000, 1000001, 999998]) fun r19 =>
 some ((n11, n12, l15, r19.1, n14), r19.2)) (
 oif ((r16.1 : Int) == 3) (
 obind (g141 d r16.2 [(-1), 1000000, 1000001, 999999]) fun r20 =>
 some ((n11, n12, l15, n13, r20.1), r20.2)) (
 oif ((r16.1 : Int) == 4) (
 obind (g266 d r16.2) fun r21 =>
 oif (Nat.ble ((l15.length + [r21.1].length) * 48) roomMax) (
 some ((n11, n12, (l15 ++ [r21.1]), n13, n14), r21.2)) none) (
 oif ((r16.1 : Int) == 5) (
 obind (g124 d r16.2 3) fun r22 =>
 iterP (l202_1 d (j202_0 d)) fuelN ((IntKind.i64.wrap ((59 : Int) + r22.1)), r22.2, (60, 90000, [], 0, 0))) (
 some ((n11, n12, l15, n13, n14), r16.2)))))))
noncomputable def j202_2 (d : Nat) (ag7 : (Int × ((List Int) × Int × Int) × (Int × Int × (List (Int × Int × Int × Int × Int × Int)) × Int × Int)) → Option ((Int × Int × (List (Int × Int × Int × Int × Int × Int)) × Int × Int) × ((List Int) × Int × Int))) (n8 : Int) (n11 : Int) (n12 : Int) (n13 : Int) (n14 : Int) (n15 : Int) (n16 : Int) (n17 : Int) (n18 : Int) (n19 : Int) (n20 : Int) (b21 : Bool) (l22 : List Int) (n23 : Int) (n24 : Int) (n25 : Int) (n26 : Int) (n27 : Int) (n28 : Int) (n29 : Int) (n30 : Int) (n31 : Int) (n32 : Int) (n33 : Int) (n34 : Int) (l35 : List (Int × Int × Int × Int × Int × Int)) : Option ((Int × Int × (List (Int × Int × Int × Int × Int × Int)) × Int × Int) × ((List Int) × Int × Int)) :=
 ag7 ((IntKind.i64.wrap (n8 - 1)), (l22, n23, n24), (n25, n26, l35, n27, n28))
noncomputable def j202_3 (d : Nat) (ag7 : (Int × ((List Int) × Int × Int) × (Int × Int × (List (Int × Int × Int × Int × Int × Int)) × Int × Int)) → Option ((Int × Int × (List (Int × Int × Int × Int × Int × Int)) × Int × Int) × ((List Int) × Int × Int))) (n8 : Int) (r11 : ((Int × Int × Int × Int × Int × Int) × ((List Int) × Int × Int))) (r12 : (Int × ((List Int) × Int × Int))) (r13 : Int) (b14 : Bool) (n15 : Int) (n16 : Int) (n17 : Int) (n18 : Int) (l19 : List (Int × Int × Int × Int × Int × Int)) : Option ((Int × Int × (List (Int × Int × Int × Int × Int × Int)) × Int × Int) × ((List Int) × Int × Int)) :=
 j202_2 d ag7 n8 r11.1.1 r11.1.2.1 r11.1.2.2.1 r11.1.2.2.2.1 r11.1.2.2.2.2.1 r11.1.2.2.2.2.2 r12.1 (IntKind.i64.wrap ((1 : Int) + r12.1)) (IntKind.i64.wrap ((1 : Int) + r12.1)) r13 b14 r12.2.1 r12.2.2.1 r12.2.2.2 n15 n16 n17 n18 (IntKind.i64.wrap ((1 : Int) + r12.1)) r11.1.2.1 r11.1.2.2.1 r11.1.2.2.2.1 r11.1.2.2.2.2.1 r11.1.2.2.2.2.2 l19
noncomputable def l202_0_b (d : Nat)  (kx202_0_0 : (List Int) → Int → Int → Int → Int → Int → Int → (List (Int × Int × Int × Int × Int × Int)) → Option ((Int × Int × (List (Int × Int × Int × Int × Int × Int)) × Int × Int) × ((List Int) × Int × Int))) (ag7 : (Int × ((List Int) × Int × Int) × (Int × Int × (List (Int × Int × Int × Int × Int × Int)) × Int × Int)) → Option ((Int × Int × (List (Int × Int × Int × Int × Int × Int)) × Int × Int) × ((List Int) × Int × Int))) (n8 : Int) (x9 : ((List Int) × Int × Int)) (x10 : (Int × Int × (List (Int × Int × Int × Int × Int × Int)) × Int × Int)) : Option ((Int × Int × (List (Int × Int × Int × Int × Int × Int)) × Int × Int) × ((List Int) × Int × Int)) :=
 oif (decide ((n8 : Int) > 0)) (
 obind (g266 d x9) fun r11 =>
 obind (g124 d r11.2 12) fun r12 =>
 obind (g210 d x10.2.2.1 (IntKind.i64.wrap ((1 : Int) + r12.1))) fun r13 =>
 oif (decide ((r13 : Int) < 0)) (
 obind (g199 d x10 ((IntKind.i64.wrap ((1 : Int) + r12.1)), r11.1.2)) fun r14 =>
 oif r14.2 (
 j202_3 d ag7 n8 r11 r12 r13 true r14.1.1 r14.1.2.1 r14.1.2.2.2.1 r14.1.2.2.2.2 r14.1.2.2.1) (
 j202_3 d ag7 n8 r11 r12 r13 true x10.1 x10.2.1 x10.2.2.2.1 x10.2.2.2.2 x10.2.2.1)) (
 j202_3 d ag7 n8 r11 r12 r13 false x10.1 x10.2.1 x10.2.2.2.1 x10.2.2.2.2 x10.2.2.1)) (
 kx202_0_0 x9.1 x9.2.1 x9.2.2 x10.1 x10.2.1 x10.2.2.2.1 x10.2.2.2.2 x10.2.2.1)
noncomputable def l202_0 (d : Nat)  (kx202_0_0 : (List Int) → Int → Int → Int → Int → Int → Int → (List (Int × Int × Int × Int × Int × Int)) → Option ((Int × Int × (List (Int × Int × Int × Int × Int × Int)) × Int × Int) × ((List Int) × Int × Int))) (ag7 : (Int × ((List Int) × Int × Int) × (Int × Int × (List (Int × Int × Int × Int × Int × Int)) × Int × Int)) → Option ((Int × Int × (List (Int × Int × Int × Int × Int × Int)) × Int × Int) × ((List Int) × Int × Int))) (s : (Int × ((List Int) × Int × Int) × (Int × Int × (List (Int × Int × Int × Int × Int × Int)) × Int × Int))) : Option ((Int × Int × (List (Int × Int × Int × Int × Int × Int)) × Int × Int) × ((List Int) × Int × Int)) := l202_0_b d kx202_0_0 ag7 s.1 s.2.1 s.2.2
theorem e202 (d : Nat) (x1 : ((List Int) × Int × Int)) : g202 (d + 1) x1 =
 obind (g141 d x1 [1, 2, 3, 5, 60]) fun r2 =>
 obind (g141 d r2.2 [1, 1500, 3000, 6000, 90000]) fun r3 =>
 obind (g124 d r3.2 9) fun r4 =>
 obind (g124 d r4.2 9) fun r5 =>
 obind (g124 d r5.2 8) fun r6 =>
 iterP (l202_0 d (j202_1 d)) fuelN (r6.1, r6.2, (r2.1, r3.1, [], r4.1, r5.1)) := by kernel_rfl

theorem e125 (d : Nat) (x1 : ((List Int) × Int × Int)) (n2 : Int) : g125 (d + 1) x1 n2 =
 obind (g124 d x1 n2) fun r3 =>
 some (((r3.1 : Int) == 0), r3.2) := by kernel_rfl

noncomputable def j267_0 (d : Nat) (r2 : ((Int × Int × Int × Int × Int × Int) × ((List Int) × Int × Int))) (n7 : Int) (n8 : Int) (n9 : Int) (l10 : List Int) (n11 : Int) (n12 : Int) : Option ((Int × Int × Int × Int × Int × Int) × ((List Int) × Int × Int)) :=
 some ((r2.1.1, r2.1.2.1, n7, n8, n9, r2.1.2.2.2.2.2), (l10, n11, n12))
theorem e267 (d : Nat) (x1 : ((List Int) × Int × Int)) : g267 (d + 1) x1 =
 obind (g266 d x1) fun r2 =>
 obind (g124 d r2.2 20) fun r3 =>
 oif ((r3.1 : Int) == 0) (
 obind (g141 d r3.2 [0, (-1), 100000, 100001]) fun r4 =>
 some ((r4.1, r2.1.2), r4.2)) (
 oif ((r3.1 : Int) == 1) (
 obind (g141 d r3.2 [(-1), 65536]) fun r5 =>
 some ((r2.1.1, r5.1, r2.1.2.2), r5.2)) (
 oif ((r3.1 : Int) == 2) (
 obind (g141 d r3.2 [0, (-1), 1500, 1501]) fun r6 =>
 some ((r2.1.1, r2.1.2.1, r2.1.2.2.1, r2.1.2.2.2.1, r2.1.2.2.2.2.1, r6.1), r6.2)) (
 oif ((r3.1 : Int) == 3) (
 obind (g141 d r3.2 [(-1), 65535, 65536]) fun r7 =>
 j267_0 d r2 r2.1.2.2.1 r2.1.2.2.2.1 r7.1 r7.2.1 r7.2.2.1 r7.2.2.2) (
 oif ((r3.1 : Int) == 4) (
 obind (g141 d r3.2 [(-1), 65536]) fun r8 =>
 j267_0 d r2 r2.1.2.2.1 r8.1 r2.1.2.2.2.2.1 r8.2.1 r8.2.2.1 r8.2.2.2) (
 oif ((r3.1 : Int) == 5) (
 obind (g141 d r3.2 [(-1), 65536]) fun r9 =>
 j267_0 d r2 r9.1 r2.1.2.2.2.1 r2.1.2.2.2.2.1 r9.2.1 r9.2.2.1 r9.2.2.2) (
 j267_0 d r2 r2.1.2.2.1 r2.1.2.2.2.1 r2.1.2.2.2.2.1 r3.2.1 r3.2.2.1 r3.2.2.2)))))) := by kernel_rfl

theorem e203 (d : Nat) (x1 : ((List Int) × Int × Int)) : g203 (d + 1) x1 =
 obind (g125 d x1 8) fun r2 =>
 oif r2.1 (
 obind (g267 d r2.2) fun r3 =>
 some (r3.1, r3.2)) (
 obind (g266 d r2.2) fun r4 =>
 obind (g124 d r4.2 30) fun r5 =>
 some (((IntKind.i64.wrap ((8 : Int) + r5.1)), r4.1.2), r5.2)) := by kernel_rfl

theorem e189 (d : Nat) (l1 : List Int) : g189 (d + 1) l1 =
 obind (g202 d (l1, 0, 0)) fun r2 =>
 obind (g203 d r2.2) fun r3 =>
 some (r2.1, r3.1) := by kernel_rfl

theorem e70 (d : Nat) (l1 : List Int) : g70 (d + 1) l1 =
 obind (g189 d l1) fun r2 =>
 some (r2.1, r2.2) := by kernel_rfl

noncomputable def j226_0 (d : Nat)  (n3 : Int) : Option Int :=
 some n3
noncomputable def l226_0_b (d : Nat) (l1 : List (Int × Int × Int × Int × Int × Int)) (kx226_0_0 : Int → Option Int) (ag2 : (Int × Int) → Option Int) (n3 : Int) (n4 : Int) : Option Int :=
 oif (decide ((n4 : Int) < ((l1.length : Nat) : Int))) (
 oif (decide (0 ≤ (n4 : Int))) (
 obind (l1[(n4 : Int).toNat]?) fun x5 =>
 ag2 ((IntKind.i64.wrap (n3 + x5.2.2.2.2.2)), (IntKind.i64.wrap (n4 + 1)))) none) (
 kx226_0_0 n3)
noncomputable def l226_0 (d : Nat) (l1 : List (Int × Int × Int × Int × Int × Int)) (kx226_0_0 : Int → Option Int) (ag2 : (Int × Int) → Option Int) (s : (Int × Int)) : Option Int := l226_0_b d l1 kx226_0_0 ag2 s.1 s.2
theorem e226 (d : Nat) (l1 : List (Int × Int × Int × Int × Int × Int)) : g226 (d + 1) l1 =
 iterP (l226_0 d l1 (j226_0 d)) fuelN (0, 0) := by kernel_rfl

theorem e284 (d : Nat) (n1 : Int) : g284 (d + 1) n1 =
 oif (decide ((n1 : Int) ≥ 0)) (
 some (decide ((n1 : Int) ≤ 1000000))) (
 some false) := by kernel_rfl

theorem e287 (d : Nat) (x1 : (Int × Int × Int × Int × Int × Int)) : g287 (d + 1) x1 =
 some (x1.2.1, x1.2.2.1, x1.2.2.2.1, x1.2.2.2.2.1) := by kernel_rfl

noncomputable def j205_0 (d : Nat) (x1 : (Int × Int × Int × Int × Int × Int)) (b4 : Bool) : Option Bool :=
 oif (decide ((x1.1 : Int) ≥ 1)) (
 oif (decide ((x1.1 : Int) ≤ 100000)) (
 oif (decide ((x1.2.2.2.2.2 : Int) ≥ 1)) (
 some (decide ((x1.2.2.2.2.2 : Int) ≤ 1500))) (
 some false)) (
 some false)) (
 some false)
noncomputable def l205_0_b (d : Nat) (r2 : (Int × Int × Int × Int)) (kx205_0_0 : Bool → Option Bool) (ag3 : (Bool × Int) → Option Bool) (b4 : Bool) (n5 : Int) : Option Bool :=
 oif (decide ((n5 : Int) < 4)) (
 oif (decide (0 ≤ (n5 : Int))) (
 obind (([r2.1, r2.2.1, r2.2.2.1, r2.2.2.2] : List Int)[(n5 : Int).toNat]?) fun n6 =>
 oif (decide ((n6 : Int) < 0)) (
 some false) (
 oif (decide ((n6 : Int) > 65535)) (
 some false) (
 ag3 (b4, (IntKind.i64.wrap (n5 + 1)))))) none) (
 kx205_0_0 b4)
noncomputable def l205_0 (d : Nat) (r2 : (Int × Int × Int × Int)) (kx205_0_0 : Bool → Option Bool) (ag3 : (Bool × Int) → Option Bool) (s : (Bool × Int)) : Option Bool := l205_0_b d r2 kx205_0_0 ag3 s.1 s.2
theorem e205 (d : Nat) (x1 : (Int × Int × Int × Int × Int × Int)) : g205 (d + 1) x1 =
 obind (g287 d x1) fun r2 =>
 iterP (l205_0 d r2 (j205_0 d x1)) fuelN (false, 0) := by kernel_rfl

noncomputable def j282i336i353_0 (d : Nat)  (n4 : Int) : Option Bool :=
 some (decide (((-1) : Int) ≥ 0))
noncomputable def l282i336i353_0_b (d : Nat) (l1 : List (Int × Int × Int × Int × Int × Int)) (n2 : Int) (kx282i336i353_0_0 : Int → Option Bool) (ag3 : (Int × Int) → Option Bool) (n4 : Int) (n5 : Int) : Option Bool :=
 oif (decide ((n5 : Int) < ((l1.length : Nat) : Int))) (
 oif (decide (0 ≤ (n5 : Int))) (
 obind (l1[(n5 : Int).toNat]?) fun x6 =>
 oif ((x6.1 : Int) == n2) (
 some (decide ((n5 : Int) ≥ 0))) (
 ag3 (n4, (IntKind.i64.wrap (n5 + 1))))) none) (
 kx282i336i353_0_0 n4)
noncomputable def l282i336i353_0 (d : Nat) (l1 : List (Int × Int × Int × Int × Int × Int)) (n2 : Int) (kx282i336i353_0_0 : Int → Option Bool) (ag3 : (Int × Int) → Option Bool) (s : (Int × Int)) : Option Bool := l282i336i353_0_b d l1 n2 kx282i336i353_0_0 ag3 s.1 s.2
theorem e282 (d : Nat) (l1 : List (Int × Int × Int × Int × Int × Int)) (n2 : Int) : g282 (d + 4) l1 n2 =
 iterP (l282i336i353_0 d l1 n2 (j282i336i353_0 d)) fuelN (0, 0) := by kernel_rfl

noncomputable def j286_0 (d : Nat)  (b3 : Bool) : Option Bool :=
 some true
noncomputable def l286_0_b (d : Nat) (l1 : List (Int × Int × Int × Int × Int × Int)) (kx286_0_0 : Bool → Option Bool) (ag2 : (Bool × Int) → Option Bool) (b3 : Bool) (n4 : Int) : Option Bool :=
 oif (decide ((n4 : Int) < ((l1.length : Nat) : Int))) (
 oif (decide (0 ≤ (n4 : Int))) (
 obind (l1[(n4 : Int).toNat]?) fun x5 =>
 obind (g205 d x5) fun r6 =>
 oif (!r6) (
 some false) (
 oif (decide (0 ≤ (n4 : Int))) (
 oif (Nat.ble ((n4 : Int).toNat) l1.length) (
 obind (g282 d (l1.take ((n4 : Int).toNat)) x5.1) fun r7 =>
 oif r7 (
 some false) (
 ag2 (b3, (IntKind.i64.wrap (n4 + 1))))) none) none)) none) (
 kx286_0_0 b3)
noncomputable def l286_0 (d : Nat) (l1 : List (Int × Int × Int × Int × Int × Int)) (kx286_0_0 : Bool → Option Bool) (ag2 : (Bool × Int) → Option Bool) (s : (Bool × Int)) : Option Bool := l286_0_b d l1 kx286_0_0 ag2 s.1 s.2
theorem e286 (d : Nat) (l1 : List (Int × Int × Int × Int × Int × Int)) : g286 (d + 1) l1 =
 iterP (l286_0 d l1 (j286_0 d)) fuelN (false, 0) := by kernel_rfl

noncomputable def j204_0 (d : Nat) (x1 : (Int × Int × (List (Int × Int × Int × Int × Int × Int)) × Int × Int)) (b2 : Bool) : Option Bool :=
 oif b2 (
 some false) (
 obind (g286 d x1.2.2.1) fun r3 =>
 oif r3 (
 obind (g226 d x1.2.2.1) fun r4 =>
 some (decide ((r4 : Int) ≤ x1.2.1))) (
 some false))
theorem e204 (d : Nat) (x1 : (Int × Int × (List (Int × Int × Int × Int × Int × Int)) × Int × Int)) : g204 (d + 1) x1 =
 oif (decide ((x1.1 : Int) < 1)) (
 j204_0 d x1 true) (
 oif (decide ((x1.1 : Int) > 60)) (
 j204_0 d x1 true) (
 oif (decide ((x1.2.1 : Int) < 1)) (
 j204_0 d x1 true) (
 oif (decide ((x1.2.1 : Int) > 90000)) (
 j204_0 d x1 true) (
 oif (decide ((((x1.2.2.1.length : Nat) : Int) : Int) > x1.1)) (
 j204_0 d x1 true) (
 obind (g284 d x1.2.2.2.1) fun r2 =>
 oif (!r2) (
 j204_0 d x1 true) (
 obind (g284 d x1.2.2.2.2) fun r3 =>
 j204_0 d x1 (!r3))))))) := by kernel_rfl

theorem e190 (d : Nat) (x1 : (Int × Int × (List (Int × Int × Int × Int × Int × Int)) × Int × Int)) (x2 : (Int × Int × Int × Int × Int × Int)) : g190 (d + 1) x1 x2 =
 obind (g204 d x1) fun r3 =>
 oif r3 (
 obind (g205 d x2) fun r4 =>
 oif r4 (
 obind (g282 d x1.2.2.1 x2.1) fun r5 =>
 some (!r5)) (
 some false)) (
 some false) := by kernel_rfl

theorem e283 (d : Nat) (l1 : List (Int × Int × Int × Int × Int × Int)) : g283 (d + 1) l1 =
 nilB l1.length (
 some []) (
 oif (Nat.ble ((([] : List (Int × Int × Int × Int × Int × Int)).length + l1.length) * 48) roomMax) (
 some (([] : List (Int × Int × Int × Int × Int × Int)) ++ l1)) none) := by kernel_rfl

theorem e191 (d : Nat) (x1 : (Int × Int × (List (Int × Int × Int × Int × Int × Int)) × Int × Int)) : g191 (d + 1) x1 =
 obind (g283 d x1.2.2.1) fun r2 =>
 some (x1.1, x1.2.1, r2, x1.2.2.2) := by kernel_rfl

theorem e192 (d : Nat) (x1 : (Int × Int × (List (Int × Int × Int × Int × Int × Int)) × Int × Int)) (x2 : (Int × Int × Int × Int × Int × Int)) : g192 (d + 1) x1 x2 =
 oif (decide ((((x1.2.2.1.length : Nat) : Int) : Int) < x1.1)) (
 obind (g226 d x1.2.2.1) fun r3 =>
 some (decide (((IntKind.i64.wrap (r3 + x2.2.2.2.2.2)) : Int) ≤ x1.2.1))) (
 some false) := by kernel_rfl

theorem e193 (d : Nat) (l1 : List (Int × Int × Int × Int × Int × Int)) (n2 : Int) (n3 : Int) : g193 (d + 1) l1 n2 n3 =
 oif (decide (0 ≤ n2) && (decide (n2 < n3) && (decide (n3 ≤ (l1.length : Int)) && Nat.ble l1.length 9223372036854775807))) (some (l1.take n2.toNat ++ l1.drop n3.toNat)) none := by kernel_rfl

theorem e194 (d : Nat) (x1 : (Int × Int × (List (Int × Int × Int × Int × Int × Int)) × Int × Int)) : g194 (d + 1) x1 =
 obind (g284 d x1.2.2.2.1) fun r2 =>
 oif r2 (
 obind (g284 d x1.2.2.2.2) fun r3 =>
 some r3) (
 some false) := by kernel_rfl

noncomputable def j71_0 (d : Nat) (x2 : (Int × Int × Int × Int × Int × Int)) (n7 : Int) (n8 : Int) (n9 : Int) (n10 : Int) (l11 : List Int) (l12 : List (Int × Int × Int × Int × Int × Int)) : Option ((Int × Int × (List (Int × Int × Int × Int × Int × Int)) × Int × Int) × (List Int) × Bool) :=
 oif (Nat.ble ((l12.length + [x2].length) * 48) roomMax) (
 obind (g194 d (n7, n8, (l12 ++ [x2]), n9, n10)) fun r13 =>
 oif (!r13) (
 some ((0, 0, [], 0, 0), [], false)) (
 some ((n7, n8, (l12 ++ [x2]), n9, n10), l11, true))) none
noncomputable def l71_0_b (d : Nat) (x2 : (Int × Int × Int × Int × Int × Int)) (kx71_0_0 : Int → Int → Int → Int → (List Int) → (List (Int × Int × Int × Int × Int × Int)) → Option ((Int × Int × (List (Int × Int × Int × Int × Int × Int)) × Int × Int) × (List Int) × Bool)) (ag6 : ((List Int) × (Int × Int × (List (Int × Int × Int × Int × Int × Int)) × Int × Int)) → Option ((Int × Int × (List (Int × Int × Int × Int × Int × Int)) × Int × Int) × (List Int) × Bool)) (l7 : List Int) (x8 : (Int × Int × (List (Int × Int × Int × Int × Int × Int)) × Int × Int)) : Option ((Int × Int × (List (Int × Int × Int × Int × Int × Int)) × Int × Int) × (List Int) × Bool) :=
 obind (g192 d x8 x2) fun r9 =>
 oif (!r9) (
 oif (Nat.blt 0 x8.2.2.1.length) (
 obind (x8.2.2.1[0]?) fun x10 =>
 oif (Nat.ble ((l7.length + [x10.1].length) * 8) roomMax) (
 obind (g193 d x8.2.2.1 0 1) fun r11 =>
 ag6 ((l7 ++ [x10.1]), (x8.1, x8.2.1, r11, x8.2.2.2.1, (IntKind.i64.wrap (x8.2.2.2.2 + 1))))) none) none) (
 kx71_0_0 x8.1 x8.2.1 x8.2.2.2.1 x8.2.2.2.2 l7 x8.2.2.1)
noncomputable def l71_0 (d : Nat) (x2 : (Int × Int × Int × Int × Int × Int)) (kx71_0_0 : Int → Int → Int → Int → (List Int) → (List (Int × Int × Int × Int × Int × Int)) → Option ((Int × Int × (List (Int × Int × Int × Int × Int × Int)) × Int × Int) × (List Int) × Bool)) (ag6 : ((List Int) × (Int × Int × (List (Int × Int × Int × Int × Int × Int)) × Int × Int)) → Option ((Int × Int × (List (Int × Int × Int × Int × Int × Int)) × Int × Int) × (List Int) × Bool)) (s : ((List Int) × (Int × Int × (List (Int × Int × Int × Int × Int × Int)) × Int × Int))) : Option ((Int × Int × (List (Int × Int × Int × Int × Int × Int)) × Int × Int) × (List Int) × Bool) := l71_0_b d x2 kx71_0_0 ag6 s.1 s.2
theorem e71 (d : Nat) (x1 : (Int × Int × (List (Int × Int × Int × Int × Int × Int)) × Int × Int)) (x2 : (Int × Int × Int × Int × Int × Int)) : g71 (d + 1) x1 x2 =
 obind (g190 d x1 x2) fun r3 =>
 oif (!r3) (
 some ((0, 0, [], 0, 0), [], false)) (
 obind (g191 d x1) fun r4 =>
 oif (decide ((x2.2.2.2.2.2 : Int) > x1.2.1)) (
 oif (Nat.ble ((([] : List Int).length + [x2.1].length) * 8) roomMax) (
 obind (g194 d (r4.1, r4.2.1, r4.2.2.1, r4.2.2.2.1, (IntKind.i64.wrap (r4.2.2.2.2 + 1)))) fun r5 =>
 oif (!r5) (
 some ((0, 0, [], 0, 0), [], false)) (
 some ((r4.1, r4.2.1, r4.2.2.1, r4.2.2.2.1, (IntKind.i64.wrap (r4.2.2.2.2 + 1))), (([] : List Int) ++ [x2.1]), true))) none) (
 iterP (l71_0 d x2 (j71_0 d x2)) fuelN (([] : List Int), r4))) := by kernel_rfl

theorem e142 (d : Nat) (n1 : Int) (n2 : Int) (n3 : Int) : g142 (d + 1) n1 n2 n3 =
 oif (decide ((n1 : Int) ≥ n2)) (
 some (decide ((n1 : Int) ≤ n3))) (
 some false) := by kernel_rfl

theorem e289 (d : Nat) (n1 : Int) : g289 (d + 1) n1 =
 obind (g142 d n1 0 65535) fun r2 =>
 some r2 := by kernel_rfl

theorem e208 (d : Nat) (x1 : (Int × Int × Int × Int × Int × Int)) : g208 (d + 1) x1 =
 obind (g142 d x1.1 1 100000) fun r2 =>
 oif r2 (
 obind (g289 d x1.2.1) fun r3 =>
 oif r3 (
 obind (g289 d x1.2.2.1) fun r4 =>
 oif r4 (
 obind (g289 d x1.2.2.2.1) fun r5 =>
 oif r5 (
 obind (g289 d x1.2.2.2.2.1) fun r6 =>
 oif r6 (
 obind (g142 d x1.2.2.2.2.2 1 1500) fun r7 =>
 some r7) (
 some false)) (
 some false)) (
 some false)) (
 some false)) (
 some false) := by kernel_rfl

theorem e288 (d : Nat) (n1 : Int) : g288 (d + 1) n1 =
 obind (g142 d n1 0 1000000) fun r2 =>
 some r2 := by kernel_rfl

noncomputable def j207_0 (d : Nat) (x1 : (Int × Int × (List (Int × Int × Int × Int × Int × Int)) × Int × Int)) (b3 : Bool) : Option Bool :=
 obind (g142 d x1.1 1 60) fun r4 =>
 oif r4 (
 obind (g142 d x1.2.1 1 90000) fun r5 =>
 oif r5 (
 oif (decide ((((x1.2.2.1.length : Nat) : Int) : Int) ≤ x1.1)) (
 obind (g285 d x1) fun r6 =>
 oif (decide ((r6 : Int) ≤ x1.2.1)) (
 obind (g288 d x1.2.2.2.1) fun r7 =>
 oif r7 (
 obind (g288 d x1.2.2.2.2) fun r8 =>
 some r8) (
 some false)) (
 some false)) (
 some false)) (
 some false)) (
 some false)
noncomputable def l207_0_b (d : Nat) (x1 : (Int × Int × (List (Int × Int × Int × Int × Int × Int)) × Int × Int)) (kx207_0_0 : Bool → Option Bool) (ag2 : (Bool × Int) → Option Bool) (b3 : Bool) (n4 : Int) : Option Bool :=
 oif (decide ((n4 : Int) < ((x1.2.2.1.length : Nat) : Int))) (
 oif (decide (0 ≤ (n4 : Int))) (
 obind (x1.2.2.1[(n4 : Int).toNat]?) fun x5 =>
 obind (g208 d x5) fun r6 =>
 oif (!r6) (
 some false) (
 obind (g210 d x1.2.2.1 x5.1) fun r7 =>
 oif ((r7 : Int) != n4) (
 some false) (
 ag2 (b3, (IntKind.i64.wrap (n4 + 1)))))) none) (
 kx207_0_0 b3)
noncomputable def l207_0 (d : Nat) (x1 : (Int × Int × (List (Int × Int × Int × Int × Int × Int)) × Int × Int)) (kx207_0_0 : Bool → Option Bool) (ag2 : (Bool × Int) → Option Bool) (s : (Bool × Int)) : Option Bool := l207_0_b d x1 kx207_0_0 ag2 s.1 s.2
theorem e207 (d : Nat) (x1 : (Int × Int × (List (Int × Int × Int × Int × Int × Int)) × Int × Int)) : g207 (d + 1) x1 =
 iterP (l207_0 d x1 (j207_0 d x1)) fuelN (false, 0) := by kernel_rfl

theorem e195 (d : Nat) (x1 : (Int × Int × (List (Int × Int × Int × Int × Int × Int)) × Int × Int)) (x2 : (Int × Int × Int × Int × Int × Int)) : g195 (d + 1) x1 x2 =
 obind (g207 d x1) fun r3 =>
 oif r3 (
 obind (g208 d x2) fun r4 =>
 oif r4 (
 obind (g210 d x1.2.2.1 x2.1) fun r5 =>
 some (decide ((r5 : Int) < 0))) (
 some false)) (
 some false) := by kernel_rfl

noncomputable def j198_0 (d : Nat)  (l3 : List Int) : Option (List Int) :=
 some l3
noncomputable def l198_0_b (d : Nat) (l1 : List (Int × Int × Int × Int × Int × Int)) (kx198_0_0 : (List Int) → Option (List Int)) (ag2 : ((List Int) × Int) → Option (List Int)) (l3 : List Int) (n4 : Int) : Option (List Int) :=
 oif (decide ((n4 : Int) < ((l1.length : Nat) : Int))) (
 oif (decide (0 ≤ (n4 : Int))) (
 obind (l1[(n4 : Int).toNat]?) fun x5 =>
 oif (Nat.ble ((l3.length + [x5.1].length) * 8) roomMax) (
 ag2 ((l3 ++ [x5.1]), (IntKind.i64.wrap (n4 + 1)))) none) none) (
 kx198_0_0 l3)
noncomputable def l198_0 (d : Nat) (l1 : List (Int × Int × Int × Int × Int × Int)) (kx198_0_0 : (List Int) → Option (List Int)) (ag2 : ((List Int) × Int) → Option (List Int)) (s : ((List Int) × Int)) : Option (List Int) := l198_0_b d l1 kx198_0_0 ag2 s.1 s.2
theorem e198 (d : Nat) (l1 : List (Int × Int × Int × Int × Int × Int)) : g198 (d + 1) l1 =
 iterP (l198_0 d l1 (j198_0 d)) fuelN ([], 0) := by kernel_rfl

theorem e200 (d : Nat) (x1 : (Int × Int × (List (Int × Int × Int × Int × Int × Int)) × Int × Int)) : g200 (d + 1) x1 =
 obind (g207 d x1) fun r2 =>
 oif (!r2) (
 some ((0, 0, ([] : List (Int × Int × Int × Int × Int × Int)), 0, 0), false)) (
 some (x1, true)) := by kernel_rfl

noncomputable def j72_0 (d : Nat)  (l5 : List Int) (n6 : Int) (n7 : Int) (n8 : Int) (n9 : Int) (l10 : List (Int × Int × Int × Int × Int × Int)) : Option ((Int × Int × (List (Int × Int × Int × Int × Int × Int)) × Int × Int) × (List Int) × Bool) :=
 obind (g200 d (n6, n7, l10, n8, n9)) fun r11 =>
 oif (!r11.2) (
 some ((0, 0, ([] : List (Int × Int × Int × Int × Int × Int)), 0, 0), [], false)) (
 some (r11.1, l5, true))
noncomputable def j72_1 (d : Nat) (x1 : (Int × Int × (List (Int × Int × Int × Int × Int × Int)) × Int × Int)) (x2 : (Int × Int × Int × Int × Int × Int)) (n6 : Int) : Option ((Int × Int × (List (Int × Int × Int × Int × Int × Int)) × Int × Int) × (List Int) × Bool) :=
 oif (decide (0 ≤ (n6 : Int))) (
 oif (Nat.ble ((n6 : Int).toNat) x1.2.2.1.length) (
 obind (g198 d (x1.2.2.1.take ((n6 : Int).toNat))) fun r7 =>
 oif (decide (0 ≤ (n6 : Int))) (
 oif (Nat.ble ((n6 : Int).toNat) x1.2.2.1.length) (
 obind (g196 d x1 (x1.2.2.1.drop ((n6 : Int).toNat)) 0 n6) fun r8 =>
 obind (g199 d r8 x2) fun r9 =>
 j72_0 d r7 r9.1.1 r9.1.2.1 r9.1.2.2.2.1 r9.1.2.2.2.2 r9.1.2.2.1) none) none) none) none
noncomputable def l72_0_b (d : Nat) (x1 : (Int × Int × (List (Int × Int × Int × Int × Int × Int)) × Int × Int)) (x2 : (Int × Int × Int × Int × Int × Int)) (kx72_0_0 : Int → Option ((Int × Int × (List (Int × Int × Int × Int × Int × Int)) × Int × Int) × (List Int) × Bool)) (ag5 : Int → Option ((Int × Int × (List (Int × Int × Int × Int × Int × Int)) × Int × Int) × (List Int) × Bool)) (n6 : Int) : Option ((Int × Int × (List (Int × Int × Int × Int × Int × Int)) × Int × Int) × (List Int) × Bool) :=
 oif (decide (0 ≤ (n6 : Int))) (
 oif (Nat.ble ((n6 : Int).toNat) x1.2.2.1.length) (
 obind (g196 d x1 (x1.2.2.1.drop ((n6 : Int).toNat)) 0 0) fun r7 =>
 obind (g197 d r7 x2) fun r8 =>
 oif (!r8) (
 ag5 (IntKind.i64.wrap (n6 + 1))) (
 kx72_0_0 n6)) none) none
noncomputable def l72_0 (d : Nat) (x1 : (Int × Int × (List (Int × Int × Int × Int × Int × Int)) × Int × Int)) (x2 : (Int × Int × Int × Int × Int × Int)) (kx72_0_0 : Int → Option ((Int × Int × (List (Int × Int × Int × Int × Int × Int)) × Int × Int) × (List Int) × Bool)) (ag5 : Int → Option ((Int × Int × (List (Int × Int × Int × Int × Int × Int)) × Int × Int) × (List Int) × Bool)) (s : Int) : Option ((Int × Int × (List (Int × Int × Int × Int × Int × Int)) × Int × Int) × (List Int) × Bool) := l72_0_b d x1 x2 kx72_0_0 ag5 s
theorem e72 (d : Nat) (x1 : (Int × Int × (List (Int × Int × Int × Int × Int × Int)) × Int × Int)) (x2 : (Int × Int × Int × Int × Int × Int)) : g72 (d + 1) x1 x2 =
 obind (g195 d x1 x2) fun r3 =>
 oif (!r3) (
 some ((0, 0, ([] : List (Int × Int × Int × Int × Int × Int)), 0, 0), [], false)) (
 obind (g196 d x1 x1.2.2.1 0 1) fun r4 =>
 oif (decide ((x2.2.2.2.2.2 : Int) ≤ x1.2.1)) (
 iterP (l72_0 d x1 x2 (j72_1 d x1 x2)) fuelN 0) (
 j72_0 d [x2.1] r4.1 r4.2.1 r4.2.2.2.1 r4.2.2.2.2 r4.2.2.1)) := by kernel_rfl

noncomputable def j73_0 (d : Nat)  (b4 : Bool) : Option Bool :=
 some true
noncomputable def l73_0_b (d : Nat) (l1 : List Int) (l2 : List Int) (kx73_0_0 : Bool → Option Bool) (ag3 : (Bool × Int) → Option Bool) (b4 : Bool) (n5 : Int) : Option Bool :=
 oif (decide ((n5 : Int) < ((l1.length : Nat) : Int))) (
 oif (decide (0 ≤ (n5 : Int))) (
 obind (l1[(n5 : Int).toNat]?) fun n6 =>
 oif (decide (0 ≤ (n5 : Int))) (
 obind (l2[(n5 : Int).toNat]?) fun n7 =>
 oif ((n6 : Int) != n7) (
 some false) (
 ag3 (b4, (IntKind.i64.wrap (n5 + 1))))) none) none) (
 kx73_0_0 b4)
noncomputable def l73_0 (d : Nat) (l1 : List Int) (l2 : List Int) (kx73_0_0 : Bool → Option Bool) (ag3 : (Bool × Int) → Option Bool) (s : (Bool × Int)) : Option Bool := l73_0_b d l1 l2 kx73_0_0 ag3 s.1 s.2
theorem e73 (d : Nat) (l1 : List Int) (l2 : List Int) : g73 (d + 1) l1 l2 =
 oif ((((l1.length : Nat) : Int) : Int) != ((l2.length : Nat) : Int)) (
 some false) (
 iterP (l73_0 d l1 l2 (j73_0 d)) fuelN (false, 0)) := by kernel_rfl

noncomputable def j201_0 (d : Nat)  (b4 : Bool) : Option Bool :=
 some true
noncomputable def l201_0_b (d : Nat) (l1 : List (Int × Int × Int × Int × Int × Int)) (l2 : List (Int × Int × Int × Int × Int × Int)) (kx201_0_0 : Bool → Option Bool) (ag3 : (Bool × Int) → Option Bool) (b4 : Bool) (n5 : Int) : Option Bool :=
 oif (decide ((n5 : Int) < ((l1.length : Nat) : Int))) (
 oif (decide (0 ≤ (n5 : Int))) (
 obind (l1[(n5 : Int).toNat]?) fun x6 =>
 oif (decide (0 ≤ (n5 : Int))) (
 obind (l2[(n5 : Int).toNat]?) fun x7 =>
 oif (!(((x6.1 : Int) == x7.1) && (((x6.2.1 : Int) == x7.2.1) && (((x6.2.2.1 : Int) == x7.2.2.1) && (((x6.2.2.2.1 : Int) == x7.2.2.2.1) && (((x6.2.2.2.2.1 : Int) == x7.2.2.2.2.1) && (((x6.2.2.2.2.2 : Int) == x7.2.2.2.2.2) && true))))))) (
 some false) (
 ag3 (b4, (IntKind.i64.wrap (n5 + 1))))) none) none) (
 kx201_0_0 b4)
noncomputable def l201_0 (d : Nat) (l1 : List (Int × Int × Int × Int × Int × Int)) (l2 : List (Int × Int × Int × Int × Int × Int)) (kx201_0_0 : Bool → Option Bool) (ag3 : (Bool × Int) → Option Bool) (s : (Bool × Int)) : Option Bool := l201_0_b d l1 l2 kx201_0_0 ag3 s.1 s.2
theorem e201 (d : Nat) (l1 : List (Int × Int × Int × Int × Int × Int)) (l2 : List (Int × Int × Int × Int × Int × Int)) : g201 (d + 1) l1 l2 =
 oif ((((l1.length : Nat) : Int) : Int) != ((l2.length : Nat) : Int)) (
 some false) (
 iterP (l201_0 d l1 l2 (j201_0 d)) fuelN (false, 0)) := by kernel_rfl

theorem e74 (d : Nat) (x1 : (Int × Int × (List (Int × Int × Int × Int × Int × Int)) × Int × Int)) (x2 : (Int × Int × (List (Int × Int × Int × Int × Int × Int)) × Int × Int)) : g74 (d + 1) x1 x2 =
 oif ((x1.1 : Int) == x2.1) (
 oif ((x1.2.1 : Int) == x2.2.1) (
 oif ((x1.2.2.2.1 : Int) == x2.2.2.2.1) (
 oif ((x1.2.2.2.2 : Int) == x2.2.2.2.2) (
 obind (g201 d x1.2.2.1 x2.2.2.1) fun r3 =>
 some r3) (
 some false)) (
 some false)) (
 some false)) (
 some false) := by kernel_rfl

noncomputable def j75_0 (d : Nat) (r2 : ((Int × Int × (List (Int × Int × Int × Int × Int × Int)) × Int × Int) × ((List Int) × Int × Int))) (r3 : ((Int × Int × Int × Int × Int × Int) × ((List Int) × Int × Int))) (b4 : Bool) (l5 : List Int) (n6 : Int) (n7 : Int) : Option ((Int × Int × (List (Int × Int × Int × Int × Int × Int)) × Int × Int) × (Int × Int × Int × Int × Int × Int)) :=
 oif b4 (
 obind (g124 d (l5, n6, n7) ((r2.1.2.2.1.length : Nat) : Int)) fun r8 =>
 oif (decide (0 ≤ (r8.1 : Int))) (
 oif (Nat.blt ((r8.1 : Int).toNat) r2.1.2.2.1.length) (
 obind (r2.1.2.2.1[(r8.1 : Int).toNat]?) fun x9 =>
 some (r2.1, x9)) none) none) (
 some (r2.1, r3.1))
theorem e75 (d : Nat) (l1 : List Int) : g75 (d + 1) l1 =
 obind (g202 d (l1, 0, 0)) fun r2 =>
 obind (g203 d r2.2) fun r3 =>
 oif (decide ((((r2.1.2.2.1.length : Nat) : Int) : Int) > 0)) (
 obind (g125 d r3.2 2) fun r4 =>
 j75_0 d r2 r3 r4.1 r4.2.1 r4.2.2.1 r4.2.2.2) (
 j75_0 d r2 r3 false r3.2.1 r3.2.2.1 r3.2.2.2) := by kernel_rfl

theorem e206 (d : Nat) (x1 : (Int × Int × Int × Int × Int × Int)) (x2 : (Int × Int × Int × Int × Int × Int)) : g206 (d + 1) x1 x2 =
 oif ((x1.2.1 : Int) == x2.2.1) (
 oif ((x1.2.2.1 : Int) == x2.2.2.1) (
 some ((x1.2.2.2.1 : Int) == x2.2.2.2.1)) (
 some false)) (
 some false) := by kernel_rfl

noncomputable def j76_0 (d : Nat) (x1 : (Int × Int × (List (Int × Int × Int × Int × Int × Int)) × Int × Int)) (l5 : List (Int × Int × Int × Int × Int × Int)) (l6 : List Int) : Option ((Int × Int × (List (Int × Int × Int × Int × Int × Int)) × Int × Int) × (List Int) × Bool) :=
 obind (g194 d (x1.1, x1.2.1, l5, x1.2.2.2.1, (IntKind.i64.wrap (x1.2.2.2.2 + ((l6.length : Nat) : Int))))) fun r7 =>
 oif (!r7) (
 some ((0, 0, [], 0, 0), [], false)) (
 some ((x1.1, x1.2.1, l5, x1.2.2.2.1, (IntKind.i64.wrap (x1.2.2.2.2 + ((l6.length : Nat) : Int)))), l6, true))
noncomputable def l76_0_b (d : Nat) (x1 : (Int × Int × (List (Int × Int × Int × Int × Int × Int)) × Int × Int)) (x2 : (Int × Int × Int × Int × Int × Int)) (kx76_0_0 : (List (Int × Int × Int × Int × Int × Int)) → (List Int) → Option ((Int × Int × (List (Int × Int × Int × Int × Int × Int)) × Int × Int) × (List Int) × Bool)) (ag4 : ((List (Int × Int × Int × Int × Int × Int)) × (List Int) × Int) → Option ((Int × Int × (List (Int × Int × Int × Int × Int × Int)) × Int × Int) × (List Int) × Bool)) (l5 : List (Int × Int × Int × Int × Int × Int)) (l6 : List Int) (n7 : Int) : Option ((Int × Int × (List (Int × Int × Int × Int × Int × Int)) × Int × Int) × (List Int) × Bool) :=
 oif (decide ((n7 : Int) < ((x1.2.2.1.length : Nat) : Int))) (
 oif (decide (0 ≤ (n7 : Int))) (
 obind (x1.2.2.1[(n7 : Int).toNat]?) fun x8 =>
 obind (g206 d x8 x2) fun r9 =>
 oif r9 (
 oif (Nat.ble ((l6.length + [x8.1].length) * 8) roomMax) (
 ag4 (l5, (l6 ++ [x8.1]), (IntKind.i64.wrap (n7 + 1)))) none) (
 oif (Nat.ble ((l5.length + [x8].length) * 48) roomMax) (
 ag4 ((l5 ++ [x8]), l6, (IntKind.i64.wrap (n7 + 1)))) none)) none) (
 kx76_0_0 l5 l6)
noncomputable def l76_0 (d : Nat) (x1 : (Int × Int × (List (Int × Int × Int × Int × Int × Int)) × Int × Int)) (x2 : (Int × Int × Int × Int × Int × Int)) (kx76_0_0 : (List (Int × Int × Int × Int × Int × Int)) → (List Int) → Option ((Int × Int × (List (Int × Int × Int × Int × Int × Int)) × Int × Int) × (List Int) × Bool)) (ag4 : ((List (Int × Int × Int × Int × Int × Int)) × (List Int) × Int) → Option ((Int × Int × (List (Int × Int × Int × Int × Int × Int)) × Int × Int) × (List Int) × Bool)) (s : ((List (Int × Int × Int × Int × Int × Int)) × (List Int) × Int)) : Option ((Int × Int × (List (Int × Int × Int × Int × Int × Int)) × Int × Int) × (List Int) × Bool) := l76_0_b d x1 x2 kx76_0_0 ag4 s.1 s.2.1 s.2.2
noncomputable def j76_1 (d : Nat) (x1 : (Int × Int × (List (Int × Int × Int × Int × Int × Int)) × Int × Int)) (x2 : (Int × Int × Int × Int × Int × Int)) (b3 : Bool) : Option ((Int × Int × (List (Int × Int × Int × Int × Int × Int)) × Int × Int) × (List Int) × Bool) :=
 oif b3 (
 some ((0, 0, [], 0, 0), [], false)) (
 iterP (l76_0 d x1 x2 (j76_0 d x1)) fuelN (([] : List (Int × Int × Int × Int × Int × Int)), ([] : List Int), 0))
theorem e76 (d : Nat) (x1 : (Int × Int × (List (Int × Int × Int × Int × Int × Int)) × Int × Int)) (x2 : (Int × Int × Int × Int × Int × Int)) : g76 (d + 1) x1 x2 =
 obind (g204 d x1) fun r3 =>
 oif (!r3) (
 j76_1 d x1 x2 true) (
 obind (g205 d x2) fun r4 =>
 j76_1 d x1 x2 (!r4)) := by kernel_rfl

noncomputable def j209_0 (d : Nat) (x1 : (Int × Int × Int × Int × Int × Int)) (x2 : (Int × Int × Int × Int × Int × Int)) (b3 : Bool) : Option (Bool × Bool) :=
 oif b3 (
 some (false, false)) (
 oif ((x1.2.1 : Int) == x2.2.1) (
 oif ((x1.2.2.1 : Int) == x2.2.2.1) (
 some (((x1.2.2.2.1 : Int) == x2.2.2.2.1), true)) (
 some (false, true))) (
 some (false, true)))
theorem e209 (d : Nat) (x1 : (Int × Int × Int × Int × Int × Int)) (x2 : (Int × Int × Int × Int × Int × Int)) : g209 (d + 1) x1 x2 =
 obind (g208 d x1) fun r3 =>
 oif (!r3) (
 j209_0 d x1 x2 true) (
 obind (g208 d x2) fun r4 =>
 j209_0 d x1 x2 (!r4)) := by kernel_rfl

noncomputable def j77_0 (d : Nat) (x1 : (Int × Int × (List (Int × Int × Int × Int × Int × Int)) × Int × Int)) (l5 : List (Int × Int × Int × Int × Int × Int)) (l6 : List (Int × Int × Int × Int × Int × Int)) : Option ((Int × Int × (List (Int × Int × Int × Int × Int × Int)) × Int × Int) × (List Int) × Bool) :=
 obind (g196 d x1 l5 0 ((l6.length : Nat) : Int)) fun r7 =>
 obind (g200 d r7) fun r8 =>
 oif (!r8.2) (
 some ((0, 0, ([] : List (Int × Int × Int × Int × Int × Int)), 0, 0), [], false)) (
 obind (g198 d l6) fun r9 =>
 some (r8.1, r9, true))
noncomputable def l77_0_b (d : Nat) (x1 : (Int × Int × (List (Int × Int × Int × Int × Int × Int)) × Int × Int)) (x2 : (Int × Int × Int × Int × Int × Int)) (kx77_0_0 : (List (Int × Int × Int × Int × Int × Int)) → (List (Int × Int × Int × Int × Int × Int)) → Option ((Int × Int × (List (Int × Int × Int × Int × Int × Int)) × Int × Int) × (List Int) × Bool)) (ag4 : ((List (Int × Int × Int × Int × Int × Int)) × (List (Int × Int × Int × Int × Int × Int)) × Int) → Option ((Int × Int × (List (Int × Int × Int × Int × Int × Int)) × Int × Int) × (List Int) × Bool)) (l5 : List (Int × Int × Int × Int × Int × Int)) (l6 : List (Int × Int × Int × Int × Int × Int)) (n7 : Int) : Option ((Int × Int × (List (Int × Int × Int × Int × Int × Int)) × Int × Int) × (List Int) × Bool) :=
 oif (decide ((n7 : Int) < ((x1.2.2.1.length : Nat) : Int))) (
 oif (decide (0 ≤ (n7 : Int))) (
 obind (x1.2.2.1[(n7 : Int).toNat]?) fun x8 =>
 obind (g209 d x8 x2) fun r9 =>
 oif r9.1 (
 oif (Nat.ble ((l6.length + [x8].length) * 48) roomMax) (
 ag4 (l5, (l6 ++ [x8]), (IntKind.i64.wrap (n7 + 1)))) none) (
 oif (Nat.ble ((l5.length + [x8].length) * 48) roomMax) (
 ag4 ((l5 ++ [x8]), l6, (IntKind.i64.wrap (n7 + 1)))) none)) none) (
 kx77_0_0 l5 l6)
noncomputable def l77_0 (d : Nat) (x1 : (Int × Int × (List (Int × Int × Int × Int × Int × Int)) × Int × Int)) (x2 : (Int × Int × Int × Int × Int × Int)) (kx77_0_0 : (List (Int × Int × Int × Int × Int × Int)) → (List (Int × Int × Int × Int × Int × Int)) → Option ((Int × Int × (List (Int × Int × Int × Int × Int × Int)) × Int × Int) × (List Int) × Bool)) (ag4 : ((List (Int × Int × Int × Int × Int × Int)) × (List (Int × Int × Int × Int × Int × Int)) × Int) → Option ((Int × Int × (List (Int × Int × Int × Int × Int × Int)) × Int × Int) × (List Int) × Bool)) (s : ((List (Int × Int × Int × Int × Int × Int)) × (List (Int × Int × Int × Int × Int × Int)) × Int)) : Option ((Int × Int × (List (Int × Int × Int × Int × Int × Int)) × Int × Int) × (List Int) × Bool) := l77_0_b d x1 x2 kx77_0_0 ag4 s.1 s.2.1 s.2.2
noncomputable def j77_1 (d : Nat) (x1 : (Int × Int × (List (Int × Int × Int × Int × Int × Int)) × Int × Int)) (x2 : (Int × Int × Int × Int × Int × Int)) (b3 : Bool) : Option ((Int × Int × (List (Int × Int × Int × Int × Int × Int)) × Int × Int) × (List Int) × Bool) :=
 oif b3 (
 some ((0, 0, ([] : List (Int × Int × Int × Int × Int × Int)), 0, 0), [], false)) (
 iterP (l77_0 d x1 x2 (j77_0 d x1)) fuelN ([], [], 0))
theorem e77 (d : Nat) (x1 : (Int × Int × (List (Int × Int × Int × Int × Int × Int)) × Int × Int)) (x2 : (Int × Int × Int × Int × Int × Int)) : g77 (d + 1) x1 x2 =
 obind (g207 d x1) fun r3 =>
 oif (!r3) (
 j77_1 d x1 x2 true) (
 obind (g208 d x2) fun r4 =>
 j77_1 d x1 x2 (!r4)) := by kernel_rfl

theorem e78 (d : Nat) (x1 : (Int × Int × Int × Int × Int × Int)) (x2 : (Int × Int × Int × Int × Int × Int)) : g78 (d + 1) x1 x2 =
 obind (g205 d x1) fun r3 =>
 oif (!r3) (
 some (false, false)) (
 obind (g205 d x2) fun r4 =>
 oif (!r4) (
 some (false, false)) (
 obind (g206 d x1 x2) fun r5 =>
 some (r5, true))) := by kernel_rfl

noncomputable def j79_0 (d : Nat) (r2 : ((Int × Int × (List (Int × Int × Int × Int × Int × Int)) × Int × Int) × ((List Int) × Int × Int))) (r3 : (Int × ((List Int) × Int × Int))) (b4 : Bool) (l5 : List Int) (n6 : Int) (n7 : Int) : Option ((Int × Int × (List (Int × Int × Int × Int × Int × Int)) × Int × Int) × Int × Int) :=
 oif b4 (
 obind (g124 d (l5, n6, n7) ((r2.1.2.2.1.length : Nat) : Int)) fun r8 =>
 oif (decide (0 ≤ (r8.1 : Int))) (
 oif (Nat.blt ((r8.1 : Int).toNat) r2.1.2.2.1.length) (
 obind (r2.1.2.2.1[(r8.1 : Int).toNat]?) fun x9 =>
 obind (g141 d r8.2 [1, 7, 100, 1500, 100000, 100001, 0]) fun r10 =>
 some (r2.1, x9.1, r10.1)) none) none) (
 obind (g141 d (l5, n6, n7) [1, 7, 100, 1500, 100000, 100001, 0]) fun r11 =>
 some (r2.1, r3.1, r11.1))
theorem e79 (d : Nat) (l1 : List Int) : g79 (d + 1) l1 =
 obind (g202 d (l1, 0, 0)) fun r2 =>
 obind (g124 d r2.2 14) fun r3 =>
 oif (decide ((((r2.1.2.2.1.length : Nat) : Int) : Int) > 0)) (
 obind (g125 d r3.2 3) fun r4 =>
 j79_0 d r2 r3 (!r4.1) r4.2.1 r4.2.2.1 r4.2.2.2) (
 j79_0 d r2 r3 false r3.2.1 r3.2.2.1 r3.2.2.2) := by kernel_rfl

noncomputable def j80_0 (d : Nat)  (n6 : Int) (b7 : Bool) : Option (Int × Bool) :=
 some (0, false)
noncomputable def l80_0_b (d : Nat) (x1 : (Int × Int × (List (Int × Int × Int × Int × Int × Int)) × Int × Int)) (n2 : Int) (n3 : Int) (kx80_0_0 : Int → Bool → Option (Int × Bool)) (ag5 : (Int × Bool × Int × Int) → Option (Int × Bool)) (n6 : Int) (b7 : Bool) (n8 : Int) (n9 : Int) : Option (Int × Bool) :=
 oif (decide ((n9 : Int) < ((x1.2.2.1.length : Nat) : Int))) (
 oif (decide (0 ≤ (n9 : Int))) (
 obind (x1.2.2.1[(n9 : Int).toNat]?) fun x10 =>
 oif ((x10.1 : Int) == n2) (
 oif ((n3 : Int) == 0) none (
 some ((IntKind.i64.wrap ((IntKind.i64.wrap ((IntKind.i64.wrap ((IntKind.i64.wrap (n8 + x10.2.2.2.2.2)) + n3)) - 1)).tdiv n3)), true))) (
 ag5 (n6, b7, (IntKind.i64.wrap (n8 + x10.2.2.2.2.2)), (IntKind.i64.wrap (n9 + 1))))) none) (
 kx80_0_0 n6 b7)
noncomputable def l80_0 (d : Nat) (x1 : (Int × Int × (List (Int × Int × Int × Int × Int × Int)) × Int × Int)) (n2 : Int) (n3 : Int) (kx80_0_0 : Int → Bool → Option (Int × Bool)) (ag5 : (Int × Bool × Int × Int) → Option (Int × Bool)) (s : (Int × Bool × Int × Int)) : Option (Int × Bool) := l80_0_b d x1 n2 n3 kx80_0_0 ag5 s.1 s.2.1 s.2.2.1 s.2.2.2
noncomputable def j80_1 (d : Nat) (x1 : (Int × Int × (List (Int × Int × Int × Int × Int × Int)) × Int × Int)) (n2 : Int) (n3 : Int) (b4 : Bool) : Option (Int × Bool) :=
 oif b4 (
 some (0, false)) (
 iterP (l80_0 d x1 n2 n3 (j80_0 d)) fuelN (0, false, 0, 0))
theorem e80 (d : Nat) (x1 : (Int × Int × (List (Int × Int × Int × Int × Int × Int)) × Int × Int)) (n2 : Int) (n3 : Int) : g80 (d + 1) x1 n2 n3 =
 obind (g204 d x1) fun r4 =>
 oif (!r4) (
 j80_1 d x1 n2 n3 true) (
 oif (decide ((n3 : Int) < 1)) (
 j80_1 d x1 n2 n3 true) (
 j80_1 d x1 n2 n3 (decide ((n3 : Int) > 100000)))) := by kernel_rfl

noncomputable def j81_0 (d : Nat) (x1 : (Int × Int × (List (Int × Int × Int × Int × Int × Int)) × Int × Int)) (n2 : Int) (n3 : Int) (b4 : Bool) : Option (Int × Bool) :=
 oif b4 (
 some (0, false)) (
 obind (g210 d x1.2.2.1 n2) fun r5 =>
 oif (decide (0 ≤ ((IntKind.i64.wrap (r5 + 1)) : Int))) (
 oif (Nat.ble (((IntKind.i64.wrap (r5 + 1)) : Int).toNat) x1.2.2.1.length) (
 obind (g211 d (x1.2.2.1.take (((IntKind.i64.wrap (r5 + 1)) : Int).toNat))) fun r6 =>
 oif ((n3 : Int) == 0) none (
 some ((IntKind.i64.wrap ((IntKind.i64.wrap ((IntKind.i64.wrap (r6 + n3)) - 1)).tdiv n3)), true))) none) none)
theorem e81 (d : Nat) (x1 : (Int × Int × (List (Int × Int × Int × Int × Int × Int)) × Int × Int)) (n2 : Int) (n3 : Int) : g81 (d + 1) x1 n2 n3 =
 obind (g207 d x1) fun r4 =>
 oif (!r4) (
 j81_0 d x1 n2 n3 true) (
 obind (g210 d x1.2.2.1 n2) fun r5 =>
 oif (decide ((r5 : Int) < 0)) (
 j81_0 d x1 n2 n3 true) (
 obind (g142 d n3 1 100000) fun r6 =>
 j81_0 d x1 n2 n3 (!r6))) := by kernel_rfl

theorem e82 (d : Nat) (l1 : List Int) : g82 (d + 1) l1 =
 obind (g141 d (l1, 0, 0) [0, 1, 5, 60, 61, (-1)]) fun r2 =>
 obind (g141 d r2.2 [0, 1, 3000, 90000, 90001]) fun r3 =>
 some (r2.1, r3.1) := by kernel_rfl

theorem e83 (d : Nat) (n1 : Int) (n2 : Int) : g83 (d + 1) n1 n2 =
 obind (g204 d (n1, n2, ([] : List (Int × Int × Int × Int × Int × Int)), 0, 0)) fun r3 =>
 oif (!r3) (
 some ((0, 0, [], 0, 0), false)) (
 some ((n1, n2, [], 0, 0), true)) := by kernel_rfl

theorem e84 (d : Nat) (n1 : Int) (n2 : Int) : g84 (d + 1) n1 n2 =
 obind (g207 d (n1, n2, ([] : List (Int × Int × Int × Int × Int × Int)), 0, 0)) fun r3 =>
 oif (!r3) (
 some ((0, 0, [], 0, 0), false)) (
 some ((n1, n2, [], 0, 0), true)) := by kernel_rfl

theorem e212 (d : Nat) (l1 : List Int) : g212 (d + 1) l1 =
 obind (g202 d (l1, 0, 0)) fun r2 =>
 some r2.1 := by kernel_rfl

theorem e85 (d : Nat) (l1 : List Int) : g85 (d + 1) l1 =
 obind (g212 d l1) fun r2 =>
 some r2 := by kernel_rfl

noncomputable def j213_0 (d : Nat)  (l3 : List Int) : Option (List Int) :=
 some l3
noncomputable def l213_0_b (d : Nat) (l1 : List (Int × Int × Int × Int × Int × Int)) (kx213_0_0 : (List Int) → Option (List Int)) (ag2 : ((List Int) × Int) → Option (List Int)) (l3 : List Int) (n4 : Int) : Option (List Int) :=
 oif (decide ((n4 : Int) < ((l1.length : Nat) : Int))) (
 oif (decide (0 ≤ (n4 : Int))) (
 obind (l1[(n4 : Int).toNat]?) fun x5 =>
 oif (Nat.ble ((l3.length + [x5.1].length) * 8) roomMax) (
 ag2 ((l3 ++ [x5.1]), (IntKind.i64.wrap (n4 + 1)))) none) none) (
 kx213_0_0 l3)
noncomputable def l213_0 (d : Nat) (l1 : List (Int × Int × Int × Int × Int × Int)) (kx213_0_0 : (List Int) → Option (List Int)) (ag2 : ((List Int) × Int) → Option (List Int)) (s : ((List Int) × Int)) : Option (List Int) := l213_0_b d l1 kx213_0_0 ag2 s.1 s.2
theorem e213 (d : Nat) (l1 : List (Int × Int × Int × Int × Int × Int)) : g213 (d + 1) l1 =
 iterP (l213_0 d l1 (j213_0 d)) fuelN (([] : List Int), 0) := by kernel_rfl

noncomputable def j86_0 (d : Nat) (x1 : (Int × Int × (List (Int × Int × Int × Int × Int × Int)) × Int × Int)) (b2 : Bool) : Option ((Int × Int × (List (Int × Int × Int × Int × Int × Int)) × Int × Int) × (List Int) × Bool) :=
 oif b2 (
 some ((0, 0, [], 0, 0), [], false)) (
 obind (g213 d x1.2.2.1) fun r3 =>
 some ((x1.1, x1.2.1, [], (IntKind.i64.wrap (x1.2.2.2.1 + ((x1.2.2.1.length : Nat) : Int))), x1.2.2.2.2), r3, true))
theorem e86 (d : Nat) (x1 : (Int × Int × (List (Int × Int × Int × Int × Int × Int)) × Int × Int)) : g86 (d + 1) x1 =
 obind (g204 d x1) fun r2 =>
 oif (!r2) (
 j86_0 d x1 true) (
 j86_0 d x1 (decide (((IntKind.i64.wrap (x1.2.2.2.1 + ((x1.2.2.1.length : Nat) : Int))) : Int) > 1000000))) := by kernel_rfl

theorem e87 (d : Nat) (x1 : (Int × Int × (List (Int × Int × Int × Int × Int × Int)) × Int × Int)) : g87 (d + 1) x1 =
 obind (g207 d x1) fun r2 =>
 oif (!r2) (
 some ((0, 0, ([] : List (Int × Int × Int × Int × Int × Int)), 0, 0), [], false)) (
 obind (g196 d x1 ([] : List (Int × Int × Int × Int × Int × Int)) ((x1.2.2.1.length : Nat) : Int) 0) fun r3 =>
 obind (g200 d r3) fun r4 =>
 oif (!r4.2) (
 some ((0, 0, ([] : List (Int × Int × Int × Int × Int × Int)), 0, 0), [], false)) (
 obind (g198 d x1.2.2.1) fun r5 =>
 some (r4.1, r5, true))) := by kernel_rfl

noncomputable def j7_0 (d : Nat) (l2 : List Int)  : Option Bool :=
 obind (g82 d l2) fun r19 =>
 obind (g83 d r19.1 r19.2) fun r20 =>
 obind (g84 d r19.1 r19.2) fun r21 =>
 obind (g85 d l2) fun r22 =>
 obind (g86 d r22) fun r23 =>
 obind (g87 d r22) fun r24 =>
 oif (r20.2 == r21.2) (
 obind (g74 d r20.1 r21.1) fun r25 =>
 oif r25 (
 oif (r23.2.2 == r24.2.2) (
 obind (g73 d r23.2.1 r24.2.1) fun r26 =>
 oif r26 (
 obind (g74 d r23.1 r24.1) fun r27 =>
 oif r27 (
 oif (!r23.2.2) (
 some true) (
 some ((((r24.2.1.length : Nat) : Int) : Int) == ((r22.2.2.1.length : Nat) : Int)))) (
 some false)) (
 some false)) (
 some false)) (
 some false)) (
 some false)
noncomputable def j7_1 (d : Nat) (l2 : List Int) (r15 : ((Int × Int × (List (Int × Int × Int × Int × Int × Int)) × Int × Int) × Int × Int)) (r16 : (Int × Bool)) (b18 : Bool) : Option Bool :=
 oif b18 (
 some false) (
 oif r16.2 (
 oif (decide (0 ≤ ((IntKind.i64.wrap (((r15.1.2.2.1.length : Nat) : Int) - 1)) : Int))) (
 oif (Nat.blt (((IntKind.i64.wrap (((r15.1.2.2.1.length : Nat) : Int) - 1)) : Int).toNat) r15.1.2.2.1.length) (
 obind (r15.1.2.2.1[((IntKind.i64.wrap (((r15.1.2.2.1.length : Nat) : Int) - 1)) : Int).toNat]?) fun x19 =>
 obind (g80 d r15.1 x19.1 r15.2.2) fun r20 =>
 oif (!r20.2) (
 some false) (
 oif (decide ((r20.1 : Int) < r16.1)) (
 some false) (
 j7_0 d l2))) none) none) (
 j7_0 d l2))
noncomputable def j7_2 (d : Nat) (l2 : List Int) (b14 : Bool) : Option Bool :=
 obind (g79 d l2) fun r15 =>
 obind (g80 d r15.1 r15.2.1 r15.2.2) fun r16 =>
 obind (g81 d r15.1 r15.2.1 r15.2.2) fun r17 =>
 oif (!(r16.2 == r17.2)) (
 j7_1 d l2 r15 r16 true) (
 j7_1 d l2 r15 r16 ((r16.1 : Int) != r17.1))
noncomputable def j7_3 (d : Nat) (l2 : List Int) (r10 : ((Int × Int × (List (Int × Int × Int × Int × Int × Int)) × Int × Int) × (Int × Int × Int × Int × Int × Int))) (r12 : ((Int × Int × (List (Int × Int × Int × Int × Int × Int)) × Int × Int) × (List Int) × Bool)) (b15 : Bool) : Option Bool :=
 oif (((IntKind.i64.wrap (((r12.1.2.2.1.length : Nat) : Int) + ((r12.2.1.length : Nat) : Int))) : Int) != ((r10.1.2.2.1.length : Nat) : Int)) (
 some false) (
 j7_2 d l2 b15)
noncomputable def l7_1_b (d : Nat) (r10 : ((Int × Int × (List (Int × Int × Int × Int × Int × Int)) × Int × Int) × (Int × Int × Int × Int × Int × Int))) (r12 : ((Int × Int × (List (Int × Int × Int × Int × Int × Int)) × Int × Int) × (List Int) × Bool)) (kx7_1_0 : Bool → Option Bool) (ag14 : (Bool × Int) → Option Bool) (b15 : Bool) (n16 : Int) : Option Bool :=
 oif (decide ((n16 : Int) < ((r12.1.2.2.1.length : Nat) : Int))) (
 oif (decide (0 ≤ (n16 : Int))) (
 obind (r12.1.2.2.1[(n16 : Int).toNat]?) fun x17 =>
 obind (g78 d x17 r10.2) fun r18 =>
 oif (!r18.2) (
 some false) (
 oif r18.1 (
 some false) (
 ag14 (b15, (IntKind.i64.wrap (n16 + 1)))))) none) (
 kx7_1_0 b15)
noncomputable def l7_1 (d : Nat) (r10 : ((Int × Int × (List (Int × Int × Int × Int × Int × Int)) × Int × Int) × (Int × Int × Int × Int × Int × Int))) (r12 : ((Int × Int × (List (Int × Int × Int × Int × Int × Int)) × Int × Int) × (List Int) × Bool)) (kx7_1_0 : Bool → Option Bool) (ag14 : (Bool × Int) → Option Bool) (s : (Bool × Int)) : Option Bool := l7_1_b d r10 r12 kx7_1_0 ag14 s.1 s.2
noncomputable def j7_4 (d : Nat) (l2 : List Int) (b9 : Bool) (r10 : ((Int × Int × (List (Int × Int × Int × Int × Int × Int)) × Int × Int) × (Int × Int × Int × Int × Int × Int))) (r11 : ((Int × Int × (List (Int × Int × Int × Int × Int × Int)) × Int × Int) × (List Int) × Bool)) (r12 : ((Int × Int × (List (Int × Int × Int × Int × Int × Int)) × Int × Int) × (List Int) × Bool)) (b13 : Bool) : Option Bool :=
 oif b13 (
 some false) (
 oif r11.2.2 (
 iterP (l7_1 d r10 r12 (j7_3 d l2 r10 r12)) fuelN (b9, 0)) (
 j7_2 d l2 b9))
noncomputable def j7_5 (d : Nat) (l2 : List Int) (b9 : Bool) : Option Bool :=
 obind (g75 d l2) fun r10 =>
 obind (g76 d r10.1 r10.2) fun r11 =>
 obind (g77 d r10.1 r10.2) fun r12 =>
 oif (!(r11.2.2 == r12.2.2)) (
 j7_4 d l2 b9 r10 r11 r12 true) (
 obind (g73 d r11.2.1 r12.2.1) fun r13 =>
 oif (!r13) (
 j7_4 d l2 b9 r10 r11 r12 true) (
 obind (g74 d r11.1 r12.1) fun r14 =>
 j7_4 d l2 b9 r10 r11 r12 (!r14)))
noncomputable def j7_6 (d : Nat) (l2 : List Int) (b11 : Bool) : Option Bool :=
 j7_5 d l2 b11
noncomputable def l7_0_b (d : Nat) (r4 : ((Int × Int × (List (Int × Int × Int × Int × Int × Int)) × Int × Int) × (Int × Int × Int × Int × Int × Int))) (r6 : ((Int × Int × (List (Int × Int × Int × Int × Int × Int)) × Int × Int) × (List Int) × Bool)) (kx7_0_0 : Bool → Option Bool) (ag10 : (Bool × Int) → Option Bool) (b11 : Bool) (n12 : Int) : Option Bool :=
 oif (decide ((n12 : Int) < ((r6.2.1.length : Nat) : Int))) (
 oif (decide (0 ≤ (n12 : Int))) (
 oif (Nat.blt ((n12 : Int).toNat) r6.2.1.length) (
 obind (r6.2.1[(n12 : Int).toNat]?) fun n13 =>
 oif (decide (0 ≤ (n12 : Int))) (
 oif (Nat.blt ((n12 : Int).toNat) r4.1.2.2.1.length) (
 obind (r4.1.2.2.1[(n12 : Int).toNat]?) fun x14 =>
 oif ((x14.1 : Int) != n13) (
 some false) (
 ag10 (b11, (IntKind.i64.wrap (n12 + 1))))) none) none) none) none) (
 kx7_0_0 b11)
noncomputable def l7_0 (d : Nat) (r4 : ((Int × Int × (List (Int × Int × Int × Int × Int × Int)) × Int × Int) × (Int × Int × Int × Int × Int × Int))) (r6 : ((Int × Int × (List (Int × Int × Int × Int × Int × Int)) × Int × Int) × (List Int) × Bool)) (kx7_0_0 : Bool → Option Bool) (ag10 : (Bool × Int) → Option Bool) (s : (Bool × Int)) : Option Bool := l7_0_b d r4 r6 kx7_0_0 ag10 s.1 s.2
noncomputable def j7_7 (d : Nat) (l2 : List Int) (r4 : ((Int × Int × (List (Int × Int × Int × Int × Int × Int)) × Int × Int) × (Int × Int × Int × Int × Int × Int))) (r6 : ((Int × Int × (List (Int × Int × Int × Int × Int × Int)) × Int × Int) × (List Int) × Bool)) (b9 : Bool) : Option Bool :=
 oif b9 (
 some false) (
 iterP (l7_0 d r4 r6 (j7_6 d l2)) fuelN (false, 0))
noncomputable def j7_8 (d : Nat) (l2 : List Int) (r4 : ((Int × Int × (List (Int × Int × Int × Int × Int × Int)) × Int × Int) × (Int × Int × Int × Int × Int × Int))) (r6 : ((Int × Int × (List (Int × Int × Int × Int × Int × Int)) × Int × Int) × (List Int) × Bool)) (b8 : Bool) : Option Bool :=
 oif b8 (
 oif ((((r6.1.2.2.1.length : Nat) : Int) : Int) == 0) (
 j7_7 d l2 r4 r6 true) (
 oif (decide (0 ≤ ((IntKind.i64.wrap (((r6.1.2.2.1.length : Nat) : Int) - 1)) : Int))) (
 obind (r6.1.2.2.1[((IntKind.i64.wrap (((r6.1.2.2.1.length : Nat) : Int) - 1)) : Int).toNat]?) fun x9 =>
 oif (!(((x9.1 : Int) == r4.2.1) && (((x9.2.1 : Int) == r4.2.2.1) && (((x9.2.2.1 : Int) == r4.2.2.2.1) && (((x9.2.2.2.1 : Int) == r4.2.2.2.2.1) && (((x9.2.2.2.2.1 : Int) == r4.2.2.2.2.2.1) && (((x9.2.2.2.2.2 : Int) == r4.2.2.2.2.2.2) && true))))))) (
 j7_7 d l2 r4 r6 true) (
 j7_7 d l2 r4 r6 (((IntKind.i64.wrap (((r6.2.1.length : Nat) : Int) + ((r6.1.2.2.1.length : Nat) : Int))) : Int) != (IntKind.i64.wrap (((r4.1.2.2.1.length : Nat) : Int) + 1))))) none)) (
 j7_5 d l2 false)
noncomputable def j7_9 (d : Nat) (l2 : List Int) (r4 : ((Int × Int × (List (Int × Int × Int × Int × Int × Int)) × Int × Int) × (Int × Int × Int × Int × Int × Int))) (r5 : ((Int × Int × (List (Int × Int × Int × Int × Int × Int)) × Int × Int) × (List Int) × Bool)) (r6 : ((Int × Int × (List (Int × Int × Int × Int × Int × Int)) × Int × Int) × (List Int) × Bool)) (b7 : Bool) : Option Bool :=
 oif b7 (
 some false) (
 oif r5.2.2 (
 j7_8 d l2 r4 r6 (decide ((r4.2.2.2.2.2.2 : Int) ≤ r4.1.2.1))) (
 j7_8 d l2 r4 r6 false))
theorem e7 (d : Nat) (l1 : List Int) (l2 : List Int) : g7 (d + 1) l1 l2 =
 obind (g53 d l1 l2) fun r3 =>
 oif r3 (
 some true) (
 obind (g70 d l1) fun r4 =>
 obind (g71 d r4.1 r4.2) fun r5 =>
 obind (g72 d r4.1 r4.2) fun r6 =>
 oif (!(r5.2.2 == r6.2.2)) (
 j7_9 d l2 r4 r5 r6 true) (
 obind (g73 d r5.2.1 r6.2.1) fun r7 =>
 oif (!r7) (
 j7_9 d l2 r4 r5 r6 true) (
 obind (g74 d r5.1 r6.1) fun r8 =>
 j7_9 d l2 r4 r5 r6 (!r8)))) := by kernel_rfl

end Go.Proofs.Ytaggjheabeoohaa
