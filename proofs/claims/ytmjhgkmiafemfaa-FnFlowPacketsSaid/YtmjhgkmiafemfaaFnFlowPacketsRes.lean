/-
  The residual forms of the program's functions under the interpreter by value, printed by program (wip/pv/gen2.py); each equation is checked by the kernel.
  Conditions: none.
-/
import Derived.Test.YtmjhgkmiafemfaaVDef
import Derived.Test.YtmjhgkmiafemfaaProg
import Derived.KernelRfl
set_option linter.all false
set_option maxRecDepth 1000000
namespace Go.Proofs.Ytmjhgkmiafemfaa
open Go.Ev Go.Pv

theorem fuel_is : ∃ n : Nat, n = 4194304 := ⟨_, rfl⟩
noncomputable def fuelN : Nat := Classical.choose fuel_is
theorem fuelN_eq : fuelN = 4194304 := Classical.choose_spec fuel_is
def pvSig : FuncId → Sig
  | 4 => ⟨[(.ro, (.sl (.int .u8))), (.ro, (.sl (.int .u8)))], [(false, .bool)]⟩
  | 29 => ⟨[(.ro, (.sl (.int .u8)))], [(false, (.pair (.int .i64) (.pair (.int .i64) (.pair (.int .i64) (.pair (.int .i64) (.pair (.int .i64) (.pair (.int .i64) (.pair (.int .i64) (.pair (.int .i64) (.int .i64)))))))))), (false, (.int .i64))]⟩
  | 30 => ⟨[(.ro, (.pair (.int .i64) (.pair (.int .i64) (.pair (.int .i64) (.pair (.int .i64) (.pair (.int .i64) (.pair (.int .i64) (.pair (.int .i64) (.pair (.int .i64) (.int .i64)))))))))), (.ro, (.int .i64))], [(true, (.sl (.pair (.int .i64) (.pair (.int .i64) (.pair (.int .i64) (.pair (.int .i64) (.pair (.int .i64) (.pair (.int .i64) (.int .i64))))))))), (false, .bool)]⟩
  | 31 => ⟨[(.ro, (.pair (.int .i64) (.pair (.int .i64) (.pair (.int .i64) (.pair (.int .i64) (.pair (.int .i64) (.pair (.int .i64) (.pair (.int .i64) (.pair (.int .i64) (.int .i64)))))))))), (.ro, (.int .i64))], [(true, (.sl (.pair (.int .i64) (.pair (.int .i64) (.pair (.int .i64) (.pair (.int .i64) (.pair (.int .i64) (.pair (.int .i64) (.int .i64))))))))), (false, .bool)]⟩
  | 32 => ⟨[(.ro, (.sl (.int .u8)))], [(false, (.pair (.int .i64) (.pair (.int .i64) (.pair (.int .i64) (.pair (.int .i64) (.pair (.int .i64) (.pair (.int .i64) (.pair (.int .i64) (.pair (.int .i64) (.int .i64)))))))))), (false, (.int .i64))]⟩
  | 33 => ⟨[(.ro, (.pair (.int .i64) (.pair (.int .i64) (.pair (.int .i64) (.pair (.int .i64) (.pair (.int .i64) (.pair (.int .i64) (.pair (.int .i64) (.pair (.int .i64) (.int .i64)))))))))), (.ro, (.int .i64))], [(false, (.pair (.int .i64) (.pair (.int .i64) (.pair (.int .i64) (.pair (.int .i64) (.pair (.int .i64) (.pair (.int .i64) (.int .i64)))))))), (false, .bool)]⟩
  | 34 => ⟨[(.ro, (.pair (.int .i64) (.pair (.int .i64) (.pair (.int .i64) (.pair (.int .i64) (.pair (.int .i64) (.pair (.int .i64) (.pair (.int .i64) (.pair (.int .i64) (.int .i64)))))))))), (.ro, (.int .i64))], [(false, (.pair (.int .i64) (.pair (.int .i64) (.pair (.int .i64) (.pair (.int .i64) (.pair (.int .i64) (.pair (.int .i64) (.int .i64)))))))), (false, .bool)]⟩
  | 35 => ⟨[(.ro, (.sl (.int .u8)))], [(false, (.pair (.int .i64) (.pair (.int .i64) (.pair (.int .i64) (.pair (.int .i64) (.pair (.int .i64) (.pair (.int .i64) (.pair (.int .i64) (.pair (.int .i64) (.int .i64)))))))))), (false, (.int .i64))]⟩
  | 36 => ⟨[(.ro, (.pair (.int .i64) (.pair (.int .i64) (.pair (.int .i64) (.pair (.int .i64) (.pair (.int .i64) (.pair (.int .i64) (.pair (.int .i64) (.pair (.int .i64) (.int .i64)))))))))), (.ro, (.int .i64))], [(true, (.sl (.int .i64))), (false, .bool)]⟩
  | 37 => ⟨[(.ro, (.pair (.int .i64) (.pair (.int .i64) (.pair (.int .i64) (.pair (.int .i64) (.pair (.int .i64) (.pair (.int .i64) (.pair (.int .i64) (.pair (.int .i64) (.int .i64)))))))))), (.ro, (.int .i64))], [(true, (.sl (.int .i64))), (false, .bool)]⟩
  | 38 => ⟨[(.ro, (.sl (.int .u8)))], [(false, (.pair (.int .i64) (.pair (.int .i64) (.pair (.int .i64) (.pair (.int .i64) (.pair (.int .i64) (.pair (.int .i64) (.pair (.int .i64) (.pair (.int .i64) (.int .i64)))))))))), (false, (.int .i64))]⟩
  | 39 => ⟨[(.ro, (.pair (.int .i64) (.pair (.int .i64) (.pair (.int .i64) (.pair (.int .i64) (.pair (.int .i64) (.pair (.int .i64) (.pair (.int .i64) (.pair (.int .i64) (.int .i64)))))))))), (.ro, (.int .i64))], [(false, (.pair (.int .i64) (.pair (.int .i64) (.pair (.int .i64) (.pair (.int .i64) (.pair (.int .i64) (.pair (.int .i64) (.pair (.int .i64) (.pair (.int .i64) (.int .i64)))))))))), (false, .bool)]⟩
  | 40 => ⟨[(.ro, (.pair (.int .i64) (.pair (.int .i64) (.pair (.int .i64) (.pair (.int .i64) (.pair (.int .i64) (.pair (.int .i64) (.pair (.int .i64) (.pair (.int .i64) (.int .i64)))))))))), (.ro, (.int .i64))], [(false, (.pair (.int .i64) (.pair (.int .i64) (.pair (.int .i64) (.pair (.int .i64) (.pair (.int .i64) (.pair (.int .i64) (.pair (.int .i64) (.pair (.int .i64) (.int .i64)))))))))), (false, .bool)]⟩
  | 41 => ⟨[(.ro, (.sl (.int .u8)))], [(true, (.sl (.int .i64))), (false, (.int .i64))]⟩
  | 42 => ⟨[(.ro, (.sl (.int .i64))), (.ro, (.int .i64))], [(false, (.int .i64)), (false, .bool)]⟩
  | 43 => ⟨[(.ro, (.sl (.int .i64))), (.ro, (.int .i64))], [(false, (.int .i64)), (false, .bool)]⟩
  | 44 => ⟨[(.ro, (.sl (.int .i64)))], [(false, (.int .i64)), (false, .bool)]⟩
  | 45 => ⟨[(.ro, (.sl (.int .i64)))], [(false, (.int .i64)), (false, .bool)]⟩
  | 46 => ⟨[(.ro, (.sl (.pair (.int .i64) (.pair (.int .i64) (.pair (.int .i64) (.pair (.int .i64) (.pair (.int .i64) (.pair (.int .i64) (.int .i64))))))))), (.ro, (.sl (.pair (.int .i64) (.pair (.int .i64) (.pair (.int .i64) (.pair (.int .i64) (.pair (.int .i64) (.pair (.int .i64) (.int .i64)))))))))], [(false, .bool)]⟩
  | 47 => ⟨[(.ro, (.sl (.int .i64))), (.ro, (.sl (.int .i64)))], [(false, .bool)]⟩
  | 48 => ⟨[(.ro, (.pair (.int .i64) (.pair (.int .i64) (.pair (.int .i64) (.pair (.int .i64) (.pair (.int .i64) (.pair (.int .i64) (.pair (.int .i64) (.pair (.int .i64) (.int .i64))))))))))], [(false, .bool)]⟩
  | 49 => ⟨[(.ro, (.pair (.int .i64) (.pair (.int .i64) (.pair (.int .i64) (.pair (.int .i64) (.pair (.int .i64) (.pair (.int .i64) (.pair (.int .i64) (.pair (.int .i64) (.int .i64))))))))))], [(false, .bool)]⟩
  | 50 => ⟨[(.ro, (.pair (.int .i64) (.pair (.int .i64) (.pair (.int .i64) (.pair (.int .i64) (.pair (.int .i64) (.int .i64)))))))], [(false, .bool)]⟩
  | 158 => ⟨[(.ps, (.pair (.sl (.int .u8)) (.pair (.int .i64) (.int .u64)))), (.ro, (.sl (.int .i64)))], [(false, (.int .i64))]⟩
  | 170 => ⟨[(.ps, (.pair (.sl (.int .u8)) (.pair (.int .i64) (.int .u64))))], [(false, (.pair (.int .i64) (.pair (.int .i64) (.pair (.int .i64) (.pair (.int .i64) (.pair (.int .i64) (.pair (.int .i64) (.pair (.int .i64) (.pair (.int .i64) (.int .i64))))))))))]⟩
  | 171 => ⟨[(.ps, (.pair (.sl (.int .u8)) (.pair (.int .i64) (.int .u64))))], [(false, (.int .i64))]⟩
  | 172 => ⟨[(.ro, (.int .i64))], [(false, .bool)]⟩
  | 173 => ⟨[(.ro, (.pair (.int .i64) (.pair (.int .i64) (.pair (.int .i64) (.pair (.int .i64) (.pair (.int .i64) (.pair (.int .i64) (.pair (.int .i64) (.pair (.int .i64) (.int .i64)))))))))), (.ro, (.int .i64))], [(true, (.sl (.pair (.int .i64) (.pair (.int .i64) (.pair (.int .i64) (.pair (.int .i64) (.pair (.int .i64) (.pair (.int .i64) (.int .i64)))))))))]⟩
  | 174 => ⟨[(.ro, (.pair (.int .i64) (.pair (.int .i64) (.pair (.int .i64) (.pair (.int .i64) (.pair (.int .i64) (.pair (.int .i64) (.pair (.int .i64) (.pair (.int .i64) (.int .i64))))))))))], [(false, .bool)]⟩
  | 175 => ⟨[(.ro, (.int .i64))], [(false, .bool)]⟩
  | 176 => ⟨[(.ro, (.pair (.int .i64) (.pair (.int .i64) (.pair (.int .i64) (.pair (.int .i64) (.pair (.int .i64) (.pair (.int .i64) (.pair (.int .i64) (.pair (.int .i64) (.int .i64)))))))))), (.ro, (.int .i64))], [(true, (.sl (.pair (.int .i64) (.pair (.int .i64) (.pair (.int .i64) (.pair (.int .i64) (.pair (.int .i64) (.pair (.int .i64) (.int .i64)))))))))]⟩
  | 177 => ⟨[(.ps, (.pair (.sl (.int .u8)) (.pair (.int .i64) (.int .u64)))), (.ro, (.int .i64))], [(false, (.int .i64))]⟩
  | 178 => ⟨[(.ro, (.pair (.int .i64) (.pair (.int .i64) (.pair (.int .i64) (.pair (.int .i64) (.pair (.int .i64) (.pair (.int .i64) (.pair (.int .i64) (.pair (.int .i64) (.int .i64)))))))))), (.ro, (.int .i64))], [(false, (.pair (.int .i64) (.pair (.int .i64) (.pair (.int .i64) (.pair (.int .i64) (.pair (.int .i64) (.pair (.int .i64) (.int .i64))))))))]⟩
  | 179 => ⟨[(.ro, (.int .i64)), (.ro, (.int .i64)), (.ro, (.int .i64))], [(false, .bool)]⟩
  | 180 => ⟨[(.ro, (.pair (.int .i64) (.pair (.int .i64) (.pair (.int .i64) (.pair (.int .i64) (.pair (.int .i64) (.pair (.int .i64) (.pair (.int .i64) (.pair (.int .i64) (.int .i64)))))))))), (.ro, (.int .i64))], [(false, (.pair (.int .i64) (.pair (.int .i64) (.pair (.int .i64) (.pair (.int .i64) (.pair (.int .i64) (.pair (.int .i64) (.int .i64))))))))]⟩
  | 181 => ⟨[(.ro, (.pair (.int .i64) (.pair (.int .i64) (.pair (.int .i64) (.pair (.int .i64) (.pair (.int .i64) (.pair (.int .i64) (.pair (.int .i64) (.pair (.int .i64) (.int .i64)))))))))), (.ro, (.int .i64))], [(false, (.int .i64))]⟩
  | 182 => ⟨[(.ro, (.pair (.int .i64) (.pair (.int .i64) (.pair (.int .i64) (.pair (.int .i64) (.pair (.int .i64) (.pair (.int .i64) (.pair (.int .i64) (.pair (.int .i64) (.int .i64)))))))))), (.ro, (.int .i64))], [(false, (.int .i64))]⟩
  | 183 => ⟨[(.ro, (.sl (.int .u8)))], [(true, (.sl (.int .i64)))]⟩
  | 184 => ⟨[(.ro, (.sl (.int .i64)))], [(false, .bool)]⟩
  | 185 => ⟨[(.ro, (.sl (.int .i64)))], [(false, (.int .i64))]⟩
  | 186 => ⟨[(.ro, (.sl (.int .i64)))], [(true, (.sl (.int .i64)))]⟩
  | 187 => ⟨[(.ro, (.sl (.int .i64)))], [(false, .bool)]⟩
  | 188 => ⟨[(.ro, (.sl (.int .i64))), (.ro, (.int .i64))], [(false, (.int .i64))]⟩
  | 189 => ⟨[(.ro, (.sl (.int .i64)))], [(false, (.int .i64))]⟩
  | 190 => ⟨[(.ro, (.int .i64))], [(false, .bool)]⟩
  | 191 => ⟨[(.ro, (.pair (.int .i64) (.pair (.int .i64) (.pair (.int .i64) (.pair (.int .i64) (.pair (.int .i64) (.int .i64)))))))], [(false, (.pair (.int .i64) (.pair (.int .i64) (.pair (.int .i64) (.int .i64)))))]⟩
  | 228 => ⟨[(.ro, (.sl (.int .i64))), (.ro, (.int .i64)), (.ro, (.int .i64))], [(false, .bool)]⟩
  | 289 => ⟨[(.ps, (.pair (.sl (.int .u8)) (.pair (.int .i64) (.int .u64))))], [(false, (.int .i64))]⟩
  | 290 => ⟨[(.ro, (.sl (.int .i64)))], [(true, (.sl (.int .i64)))]⟩
  | _ => ⟨[], []⟩
def pvLoops : FuncId → Nat → LoopA
  | 4, 0 => ⟨[(4, false, .bool), (241, false, (.int .i64))], [], [], []⟩
  | 4, 1 => ⟨[(4, false, .bool), (45, false, (.int .i64)), (289, false, (.int .i64))], [], [], []⟩
  | 36, 0 => ⟨[(6, true, (.sl (.int .i64))), (7, false, (.int .i64))], [], [], []⟩
  | 37, 0 => ⟨[(6, true, (.sl (.int .i64))), (7, false, (.int .i64))], [], [], []⟩
  | 46, 0 => ⟨[(4, false, .bool), (13, false, (.int .i64))], [], [], []⟩
  | 47, 0 => ⟨[(4, false, .bool), (13, false, (.int .i64))], [], [], []⟩
  | 48, 0 => ⟨[(2, false, .bool), (14, false, (.int .i64))], [], [], []⟩
  | 50, 0 => ⟨[(2, false, .bool), (7, false, (.int .i64))], [], [], []⟩
  | 173, 0 => ⟨[(5, true, (.sl (.pair (.int .i64) (.pair (.int .i64) (.pair (.int .i64) (.pair (.int .i64) (.pair (.int .i64) (.pair (.int .i64) (.int .i64))))))))), (9, false, (.int .i64))], [], [], []⟩
  | 176, 0 => ⟨[(5, true, (.sl (.pair (.int .i64) (.pair (.int .i64) (.pair (.int .i64) (.pair (.int .i64) (.pair (.int .i64) (.pair (.int .i64) (.int .i64))))))))), (6, false, (.int .i64))], [], [], []⟩
  | 178, 0 => ⟨[(5, false, (.int .i64)), (6, false, (.int .i64))], [], [], []⟩
  | 180, 0 => ⟨[(6, false, (.int .i64))], [(5, (.pair (.int .i64) (.pair (.int .i64) (.pair (.int .i64) (.pair (.int .i64) (.pair (.int .i64) (.pair (.int .i64) (.int .i64))))))))], [], []⟩
  | 183, 0 => ⟨[(4, true, (.sl (.int .i64))), (5, false, (.int .i64))], [(3, (.pair (.sl (.int .u8)) (.pair (.int .i64) (.int .u64))))], [], []⟩
  | 183, 1 => ⟨[(4, true, (.sl (.int .i64)))], [], [], []⟩
  | 184, 0 => ⟨[(2, false, .bool), (7, false, (.int .i64))], [], [], []⟩
  | 185, 0 => ⟨[(3, false, (.int .i64)), (14, false, (.int .i64))], [], [], []⟩
  | 189, 0 => ⟨[(3, false, (.int .i64)), (14, false, (.int .i64))], [], [], []⟩
  | 228, 0 => ⟨[(6, false, .bool), (11, false, (.int .i64))], [], [], []⟩
  | _, _ => ⟨[], [], [], []⟩
def pvEloops : FuncId → Nat → List (Nat × Value)
  | 4, 0 => [(4, (.bool false)), (5, (.pointer (some ⟨0, 0, none⟩))), (6, (.int .i64 0)), (9, (.slice none 0 0)), (17, (.pointer (some ⟨0, 0, none⟩))), (23, (.pointer (some ⟨0, 0, none⟩))), (24, (.int .i64 0)), (25, (.pointer (some ⟨0, 0, none⟩))), (26, (.bool false)), (239, (.slice none 0 0)), (240, (.int .i64 0)), (241, (.int .i64 0))]
  | 4, 1 => [(4, (.bool false)), (5, (.pointer (some ⟨0, 0, none⟩))), (6, (.int .i64 0)), (45, (.int .i64 0)), (287, (.slice none 0 0)), (288, (.int .i64 0)), (289, (.int .i64 0))]
  | 36, 0 => [(1, (.int .i64 0)), (2, (.pointer (some ⟨0, 0, none⟩))), (4, (.slice none 0 0)), (5, (.bool false)), (6, (.slice none 0 0)), (7, (.int .i64 0))]
  | 37, 0 => [(1, (.int .i64 0)), (2, (.pointer (some ⟨0, 0, none⟩))), (4, (.slice none 0 0)), (5, (.bool false)), (6, (.slice none 0 0)), (7, (.int .i64 0))]
  | 46, 0 => [(0, (.slice none 0 0)), (1, (.slice none 0 0)), (4, (.bool false)), (12, (.int .i64 0)), (13, (.int .i64 0))]
  | 47, 0 => [(0, (.slice none 0 0)), (1, (.slice none 0 0)), (4, (.bool false)), (12, (.int .i64 0)), (13, (.int .i64 0))]
  | 48, 0 => [(1, (.pointer (some ⟨0, 0, none⟩))), (2, (.bool false)), (13, (.agg #[(.int .i64 0), (.int .i64 0), (.int .i64 0), (.int .i64 0)])), (14, (.int .i64 0))]
  | 50, 0 => [(1, (.pointer (some ⟨0, 0, none⟩))), (2, (.bool false)), (6, (.agg #[(.int .i64 0), (.int .i64 0), (.int .i64 0), (.int .i64 0)])), (7, (.int .i64 0))]
  | 173, 0 => [(1, (.int .i64 0)), (2, (.pointer (some ⟨0, 0, none⟩))), (4, (.slice none 0 0)), (5, (.slice none 0 0)), (9, (.int .i64 0))]
  | 176, 0 => [(1, (.int .i64 0)), (2, (.pointer (some ⟨0, 0, none⟩))), (4, (.slice none 0 0)), (5, (.slice none 0 0)), (6, (.int .i64 0))]
  | 178, 0 => [(1, (.int .i64 0)), (2, (.pointer (some ⟨0, 0, none⟩))), (4, (.pointer (some ⟨0, 0, none⟩))), (5, (.int .i64 0)), (6, (.int .i64 0))]
  | 180, 0 => [(1, (.int .i64 0)), (2, (.pointer (some ⟨0, 0, none⟩))), (4, (.pointer (some ⟨0, 0, none⟩))), (5, (.pointer (some ⟨0, 0, none⟩))), (6, (.int .i64 0))]
  | 183, 0 => [(2, (.slice none 0 0)), (3, (.pointer (some ⟨0, 0, none⟩))), (4, (.slice none 0 0)), (5, (.int .i64 0))]
  | 183, 1 => [(2, (.slice none 0 0)), (4, (.slice none 0 0)), (6, (.int .i64 0))]
  | 184, 0 => [(0, (.slice none 0 0)), (2, (.bool false)), (5, (.slice none 0 0)), (6, (.int .i64 0)), (7, (.int .i64 0))]
  | 185, 0 => [(2, (.int .i64 0)), (3, (.int .i64 0)), (12, (.slice none 0 0)), (13, (.int .i64 0)), (14, (.int .i64 0))]
  | 189, 0 => [(2, (.int .i64 0)), (3, (.int .i64 0)), (12, (.slice none 0 0)), (13, (.int .i64 0)), (14, (.int .i64 0))]
  | 228, 0 => [(1, (.int .i64 0)), (2, (.int .i64 0)), (6, (.bool false)), (9, (.slice none 0 0)), (10, (.int .i64 0)), (11, (.int .i64 0))]
  | _, _ => []
def pvInline : FuncId → Bool
  | 216 => true
  | 217 => true
  | 294 => true
  | 310 => true
  | 317 => true
  | 318 => true
  | 333 => true
  | 342 => true
  | _ => false
noncomputable def pvAnn : AnnV := ⟨fuelN, pvSig, pvLoops, pvEloops, pvInline⟩

/-- (*loop.example/g00838/spec.l1Cur).next -/
noncomputable def g289 (d : Nat) (x1 : ((List Int) × Int × Int)) : Option (Int × ((List Int) × Int × Int)) := (lev Try.prog pvAnn d).call 289 (x1)
/-- (*loop.example/g00838/spec.l1Cur).pick -/
noncomputable def g177 (d : Nat) (x1 : ((List Int) × Int × Int)) (n2 : Int) : Option (Int × ((List Int) × Int × Int)) := (lev Try.prog pvAnn d).call 177 (x1, n2)
/-- (*loop.example/g00838/spec.l1Cur).among -/
noncomputable def g158 (d : Nat) (x1 : ((List Int) × Int × Int)) (l2 : List Int) : Option (Int × ((List Int) × Int × Int)) := (lev Try.prog pvAnn d).call 158 (x1, l2)
/-- (*loop.example/g00838/spec.l1Cur).flow -/
noncomputable def g170 (d : Nat) (x1 : ((List Int) × Int × Int)) : Option ((Int × Int × Int × Int × Int × Int × Int × Int × Int) × ((List Int) × Int × Int)) := (lev Try.prog pvAnn d).call 170 (x1)
/-- (*loop.example/g00838/spec.l1Cur).tick -/
noncomputable def g171 (d : Nat) (x1 : ((List Int) × Int × Int)) : Option (Int × ((List Int) × Int × Int)) := (lev Try.prog pvAnn d).call 171 (x1)
/-- loop.example/g00838/spec.DrawFlowUntil -/
noncomputable def g29 (d : Nat) (l1 : List Int) : Option ((Int × Int × Int × Int × Int × Int × Int × Int × Int) × Int) := (lev Try.prog pvAnn d).call 29 (l1)
/-- loop.example/g00838/impl.isSize -/
noncomputable def g190 (d : Nat) (n1 : Int) : Option Bool := (lev Try.prog pvAnn d).call 190 (n1)
/-- loop.example/g00838/impl.IsFlow -/
noncomputable def g48 (d : Nat) (x1 : (Int × Int × Int × Int × Int × Int × Int × Int × Int)) : Option Bool := (lev Try.prog pvAnn d).call 48 (x1)
/-- loop.example/g00838/impl.isTicks -/
noncomputable def g172 (d : Nat) (n1 : Int) : Option Bool := (lev Try.prog pvAnn d).call 172 (n1)
/-- slices.Clone[[]int,int] -/
noncomputable def g186 (d : Nat) (l1 : List Int) : Option (List Int) := (lev Try.prog pvAnn d).call 186 (l1)
/-- loop.example/g00838/impl.mixOf -/
noncomputable def g185 (d : Nat) (l1 : List Int) : Option Int := (lev Try.prog pvAnn d).call 185 (l1)
/-- loop.example/g00838/impl.gapOf -/
noncomputable def g181 (d : Nat) (x1 : (Int × Int × Int × Int × Int × Int × Int × Int × Int)) (n2 : Int) : Option Int := (lev Try.prog pvAnn d).call 181 (x1, n2)
/-- loop.example/g00838/impl.packetAt -/
noncomputable def g178 (d : Nat) (x1 : (Int × Int × Int × Int × Int × Int × Int × Int × Int)) (n2 : Int) : Option (Int × Int × Int × Int × Int × Int × Int) := (lev Try.prog pvAnn d).call 178 (x1, n2)
/-- loop.example/g00838/impl.flowUntil -/
noncomputable def g173 (d : Nat) (x1 : (Int × Int × Int × Int × Int × Int × Int × Int × Int)) (n2 : Int) : Option (List (Int × Int × Int × Int × Int × Int × Int)) := (lev Try.prog pvAnn d).call 173 (x1, n2)
/-- loop.example/g00838/impl.FlowUntil -/
noncomputable def g30 (d : Nat) (x1 : (Int × Int × Int × Int × Int × Int × Int × Int × Int)) (n2 : Int) : Option ((List (Int × Int × Int × Int × Int × Int × Int)) × Bool) := (lev Try.prog pvAnn d).call 30 (x1, n2)
/-- loop.example/g00838/spec.l1In -/
noncomputable def g179 (d : Nat) (n1 : Int) (n2 : Int) (n3 : Int) : Option Bool := (lev Try.prog pvAnn d).call 179 (n1, n2, n3)
/-- loop.example/g00838/spec.l1All -/
noncomputable def g228 (d : Nat) (l1 : List Int) (n2 : Int) (n3 : Int) : Option Bool := (lev Try.prog pvAnn d).call 228 (l1, n2, n3)
/-- loop.example/g00838/spec.tfGood -/
noncomputable def g174 (d : Nat) (x1 : (Int × Int × Int × Int × Int × Int × Int × Int × Int)) : Option Bool := (lev Try.prog pvAnn d).call 174 (x1)
/-- loop.example/g00838/spec.tfTick -/
noncomputable def g175 (d : Nat) (n1 : Int) : Option Bool := (lev Try.prog pvAnn d).call 175 (n1)
/-- loop.example/g00838/spec.l1Own -/
noncomputable def g290 (d : Nat) (l1 : List Int) : Option (List Int) := (lev Try.prog pvAnn d).call 290 (l1)
/-- loop.example/g00838/spec.tfMix -/
noncomputable def g189 (d : Nat) (l1 : List Int) : Option Int := (lev Try.prog pvAnn d).call 189 (l1)
/-- loop.example/g00838/spec.tfBelow -/
noncomputable def g188 (d : Nat) (l1 : List Int) (n2 : Int) : Option Int := (lev Try.prog pvAnn d).call 188 (l1, n2)
/-- loop.example/g00838/spec.tfGap -/
noncomputable def g182 (d : Nat) (x1 : (Int × Int × Int × Int × Int × Int × Int × Int × Int)) (n2 : Int) : Option Int := (lev Try.prog pvAnn d).call 182 (x1, n2)
/-- loop.example/g00838/spec.tfPacket -/
noncomputable def g180 (d : Nat) (x1 : (Int × Int × Int × Int × Int × Int × Int × Int × Int)) (n2 : Int) : Option (Int × Int × Int × Int × Int × Int × Int) := (lev Try.prog pvAnn d).call 180 (x1, n2)
/-- loop.example/g00838/spec.tfUntil -/
noncomputable def g176 (d : Nat) (x1 : (Int × Int × Int × Int × Int × Int × Int × Int × Int)) (n2 : Int) : Option (List (Int × Int × Int × Int × Int × Int × Int)) := (lev Try.prog pvAnn d).call 176 (x1, n2)
/-- loop.example/g00838/spec.FlowUntil -/
noncomputable def g31 (d : Nat) (x1 : (Int × Int × Int × Int × Int × Int × Int × Int × Int)) (n2 : Int) : Option ((List (Int × Int × Int × Int × Int × Int × Int)) × Bool) := (lev Try.prog pvAnn d).call 31 (x1, n2)
/-- loop.example/g00838/spec.DrawPacketAt -/
noncomputable def g32 (d : Nat) (l1 : List Int) : Option ((Int × Int × Int × Int × Int × Int × Int × Int × Int) × Int) := (lev Try.prog pvAnn d).call 32 (l1)
/-- loop.example/g00838/impl.PacketAt -/
noncomputable def g33 (d : Nat) (x1 : (Int × Int × Int × Int × Int × Int × Int × Int × Int)) (n2 : Int) : Option ((Int × Int × Int × Int × Int × Int × Int) × Bool) := (lev Try.prog pvAnn d).call 33 (x1, n2)
/-- loop.example/g00838/spec.PacketAt -/
noncomputable def g34 (d : Nat) (x1 : (Int × Int × Int × Int × Int × Int × Int × Int × Int)) (n2 : Int) : Option ((Int × Int × Int × Int × Int × Int × Int) × Bool) := (lev Try.prog pvAnn d).call 34 (x1, n2)
/-- loop.example/g00838/spec.DrawGapsOf -/
noncomputable def g35 (d : Nat) (l1 : List Int) : Option ((Int × Int × Int × Int × Int × Int × Int × Int × Int) × Int) := (lev Try.prog pvAnn d).call 35 (l1)
/-- loop.example/g00838/impl.GapsOf -/
noncomputable def g36 (d : Nat) (x1 : (Int × Int × Int × Int × Int × Int × Int × Int × Int)) (n2 : Int) : Option ((List Int) × Bool) := (lev Try.prog pvAnn d).call 36 (x1, n2)
/-- loop.example/g00838/spec.GapsOf -/
noncomputable def g37 (d : Nat) (x1 : (Int × Int × Int × Int × Int × Int × Int × Int × Int)) (n2 : Int) : Option ((List Int) × Bool) := (lev Try.prog pvAnn d).call 37 (x1, n2)
/-- loop.example/g00838/spec.DrawShiftFlow -/
noncomputable def g38 (d : Nat) (l1 : List Int) : Option ((Int × Int × Int × Int × Int × Int × Int × Int × Int) × Int) := (lev Try.prog pvAnn d).call 38 (l1)
/-- loop.example/g00838/impl.ShiftFlow -/
noncomputable def g39 (d : Nat) (x1 : (Int × Int × Int × Int × Int × Int × Int × Int × Int)) (n2 : Int) : Option ((Int × Int × Int × Int × Int × Int × Int × Int × Int) × Bool) := (lev Try.prog pvAnn d).call 39 (x1, n2)
/-- loop.example/g00838/spec.ShiftFlow -/
noncomputable def g40 (d : Nat) (x1 : (Int × Int × Int × Int × Int × Int × Int × Int × Int)) (n2 : Int) : Option ((Int × Int × Int × Int × Int × Int × Int × Int × Int) × Bool) := (lev Try.prog pvAnn d).call 40 (x1, n2)
/-- loop.example/g00838/spec.DrawMixOf -/
noncomputable def g183 (d : Nat) (l1 : List Int) : Option (List Int) := (lev Try.prog pvAnn d).call 183 (l1)
/-- loop.example/g00838/spec.DrawNumberFor -/
noncomputable def g41 (d : Nat) (l1 : List Int) : Option ((List Int) × Int) := (lev Try.prog pvAnn d).call 41 (l1)
/-- loop.example/g00838/impl.isKeyList -/
noncomputable def g184 (d : Nat) (l1 : List Int) : Option Bool := (lev Try.prog pvAnn d).call 184 (l1)
/-- loop.example/g00838/impl.NumberFor -/
noncomputable def g42 (d : Nat) (l1 : List Int) (n2 : Int) : Option (Int × Bool) := (lev Try.prog pvAnn d).call 42 (l1, n2)
/-- loop.example/g00838/spec.tfKeys -/
noncomputable def g187 (d : Nat) (l1 : List Int) : Option Bool := (lev Try.prog pvAnn d).call 187 (l1)
/-- loop.example/g00838/spec.NumberFor -/
noncomputable def g43 (d : Nat) (l1 : List Int) (n2 : Int) : Option (Int × Bool) := (lev Try.prog pvAnn d).call 43 (l1, n2)
/-- loop.example/g00838/impl.MixOf -/
noncomputable def g44 (d : Nat) (l1 : List Int) : Option (Int × Bool) := (lev Try.prog pvAnn d).call 44 (l1)
/-- loop.example/g00838/spec.MixOf -/
noncomputable def g45 (d : Nat) (l1 : List Int) : Option (Int × Bool) := (lev Try.prog pvAnn d).call 45 (l1)
/-- loop.example/g00838/laws.qTimed -/
noncomputable def g46 (d : Nat) (l1 : List (Int × Int × Int × Int × Int × Int × Int)) (l2 : List (Int × Int × Int × Int × Int × Int × Int)) : Option Bool := (lev Try.prog pvAnn d).call 46 (l1, l2)
/-- loop.example/g00838/laws.qInts -/
noncomputable def g47 (d : Nat) (l1 : List Int) (l2 : List Int) : Option Bool := (lev Try.prog pvAnn d).call 47 (l1, l2)
/-- loop.example/g00838/spec.IsFlow -/
noncomputable def g49 (d : Nat) (x1 : (Int × Int × Int × Int × Int × Int × Int × Int × Int)) : Option Bool := (lev Try.prog pvAnn d).call 49 (x1)
/-- loop.example/g00838/impl.fieldsOf -/
noncomputable def g191 (d : Nat) (x1 : (Int × Int × Int × Int × Int × Int)) : Option (Int × Int × Int × Int) := (lev Try.prog pvAnn d).call 191 (x1)
/-- loop.example/g00838/impl.IsPacket -/
noncomputable def g50 (d : Nat) (x1 : (Int × Int × Int × Int × Int × Int)) : Option Bool := (lev Try.prog pvAnn d).call 50 (x1)
/-- loop.example/g00838/laws.FnFlowPackets -/
noncomputable def g4 (d : Nat) (l1 : List Int) (l2 : List Int) : Option Bool := (lev Try.prog pvAnn d).call 4 (l1, l2)

noncomputable def j289_0 (d : Nat) (x1 : ((List Int) × Int × Int)) (n2 : Int) : Option (Int × ((List Int) × Int × Int)) :=
 oif (decide (((IntKind.i64.wrap (x1.2.1 + 1)) : Int) ≤ ((x1.1.length : Nat) : Int))) (
 some (n2, (x1.1, (IntKind.i64.wrap (x1.2.1 + 1)), (IntKind.u64.wrap ((IntKind.u64.wrap ((IntKind.u64.wrap (x1.2.2 * 6364136223846793005)) + (IntKind.u64.wrap n2))) + 1442695040888963407))))) (
 some ((IntKind.i64.wrap (IntKind.u64.wrap ((BitVec.ofInt IntKind.u64.bits ((IntKind.u64.wrap ((IntKind.u64.wrap ((IntKind.u64.wrap (x1.2.2 * 6364136223846793005)) + (IntKind.u64.wrap n2))) + 1442695040888963407)).fdiv (2 ^ (min (40 : Int).toNat IntKind.u64.bits))) &&& BitVec.ofInt IntKind.u64.bits 255).toNat : Int))), (x1.1, (IntKind.i64.wrap (x1.2.1 + 1)), (IntKind.u64.wrap ((IntKind.u64.wrap ((IntKind.u64.wrap (x1.2.2 * 6364136223846793005)) + (IntKind.u64.wrap n2))) + 1442695040888963407)))))
theorem e289 (d : Nat) (x1 : ((List Int) × Int × Int)) : g289 (d + 1) x1 =
 oif (decide ((x1.2.1 : Int) < ((x1.1.length : Nat) : Int))) (
 oif (decide (0 ≤ (x1.2.1 : Int))) (
 obind (x1.1[(x1.2.1 : Int).toNat]?) fun n2 =>
 j289_0 d x1 (IntKind.i64.wrap n2)) none) (
 j289_0 d x1 0) := by kernel_rfl

theorem e177 (d : Nat) (x1 : ((List Int) × Int × Int)) (n2 : Int) : g177 (d + 1) x1 n2 =
 oif (decide ((n2 : Int) ≤ 1)) (
 some (0, x1)) (
 obind (g289 d x1) fun r3 =>
 oif (decide ((n2 : Int) > 200)) (
 obind (g289 d r3.2) fun r4 =>
 oif ((n2 : Int) == 0) none (
 some (((IntKind.i64.wrap ((IntKind.i64.wrap (r3.1 * 256)) + r4.1)).tmod n2), r4.2))) (
 oif ((n2 : Int) == 0) none (
 some ((r3.1.tmod n2), r3.2)))) := by kernel_rfl

theorem e158 (d : Nat) (x1 : ((List Int) × Int × Int)) (l2 : List Int) : g158 (d + 1) x1 l2 =
 obind (g177 d x1 ((l2.length : Nat) : Int)) fun r3 =>
 oif (decide (0 ≤ (r3.1 : Int))) (
 obind (l2[(r3.1 : Int).toNat]?) fun n4 =>
 some (n4, r3.2)) none := by kernel_rfl

noncomputable def j170_0 (d : Nat) (r4 : (Int × ((List Int) × Int × Int))) (r5 : (Int × ((List Int) × Int × Int))) (r6 : (Int × ((List Int) × Int × Int))) (n12 : Int) (n13 : Int) (n14 : Int) (n15 : Int) (n16 : Int) (n17 : Int) (l18 : List Int) (n19 : Int) (n20 : Int) : Option ((Int × Int × Int × Int × Int × Int × Int × Int × Int) × ((List Int) × Int × Int)) :=
 some ((n12, n13, r4.1, r5.1, r6.1, n14, n15, n16, n17), (l18, n19, n20))
theorem e170 (d : Nat) (x1 : ((List Int) × Int × Int)) : g170 (d + 1) x1 =
 obind (g177 d x1 60000) fun r2 =>
 obind (g177 d r2.2 9) fun r3 =>
 obind (g177 d r3.2 9) fun r4 =>
 obind (g158 d r4.2 [22, 80, 443]) fun r5 =>
 obind (g177 d r5.2 40) fun r6 =>
 obind (g177 d r6.2 20) fun r7 =>
 obind (g158 d r7.2 [1, 2, 5, 20, 500]) fun r8 =>
 obind (g177 d r8.2 4) fun r9 =>
 obind (g158 d r9.2 [1, 100, 576, 1500]) fun r10 =>
 obind (g177 d r10.2 24) fun r11 =>
 oif ((r11.1 : Int) == 0) (
 obind (g158 d r11.2 [(-1), 1000000000, 1000000001]) fun r12 =>
 j170_0 d r4 r5 r6 r12.1 r3.1 r7.1 r8.1 (IntKind.i64.wrap ((1 : Int) + r9.1)) r10.1 r12.2.1 r12.2.2.1 r12.2.2.2) (
 oif ((r11.1 : Int) == 1) (
 obind (g158 d r11.2 [(-1), 65535, 65536]) fun r13 =>
 j170_0 d r4 r5 r6 r2.1 r13.1 r7.1 r8.1 (IntKind.i64.wrap ((1 : Int) + r9.1)) r10.1 r13.2.1 r13.2.2.1 r13.2.2.2) (
 oif ((r11.1 : Int) == 2) (
 obind (g158 d r11.2 [(-1), 10000, 10001]) fun r14 =>
 j170_0 d r4 r5 r6 r2.1 r3.1 r14.1 r8.1 (IntKind.i64.wrap ((1 : Int) + r9.1)) r10.1 r14.2.1 r14.2.2.1 r14.2.2.2) (
 oif ((r11.1 : Int) == 3) (
 obind (g158 d r11.2 [0, 501]) fun r15 =>
 j170_0 d r4 r5 r6 r2.1 r3.1 r7.1 r15.1 (IntKind.i64.wrap ((1 : Int) + r9.1)) r10.1 r15.2.1 r15.2.2.1 r15.2.2.2) (
 oif ((r11.1 : Int) == 4) (
 obind (g158 d r11.2 [0, 10, 11]) fun r16 =>
 j170_0 d r4 r5 r6 r2.1 r3.1 r7.1 r8.1 r16.1 r10.1 r16.2.1 r16.2.2.1 r16.2.2.2) (
 oif ((r11.1 : Int) == 5) (
 obind (g158 d r11.2 [0, 1501]) fun r17 =>
 j170_0 d r4 r5 r6 r2.1 r3.1 r7.1 r8.1 (IntKind.i64.wrap ((1 : Int) + r9.1)) r17.1 r17.2.1 r17.2.2.1 r17.2.2.2) (
 j170_0 d r4 r5 r6 r2.1 r3.1 r7.1 r8.1 (IntKind.i64.wrap ((1 : Int) + r9.1)) r10.1 r11.2.1 r11.2.2.1 r11.2.2.2)))))) := by kernel_rfl

theorem e171 (d : Nat) (x1 : ((List Int) × Int × Int)) : g171 (d + 1) x1 =
 obind (g177 d x1 60) fun r2 =>
 obind (g177 d r2.2 300) fun r3 =>
 obind (g158 d r3.2 [0, 1, r2.1, r3.1, 100000, 100001, (-1)]) fun r4 =>
 some (r4.1, r4.2) := by kernel_rfl

theorem e29 (d : Nat) (l1 : List Int) : g29 (d + 1) l1 =
 obind (g170 d (l1, 0, 0)) fun r2 =>
 obind (g171 d r2.2) fun r3 =>
 some (r2.1, r3.1) := by kernel_rfl

theorem e190 (d : Nat) (n1 : Int) : g190 (d + 1) n1 =
 oif (decide ((n1 : Int) ≥ 1)) (
 some (decide ((n1 : Int) ≤ 1500))) (
 some false) := by kernel_rfl

noncomputable def j48_0 (d : Nat) (x1 : (Int × Int × Int × Int × Int × Int × Int × Int × Int)) (b3 : Bool) : Option Bool :=
 oif (decide ((x1.1 : Int) ≥ 0)) (
 oif (decide ((x1.1 : Int) ≤ 1000000000)) (
 oif (decide ((x1.2.2.2.2.2.1 : Int) ≥ 0)) (
 oif (decide ((x1.2.2.2.2.2.1 : Int) ≤ 10000)) (
 oif (decide ((x1.2.2.2.2.2.2.1 : Int) ≥ 1)) (
 oif (decide ((x1.2.2.2.2.2.2.1 : Int) ≤ 500)) (
 oif (decide ((x1.2.2.2.2.2.2.2.1 : Int) ≥ 1)) (
 oif (decide ((x1.2.2.2.2.2.2.2.1 : Int) ≤ 10)) (
 obind (g190 d x1.2.2.2.2.2.2.2.2) fun r4 =>
 some r4) (
 some false)) (
 some false)) (
 some false)) (
 some false)) (
 some false)) (
 some false)) (
 some false)) (
 some false)
noncomputable def l48_0_b (d : Nat) (x1 : (Int × Int × Int × Int × Int × Int × Int × Int × Int)) (kx48_0_0 : Bool → Option Bool) (ag2 : (Bool × Int) → Option Bool) (b3 : Bool) (n4 : Int) : Option Bool :=
 oif (decide ((n4 : Int) < 4)) (
 oif (decide (0 ≤ (n4 : Int))) (
 obind (([x1.2.1, x1.2.2.1, x1.2.2.2.1, x1.2.2.2.2.1] : List Int)[(n4 : Int).toNat]?) fun n5 =>
 oif (decide ((n5 : Int) < 0)) (
 some false) (
 oif (decide ((n5 : Int) > 65535)) (
 some false) (
 ag2 (b3, (IntKind.i64.wrap (n4 + 1)))))) none) (
 kx48_0_0 b3)
noncomputable def l48_0 (d : Nat) (x1 : (Int × Int × Int × Int × Int × Int × Int × Int × Int)) (kx48_0_0 : Bool → Option Bool) (ag2 : (Bool × Int) → Option Bool) (s : (Bool × Int)) : Option Bool := l48_0_b d x1 kx48_0_0 ag2 s.1 s.2
theorem e48 (d : Nat) (x1 : (Int × Int × Int × Int × Int × Int × Int × Int × Int)) : g48 (d + 1) x1 =
 iterP (l48_0 d x1 (j48_0 d x1)) fuelN (false, 0) := by kernel_rfl

theorem e172 (d : Nat) (n1 : Int) : g172 (d + 1) n1 =
 oif (decide ((n1 : Int) ≥ 0)) (
 some (decide ((n1 : Int) ≤ 100000))) (
 some false) := by kernel_rfl

theorem e186 (d : Nat) (l1 : List Int) : g186 (d + 1) l1 =
 nilB l1.length (
 some []) (
 oif (Nat.ble ((([] : List Int).length + l1.length) * 8) roomMax) (
 some (([] : List Int) ++ l1)) none) := by kernel_rfl

noncomputable def j185_0 (d : Nat)  (n4 : Int) : Option Int :=
 some n4
noncomputable def l185_0_b (d : Nat) (r2 : List Int) (kx185_0_0 : Int → Option Int) (ag3 : (Int × Int) → Option Int) (n4 : Int) (n5 : Int) : Option Int :=
 oif (decide ((n5 : Int) < (((r2 ++ [3, 1]).length : Nat) : Int))) (
 oif (decide (0 ≤ (n5 : Int))) (
 oif (Nat.blt ((n5 : Int).toNat) ((r2 ++ [3, 1]).length)) (
 obind ((r2 ++ [3, 1])[(n5 : Int).toNat]?) fun n6 =>
 ag3 (((IntKind.i64.wrap (((IntKind.i64.wrap ((IntKind.i64.wrap ((IntKind.i64.wrap ((31 : Int) * n4)) + n6)) + 7)).tmod 1000003) * (IntKind.i64.wrap ((IntKind.i64.wrap (((IntKind.i64.wrap ((IntKind.i64.wrap ((IntKind.i64.wrap ((31 : Int) * n4)) + n6)) + 7)).tmod 1000003).tdiv 32)) + 3)))).tmod 1000003), (IntKind.i64.wrap (n5 + 1)))) none) none) (
 kx185_0_0 n4)
noncomputable def l185_0 (d : Nat) (r2 : List Int) (kx185_0_0 : Int → Option Int) (ag3 : (Int × Int) → Option Int) (s : (Int × Int)) : Option Int := l185_0_b d r2 kx185_0_0 ag3 s.1 s.2
theorem e185 (d : Nat) (l1 : List Int) : g185 (d + 1) l1 =
 obind (g186 d l1) fun r2 =>
 oif (Nat.ble ((r2.length + [3, 1].length) * 8) roomMax) (
 iterP (l185_0 d r2 (j185_0 d)) fuelN ((IntKind.i64.wrap ((7919 : Int) + ((l1.length : Nat) : Int))), 0)) none := by kernel_rfl

theorem e181 (d : Nat) (x1 : (Int × Int × Int × Int × Int × Int × Int × Int × Int)) (n2 : Int) : g181 (d + 1) x1 n2 =
 obind (g185 d [x1.1, n2, 1, x1.2.2.2.2.2.2.1]) fun r3 =>
 oif ((x1.2.2.2.2.2.2.1 : Int) == 0) none (
 some (IntKind.i64.wrap ((1 : Int) + (r3.tmod x1.2.2.2.2.2.2.1)))) := by kernel_rfl

noncomputable def j178_0 (d : Nat) (x1 : (Int × Int × Int × Int × Int × Int × Int × Int × Int)) (n2 : Int) (n4 : Int) : Option (Int × Int × Int × Int × Int × Int × Int) :=
 obind (g185 d [x1.1, n2, 2, x1.2.2.2.2.2.2.2.2]) fun r5 =>
 oif ((x1.2.2.2.2.2.2.2.2 : Int) == 0) none (
 some (n4, (IntKind.i64.wrap (n2 + 1)), x1.2.1, x1.2.2.1, x1.2.2.2.1, x1.2.2.2.2.1, (IntKind.i64.wrap ((1 : Int) + (r5.tmod x1.2.2.2.2.2.2.2.2)))))
noncomputable def l178_0_b (d : Nat) (x1 : (Int × Int × Int × Int × Int × Int × Int × Int × Int)) (n2 : Int) (kx178_0_0 : Int → Option (Int × Int × Int × Int × Int × Int × Int)) (ag3 : (Int × Int) → Option (Int × Int × Int × Int × Int × Int × Int)) (n4 : Int) (n5 : Int) : Option (Int × Int × Int × Int × Int × Int × Int) :=
 oif ((x1.2.2.2.2.2.2.2.1 : Int) == 0) none (
 oif (decide ((n5 : Int) ≤ (IntKind.i64.wrap (n2.tdiv x1.2.2.2.2.2.2.2.1)))) (
 obind (g181 d x1 n5) fun r6 =>
 ag3 ((IntKind.i64.wrap (n4 + r6)), (IntKind.i64.wrap (n5 + 1)))) (
 kx178_0_0 n4))
noncomputable def l178_0 (d : Nat) (x1 : (Int × Int × Int × Int × Int × Int × Int × Int × Int)) (n2 : Int) (kx178_0_0 : Int → Option (Int × Int × Int × Int × Int × Int × Int)) (ag3 : (Int × Int) → Option (Int × Int × Int × Int × Int × Int × Int)) (s : (Int × Int)) : Option (Int × Int × Int × Int × Int × Int × Int) := l178_0_b d x1 n2 kx178_0_0 ag3 s.1 s.2
theorem e178 (d : Nat) (x1 : (Int × Int × Int × Int × Int × Int × Int × Int × Int)) (n2 : Int) : g178 (d + 1) x1 n2 =
 iterP (l178_0 d x1 n2 (j178_0 d x1 n2)) fuelN (x1.2.2.2.2.2.1, 1) := by kernel_rfl

noncomputable def j173_0 (d : Nat)  (l4 : List (Int × Int × Int × Int × Int × Int × Int)) : Option (List (Int × Int × Int × Int × Int × Int × Int)) :=
 some l4
noncomputable def l173_0_b (d : Nat) (x1 : (Int × Int × Int × Int × Int × Int × Int × Int × Int)) (n2 : Int) (kx173_0_0 : (List (Int × Int × Int × Int × Int × Int × Int)) → Option (List (Int × Int × Int × Int × Int × Int × Int))) (ag3 : ((List (Int × Int × Int × Int × Int × Int × Int)) × Int) → Option (List (Int × Int × Int × Int × Int × Int × Int))) (l4 : List (Int × Int × Int × Int × Int × Int × Int)) (n5 : Int) : Option (List (Int × Int × Int × Int × Int × Int × Int)) :=
 oif (decide ((n5 : Int) < 60)) (
 obind (g178 d x1 n5) fun r6 =>
 oif (decide ((r6.1 : Int) > n2)) (
 kx173_0_0 l4) (
 oif (Nat.ble ((l4.length + [r6].length) * 56) roomMax) (
 ag3 ((l4 ++ [r6]), (IntKind.i64.wrap (n5 + 1)))) none)) (
 kx173_0_0 l4)
noncomputable def l173_0 (d : Nat) (x1 : (Int × Int × Int × Int × Int × Int × Int × Int × Int)) (n2 : Int) (kx173_0_0 : (List (Int × Int × Int × Int × Int × Int × Int)) → Option (List (Int × Int × Int × Int × Int × Int × Int))) (ag3 : ((List (Int × Int × Int × Int × Int × Int × Int)) × Int) → Option (List (Int × Int × Int × Int × Int × Int × Int))) (s : ((List (Int × Int × Int × Int × Int × Int × Int)) × Int)) : Option (List (Int × Int × Int × Int × Int × Int × Int)) := l173_0_b d x1 n2 kx173_0_0 ag3 s.1 s.2
theorem e173 (d : Nat) (x1 : (Int × Int × Int × Int × Int × Int × Int × Int × Int)) (n2 : Int) : g173 (d + 1) x1 n2 =
 iterP (l173_0 d x1 n2 (j173_0 d)) fuelN (([] : List (Int × Int × Int × Int × Int × Int × Int)), 0) := by kernel_rfl

theorem e30 (d : Nat) (x1 : (Int × Int × Int × Int × Int × Int × Int × Int × Int)) (n2 : Int) : g30 (d + 1) x1 n2 =
 obind (g48 d x1) fun r3 =>
 oif (!r3) (
 some ([], false)) (
 obind (g172 d n2) fun r4 =>
 oif (!r4) (
 some ([], false)) (
 obind (g173 d x1 n2) fun r5 =>
 some (r5, true))) := by kernel_rfl

theorem e179 (d : Nat) (n1 : Int) (n2 : Int) (n3 : Int) : g179 (d + 1) n1 n2 n3 =
 oif (decide ((n1 : Int) ≥ n2)) (
 some (decide ((n1 : Int) ≤ n3))) (
 some false) := by kernel_rfl

noncomputable def j228_0 (d : Nat)  (b5 : Bool) : Option Bool :=
 some true
noncomputable def l228_0_b (d : Nat) (l1 : List Int) (n2 : Int) (n3 : Int) (kx228_0_0 : Bool → Option Bool) (ag4 : (Bool × Int) → Option Bool) (b5 : Bool) (n6 : Int) : Option Bool :=
 oif (decide ((n6 : Int) < ((l1.length : Nat) : Int))) (
 oif (decide (0 ≤ (n6 : Int))) (
 obind (l1[(n6 : Int).toNat]?) fun n7 =>
 obind (g179 d n7 n2 n3) fun r8 =>
 oif (!r8) (
 some false) (
 ag4 (b5, (IntKind.i64.wrap (n6 + 1))))) none) (
 kx228_0_0 b5)
noncomputable def l228_0 (d : Nat) (l1 : List Int) (n2 : Int) (n3 : Int) (kx228_0_0 : Bool → Option Bool) (ag4 : (Bool × Int) → Option Bool) (s : (Bool × Int)) : Option Bool := l228_0_b d l1 n2 n3 kx228_0_0 ag4 s.1 s.2
theorem e228 (d : Nat) (l1 : List Int) (n2 : Int) (n3 : Int) : g228 (d + 1) l1 n2 n3 =
 iterP (l228_0 d l1 n2 n3 (j228_0 d)) fuelN (false, 0) := by kernel_rfl

theorem e174 (d : Nat) (x1 : (Int × Int × Int × Int × Int × Int × Int × Int × Int)) : g174 (d + 1) x1 =
 obind (g179 d x1.1 0 1000000000) fun r2 =>
 oif r2 (
 obind (g228 d [x1.2.1, x1.2.2.1, x1.2.2.2.1, x1.2.2.2.2.1] 0 65535) fun r3 =>
 oif r3 (
 obind (g179 d x1.2.2.2.2.2.1 0 10000) fun r4 =>
 oif r4 (
 obind (g179 d x1.2.2.2.2.2.2.1 1 500) fun r5 =>
 oif r5 (
 obind (g179 d x1.2.2.2.2.2.2.2.1 1 10) fun r6 =>
 oif r6 (
 obind (g179 d x1.2.2.2.2.2.2.2.2 1 1500) fun r7 =>
 some r7) (
 some false)) (
 some false)) (
 some false)) (
 some false)) (
 some false) := by kernel_rfl

theorem e175 (d : Nat) (n1 : Int) : g175 (d + 1) n1 =
 obind (g179 d n1 0 100000) fun r2 =>
 some r2 := by kernel_rfl

theorem e290 (d : Nat) (l1 : List Int) : g290 (d + 1) l1 =
 oif (Nat.ble ((([] : List Int).length + l1.length) * 8) roomMax) (
 some (([] : List Int) ++ l1)) none := by kernel_rfl

noncomputable def j189_0 (d : Nat)  (n4 : Int) : Option Int :=
 some n4
noncomputable def l189_0_b (d : Nat) (r2 : List Int) (kx189_0_0 : Int → Option Int) (ag3 : (Int × Int) → Option Int) (n4 : Int) (n5 : Int) : Option Int :=
 oif (decide ((n5 : Int) < (((r2 ++ [3, 1]).length : Nat) : Int))) (
 oif (decide (0 ≤ (n5 : Int))) (
 oif (Nat.blt ((n5 : Int).toNat) ((r2 ++ [3, 1]).length)) (
 obind ((r2 ++ [3, 1])[(n5 : Int).toNat]?) fun n6 =>
 ag3 (((IntKind.i64.wrap (((IntKind.i64.wrap ((IntKind.i64.wrap ((IntKind.i64.wrap ((31 : Int) * n4)) + n6)) + 7)).tmod 1000003) * (IntKind.i64.wrap ((IntKind.i64.wrap (((IntKind.i64.wrap ((IntKind.i64.wrap ((IntKind.i64.wrap ((31 : Int) * n4)) + n6)) + 7)).tmod 1000003).tdiv 32)) + 3)))).tmod 1000003), (IntKind.i64.wrap (n5 + 1)))) none) none) (
 kx189_0_0 n4)
noncomputable def l189_0 (d : Nat) (r2 : List Int) (kx189_0_0 : Int → Option Int) (ag3 : (Int × Int) → Option Int) (s : (Int × Int)) : Option Int := l189_0_b d r2 kx189_0_0 ag3 s.1 s.2
theorem e189 (d : Nat) (l1 : List Int) : g189 (d + 1) l1 =
 obind (g290 d l1) fun r2 =>
 oif (Nat.ble ((r2.length + [3, 1].length) * 8) roomMax) (
 iterP (l189_0 d r2 (j189_0 d)) fuelN ((IntKind.i64.wrap ((7919 : Int) + ((l1.length : Nat) : Int))), 0)) none := by kernel_rfl

theorem e188 (d : Nat) (l1 : List Int) (n2 : Int) : g188 (d + 1) l1 n2 =
 obind (g290 d l1) fun r3 =>
 oif (Nat.ble ((r3.length + [n2].length) * 8) roomMax) (
 obind (g189 d (r3 ++ [n2])) fun r4 =>
 oif ((n2 : Int) == 0) none (
 some (r4.tmod n2))) none := by kernel_rfl

theorem e182 (d : Nat) (x1 : (Int × Int × Int × Int × Int × Int × Int × Int × Int)) (n2 : Int) : g182 (d + 1) x1 n2 =
 obind (g188 d [x1.1, n2, 1] x1.2.2.2.2.2.2.1) fun r3 =>
 some (IntKind.i64.wrap ((1 : Int) + r3)) := by kernel_rfl

noncomputable def j180_0 (d : Nat) (x1 : (Int × Int × Int × Int × Int × Int × Int × Int × Int)) (n2 : Int) (n4 : Int) (n5 : Int) (n6 : Int) (n7 : Int) (n8 : Int) (n9 : Int) (n10 : Int) : Option (Int × Int × Int × Int × Int × Int × Int) :=
 obind (g188 d [x1.1, n2, 2] x1.2.2.2.2.2.2.2.2) fun r11 =>
 some (n4, (IntKind.i64.wrap (n2 + 1)), x1.2.1, x1.2.2.1, x1.2.2.2.1, x1.2.2.2.2.1, (IntKind.i64.wrap ((1 : Int) + r11)))
noncomputable def l180_0_b (d : Nat) (x1 : (Int × Int × Int × Int × Int × Int × Int × Int × Int)) (n2 : Int) (kx180_0_0 : Int → Int → Int → Int → Int → Int → Int → Option (Int × Int × Int × Int × Int × Int × Int)) (ag3 : (Int × (Int × Int × Int × Int × Int × Int × Int)) → Option (Int × Int × Int × Int × Int × Int × Int)) (n4 : Int) (x5 : (Int × Int × Int × Int × Int × Int × Int)) : Option (Int × Int × Int × Int × Int × Int × Int) :=
 oif ((x1.2.2.2.2.2.2.2.1 : Int) == 0) none (
 oif (decide ((n4 : Int) ≤ (IntKind.i64.wrap (n2.tdiv x1.2.2.2.2.2.2.2.1)))) (
 obind (g182 d x1 n4) fun r6 =>
 ag3 ((IntKind.i64.wrap (n4 + 1)), ((IntKind.i64.wrap (x5.1 + r6)), x5.2))) (
 kx180_0_0 x5.1 x5.2.1 x5.2.2.1 x5.2.2.2.1 x5.2.2.2.2.1 x5.2.2.2.2.2.1 x5.2.2.2.2.2.2))
noncomputable def l180_0 (d : Nat) (x1 : (Int × Int × Int × Int × Int × Int × Int × Int × Int)) (n2 : Int) (kx180_0_0 : Int → Int → Int → Int → Int → Int → Int → Option (Int × Int × Int × Int × Int × Int × Int)) (ag3 : (Int × (Int × Int × Int × Int × Int × Int × Int)) → Option (Int × Int × Int × Int × Int × Int × Int)) (s : (Int × (Int × Int × Int × Int × Int × Int × Int))) : Option (Int × Int × Int × Int × Int × Int × Int) := l180_0_b d x1 n2 kx180_0_0 ag3 s.1 s.2
theorem e180 (d : Nat) (x1 : (Int × Int × Int × Int × Int × Int × Int × Int × Int)) (n2 : Int) : g180 (d + 1) x1 n2 =
 iterP (l180_0 d x1 n2 (j180_0 d x1 n2)) fuelN (1, (x1.2.2.2.2.2.1, 0, 0, 0, 0, 0, 0)) := by kernel_rfl

noncomputable def j176_0 (d : Nat)  (l4 : List (Int × Int × Int × Int × Int × Int × Int)) : Option (List (Int × Int × Int × Int × Int × Int × Int)) :=
 some l4
noncomputable def l176_0_b (d : Nat) (x1 : (Int × Int × Int × Int × Int × Int × Int × Int × Int)) (n2 : Int) (kx176_0_0 : (List (Int × Int × Int × Int × Int × Int × Int)) → Option (List (Int × Int × Int × Int × Int × Int × Int))) (ag3 : ((List (Int × Int × Int × Int × Int × Int × Int)) × Int) → Option (List (Int × Int × Int × Int × Int × Int × Int))) (l4 : List (Int × Int × Int × Int × Int × Int × Int)) (n5 : Int) : Option (List (Int × Int × Int × Int × Int × Int × Int)) :=
 oif (decide ((n5 : Int) < 60)) (
 obind (g180 d x1 n5) fun r6 =>
 oif (decide ((r6.1 : Int) > n2)) (
 kx176_0_0 l4) (
 oif (Nat.ble ((l4.length + [r6].length) * 56) roomMax) (
 ag3 ((l4 ++ [r6]), (IntKind.i64.wrap (n5 + 1)))) none)) (
 kx176_0_0 l4)
noncomputable def l176_0 (d : Nat) (x1 : (Int × Int × Int × Int × Int × Int × Int × Int × Int)) (n2 : Int) (kx176_0_0 : (List (Int × Int × Int × Int × Int × Int × Int)) → Option (List (Int × Int × Int × Int × Int × Int × Int))) (ag3 : ((List (Int × Int × Int × Int × Int × Int × Int)) × Int) → Option (List (Int × Int × Int × Int × Int × Int × Int))) (s : ((List (Int × Int × Int × Int × Int × Int × Int)) × Int)) : Option (List (Int × Int × Int × Int × Int × Int × Int)) := l176_0_b d x1 n2 kx176_0_0 ag3 s.1 s.2
theorem e176 (d : Nat) (x1 : (Int × Int × Int × Int × Int × Int × Int × Int × Int)) (n2 : Int) : g176 (d + 1) x1 n2 =
 iterP (l176_0 d x1 n2 (j176_0 d)) fuelN ([], 0) := by kernel_rfl

theorem e31 (d : Nat) (x1 : (Int × Int × Int × Int × Int × Int × Int × Int × Int)) (n2 : Int) : g31 (d + 1) x1 n2 =
 obind (g174 d x1) fun r3 =>
 oif (!r3) (
 some ([], false)) (
 obind (g175 d n2) fun r4 =>
 oif (!r4) (
 some ([], false)) (
 obind (g176 d x1 n2) fun r5 =>
 some (r5, true))) := by kernel_rfl

theorem e32 (d : Nat) (l1 : List Int) : g32 (d + 1) l1 =
 obind (g170 d (l1, 0, 0)) fun r2 =>
 obind (g177 d r2.2 60) fun r3 =>
 obind (g158 d r3.2 [0, 1, 2, r3.1, 59, 60, (-1)]) fun r4 =>
 some (r2.1, r4.1) := by kernel_rfl

theorem e33 (d : Nat) (x1 : (Int × Int × Int × Int × Int × Int × Int × Int × Int)) (n2 : Int) : g33 (d + 1) x1 n2 =
 obind (g48 d x1) fun r3 =>
 oif (!r3) (
 some ((0, 0, 0, 0, 0, 0, 0), false)) (
 oif (decide ((n2 : Int) < 0)) (
 some ((0, 0, 0, 0, 0, 0, 0), false)) (
 oif (decide ((n2 : Int) ≥ 60)) (
 some ((0, 0, 0, 0, 0, 0, 0), false)) (
 obind (g178 d x1 n2) fun r4 =>
 some (r4, true)))) := by kernel_rfl

theorem e34 (d : Nat) (x1 : (Int × Int × Int × Int × Int × Int × Int × Int × Int)) (n2 : Int) : g34 (d + 1) x1 n2 =
 obind (g174 d x1) fun r3 =>
 oif (!r3) (
 some ((0, 0, 0, 0, 0, 0, 0), false)) (
 obind (g179 d n2 0 59) fun r4 =>
 oif (!r4) (
 some ((0, 0, 0, 0, 0, 0, 0), false)) (
 obind (g180 d x1 n2) fun r5 =>
 some (r5, true))) := by kernel_rfl

theorem e35 (d : Nat) (l1 : List Int) : g35 (d + 1) l1 =
 obind (g170 d (l1, 0, 0)) fun r2 =>
 obind (g158 d r2.2 [0, 1, 5, 40, 41, (-1)]) fun r3 =>
 some (r2.1, r3.1) := by kernel_rfl

noncomputable def j36_0 (d : Nat)  (l5 : List Int) : Option ((List Int) × Bool) :=
 some (l5, true)
noncomputable def l36_0_b (d : Nat) (x1 : (Int × Int × Int × Int × Int × Int × Int × Int × Int)) (n2 : Int) (kx36_0_0 : (List Int) → Option ((List Int) × Bool)) (ag4 : ((List Int) × Int) → Option ((List Int) × Bool)) (l5 : List Int) (n6 : Int) : Option ((List Int) × Bool) :=
 oif (decide ((n6 : Int) ≤ n2)) (
 obind (g181 d x1 n6) fun r7 =>
 oif (Nat.ble ((l5.length + [r7].length) * 8) roomMax) (
 ag4 ((l5 ++ [r7]), (IntKind.i64.wrap (n6 + 1)))) none) (
 kx36_0_0 l5)
noncomputable def l36_0 (d : Nat) (x1 : (Int × Int × Int × Int × Int × Int × Int × Int × Int)) (n2 : Int) (kx36_0_0 : (List Int) → Option ((List Int) × Bool)) (ag4 : ((List Int) × Int) → Option ((List Int) × Bool)) (s : ((List Int) × Int)) : Option ((List Int) × Bool) := l36_0_b d x1 n2 kx36_0_0 ag4 s.1 s.2
noncomputable def j36_1 (d : Nat) (x1 : (Int × Int × Int × Int × Int × Int × Int × Int × Int)) (n2 : Int) (b3 : Bool) : Option ((List Int) × Bool) :=
 oif b3 (
 some ([], false)) (
 iterP (l36_0 d x1 n2 (j36_0 d)) fuelN (([] : List Int), 1))
theorem e36 (d : Nat) (x1 : (Int × Int × Int × Int × Int × Int × Int × Int × Int)) (n2 : Int) : g36 (d + 1) x1 n2 =
 obind (g48 d x1) fun r3 =>
 oif (!r3) (
 j36_1 d x1 n2 true) (
 oif (decide ((n2 : Int) < 0)) (
 j36_1 d x1 n2 true) (
 j36_1 d x1 n2 (decide ((n2 : Int) > 40)))) := by kernel_rfl

noncomputable def j37_0 (d : Nat)  (l5 : List Int) : Option ((List Int) × Bool) :=
 some (l5, true)
noncomputable def l37_0_b (d : Nat) (x1 : (Int × Int × Int × Int × Int × Int × Int × Int × Int)) (n2 : Int) (kx37_0_0 : (List Int) → Option ((List Int) × Bool)) (ag4 : ((List Int) × Int) → Option ((List Int) × Bool)) (l5 : List Int) (n6 : Int) : Option ((List Int) × Bool) :=
 oif (decide ((n6 : Int) ≤ n2)) (
 obind (g182 d x1 n6) fun r7 =>
 oif (Nat.ble ((l5.length + [r7].length) * 8) roomMax) (
 ag4 ((l5 ++ [r7]), (IntKind.i64.wrap (n6 + 1)))) none) (
 kx37_0_0 l5)
noncomputable def l37_0 (d : Nat) (x1 : (Int × Int × Int × Int × Int × Int × Int × Int × Int)) (n2 : Int) (kx37_0_0 : (List Int) → Option ((List Int) × Bool)) (ag4 : ((List Int) × Int) → Option ((List Int) × Bool)) (s : ((List Int) × Int)) : Option ((List Int) × Bool) := l37_0_b d x1 n2 kx37_0_0 ag4 s.1 s.2
noncomputable def j37_1 (d : Nat) (x1 : (Int × Int × Int × Int × Int × Int × Int × Int × Int)) (n2 : Int) (b3 : Bool) : Option ((List Int) × Bool) :=
 oif b3 (
 some ([], false)) (
 iterP (l37_0 d x1 n2 (j37_0 d)) fuelN ([], 1))
theorem e37 (d : Nat) (x1 : (Int × Int × Int × Int × Int × Int × Int × Int × Int)) (n2 : Int) : g37 (d + 1) x1 n2 =
 obind (g174 d x1) fun r3 =>
 oif (!r3) (
 j37_1 d x1 n2 true) (
 obind (g179 d n2 0 40) fun r4 =>
 j37_1 d x1 n2 (!r4)) := by kernel_rfl

theorem e38 (d : Nat) (l1 : List Int) : g38 (d + 1) l1 =
 obind (g170 d (l1, 0, 0)) fun r2 =>
 obind (g158 d r2.2 [0, 1, 50, (IntKind.i64.wrap ((10000 : Int) - r2.1.2.2.2.2.2.1)), (IntKind.i64.wrap ((10001 : Int) - r2.1.2.2.2.2.2.1)), 100000, (-1)]) fun r3 =>
 some (r2.1, r3.1) := by kernel_rfl

noncomputable def j39_0 (d : Nat) (x1 : (Int × Int × Int × Int × Int × Int × Int × Int × Int)) (n2 : Int) (b3 : Bool) : Option ((Int × Int × Int × Int × Int × Int × Int × Int × Int) × Bool) :=
 oif b3 (
 some ((0, 0, 0, 0, 0, 0, 0, 0, 0), false)) (
 obind (g48 d (x1.1, x1.2.1, x1.2.2.1, x1.2.2.2.1, x1.2.2.2.2.1, (IntKind.i64.wrap (x1.2.2.2.2.2.1 + n2)), x1.2.2.2.2.2.2)) fun r4 =>
 oif (!r4) (
 some ((0, 0, 0, 0, 0, 0, 0, 0, 0), false)) (
 some ((x1.1, x1.2.1, x1.2.2.1, x1.2.2.2.1, x1.2.2.2.2.1, (IntKind.i64.wrap (x1.2.2.2.2.2.1 + n2)), x1.2.2.2.2.2.2), true)))
theorem e39 (d : Nat) (x1 : (Int × Int × Int × Int × Int × Int × Int × Int × Int)) (n2 : Int) : g39 (d + 1) x1 n2 =
 obind (g48 d x1) fun r3 =>
 oif (!r3) (
 j39_0 d x1 n2 true) (
 obind (g172 d n2) fun r4 =>
 j39_0 d x1 n2 (!r4)) := by kernel_rfl

noncomputable def j40_0 (d : Nat) (x1 : (Int × Int × Int × Int × Int × Int × Int × Int × Int)) (n2 : Int) (b3 : Bool) : Option ((Int × Int × Int × Int × Int × Int × Int × Int × Int) × Bool) :=
 oif b3 (
 some ((0, 0, 0, 0, 0, 0, 0, 0, 0), false)) (
 some ((x1.1, x1.2.1, x1.2.2.1, x1.2.2.2.1, x1.2.2.2.2.1, (IntKind.i64.wrap (x1.2.2.2.2.2.1 + n2)), x1.2.2.2.2.2.2), true))
theorem e40 (d : Nat) (x1 : (Int × Int × Int × Int × Int × Int × Int × Int × Int)) (n2 : Int) : g40 (d + 1) x1 n2 =
 obind (g174 d x1) fun r3 =>
 oif (!r3) (
 j40_0 d x1 n2 true) (
 obind (g175 d n2) fun r4 =>
 oif (!r4) (
 j40_0 d x1 n2 true) (
 j40_0 d x1 n2 (decide (((IntKind.i64.wrap (x1.2.2.2.2.2.1 + n2)) : Int) > 10000)))) := by kernel_rfl

noncomputable def j183_0 (d : Nat)  (l12 : List Int) : Option (List Int) :=
 some l12
noncomputable def l183_1_b (d : Nat) (r10 : (Int × ((List Int) × Int × Int))) (kx183_1_0 : (List Int) → Option (List Int)) (ag11 : List Int → Option (List Int)) (l12 : List Int) : Option (List Int) :=
 oif (decide ((((l12.length : Nat) : Int) : Int) < (IntKind.i64.wrap ((7 : Int) + r10.1)))) (
 oif (Nat.ble ((l12.length + [1].length) * 8) roomMax) (
 ag11 (l12 ++ [1])) none) (
 kx183_1_0 l12)
noncomputable def l183_1 (d : Nat) (r10 : (Int × ((List Int) × Int × Int))) (kx183_1_0 : (List Int) → Option (List Int)) (ag11 : List Int → Option (List Int)) (s : List Int) : Option (List Int) := l183_1_b d r10 kx183_1_0 ag11 s
noncomputable def j183_1 (d : Nat)  (l4 : List Int) (n5 : Int) (n6 : Int) (l7 : List Int) : Option (List Int) :=
 obind (g177 d (l4, n5, n6) 20) fun r8 =>
 oif ((r8.1 : Int) == 0) (
 obind (g158 d r8.2 [(-1), 1000000000, 1000000001]) fun r9 =>
 oif (Nat.ble ((l7.length + [r9.1].length) * 8) roomMax) (
 some (l7 ++ [r9.1])) none) (
 oif ((r8.1 : Int) == 1) (
 obind (g177 d r8.2 3) fun r10 =>
 iterP (l183_1 d r10 (j183_0 d)) fuelN l7) (
 some l7))
noncomputable def l183_0_b (d : Nat)  (kx183_0_0 : (List Int) → Int → Int → (List Int) → Option (List Int)) (ag3 : ((List Int) × Int × ((List Int) × Int × Int)) → Option (List Int)) (l4 : List Int) (n5 : Int) (x6 : ((List Int) × Int × Int)) : Option (List Int) :=
 oif (decide ((n5 : Int) > 0)) (
 obind (g177 d x6 60000) fun r7 =>
 oif (Nat.ble ((l4.length + [r7.1].length) * 8) roomMax) (
 ag3 ((l4 ++ [r7.1]), (IntKind.i64.wrap (n5 - 1)), r7.2)) none) (
 kx183_0_0 x6.1 x6.2.1 x6.2.2 l4)
noncomputable def l183_0 (d : Nat)  (kx183_0_0 : (List Int) → Int → Int → (List Int) → Option (List Int)) (ag3 : ((List Int) × Int × ((List Int) × Int × Int)) → Option (List Int)) (s : ((List Int) × Int × ((List Int) × Int × Int))) : Option (List Int) := l183_0_b d kx183_0_0 ag3 s.1 s.2.1 s.2.2
theorem e183 (d : Nat) (l1 : List Int) : g183 (d + 1) l1 =
 obind (g177 d (l1, 0, 0) 6) fun r2 =>
 iterP (l183_0 d (j183_1 d)) fuelN ([], r2.1, r2.2) := by kernel_rfl

theorem e41 (d : Nat) (l1 : List Int) : g41 (d + 1) l1 =
 obind (g183 d l1) fun r2 =>
 obind (g158 d (l1, 0, 0) [1, 2, 10, 1500, 100000, 100001, 0]) fun r3 =>
 some (r2, r3.1) := by kernel_rfl

noncomputable def j184_0 (d : Nat) (l1 : List Int) (b3 : Bool) : Option Bool :=
 some (decide ((((l1.length : Nat) : Int) : Int) ≤ 8))
noncomputable def l184_0_b (d : Nat) (l1 : List Int) (kx184_0_0 : Bool → Option Bool) (ag2 : (Bool × Int) → Option Bool) (b3 : Bool) (n4 : Int) : Option Bool :=
 oif (decide ((n4 : Int) < ((l1.length : Nat) : Int))) (
 oif (decide (0 ≤ (n4 : Int))) (
 obind (l1[(n4 : Int).toNat]?) fun n5 =>
 oif (decide ((n5 : Int) < 0)) (
 some false) (
 oif (decide ((n5 : Int) > 1000000000)) (
 some false) (
 ag2 (b3, (IntKind.i64.wrap (n4 + 1)))))) none) (
 kx184_0_0 b3)
noncomputable def l184_0 (d : Nat) (l1 : List Int) (kx184_0_0 : Bool → Option Bool) (ag2 : (Bool × Int) → Option Bool) (s : (Bool × Int)) : Option Bool := l184_0_b d l1 kx184_0_0 ag2 s.1 s.2
theorem e184 (d : Nat) (l1 : List Int) : g184 (d + 1) l1 =
 iterP (l184_0 d l1 (j184_0 d l1)) fuelN (false, 0) := by kernel_rfl

noncomputable def j42_0 (d : Nat) (l1 : List Int) (n2 : Int) (b3 : Bool) : Option (Int × Bool) :=
 oif b3 (
 some (0, false)) (
 obind (g186 d l1) fun r4 =>
 oif (Nat.ble ((r4.length + [n2].length) * 8) roomMax) (
 obind (g185 d (r4 ++ [n2])) fun r5 =>
 oif ((n2 : Int) == 0) none (
 some ((r5.tmod n2), true))) none)
theorem e42 (d : Nat) (l1 : List Int) (n2 : Int) : g42 (d + 1) l1 n2 =
 obind (g184 d l1) fun r3 =>
 oif (!r3) (
 j42_0 d l1 n2 true) (
 oif (decide ((((l1.length : Nat) : Int) : Int) > 7)) (
 j42_0 d l1 n2 true) (
 oif (decide ((n2 : Int) < 1)) (
 j42_0 d l1 n2 true) (
 j42_0 d l1 n2 (decide ((n2 : Int) > 100000))))) := by kernel_rfl

theorem e187 (d : Nat) (l1 : List Int) : g187 (d + 1) l1 =
 oif (decide ((((l1.length : Nat) : Int) : Int) ≤ 8)) (
 obind (g228 d l1 0 1000000000) fun r2 =>
 some r2) (
 some false) := by kernel_rfl

theorem e43 (d : Nat) (l1 : List Int) (n2 : Int) : g43 (d + 1) l1 n2 =
 obind (g187 d l1) fun r3 =>
 oif (!r3) (
 some (0, false)) (
 oif (decide ((((l1.length : Nat) : Int) : Int) > 7)) (
 some (0, false)) (
 obind (g179 d n2 1 100000) fun r4 =>
 oif (!r4) (
 some (0, false)) (
 obind (g188 d l1 n2) fun r5 =>
 some (r5, true)))) := by kernel_rfl

theorem e44 (d : Nat) (l1 : List Int) : g44 (d + 1) l1 =
 obind (g184 d l1) fun r2 =>
 oif (!r2) (
 some (0, false)) (
 obind (g185 d l1) fun r3 =>
 some (r3, true)) := by kernel_rfl

theorem e45 (d : Nat) (l1 : List Int) : g45 (d + 1) l1 =
 obind (g187 d l1) fun r2 =>
 oif (!r2) (
 some (0, false)) (
 obind (g189 d l1) fun r3 =>
 some (r3, true)) := by kernel_rfl

noncomputable def j46_0 (d : Nat)  (b4 : Bool) : Option Bool :=
 some true
noncomputable def l46_0_b (d : Nat) (l1 : List (Int × Int × Int × Int × Int × Int × Int)) (l2 : List (Int × Int × Int × Int × Int × Int × Int)) (kx46_0_0 : Bool → Option Bool) (ag3 : (Bool × Int) → Option Bool) (b4 : Bool) (n5 : Int) : Option Bool :=
 oif (decide ((n5 : Int) < ((l1.length : Nat) : Int))) (
 oif (decide (0 ≤ (n5 : Int))) (
 obind (l1[(n5 : Int).toNat]?) fun x6 =>
 oif (decide (0 ≤ (n5 : Int))) (
 obind (l2[(n5 : Int).toNat]?) fun x7 =>
 oif (!(((x6.1 : Int) == x7.1) && ((((x6.2.1 : Int) == x7.2.1) && (((x6.2.2.1 : Int) == x7.2.2.1) && (((x6.2.2.2.1 : Int) == x7.2.2.2.1) && (((x6.2.2.2.2.1 : Int) == x7.2.2.2.2.1) && (((x6.2.2.2.2.2.1 : Int) == x7.2.2.2.2.2.1) && (((x6.2.2.2.2.2.2 : Int) == x7.2.2.2.2.2.2) && true)))))) && true))) (
 some false) (
 ag3 (b4, (IntKind.i64.wrap (n5 + 1))))) none) none) (
 kx46_0_0 b4)
noncomputable def l46_0 (d : Nat) (l1 : List (Int × Int × Int × Int × Int × Int × Int)) (l2 : List (Int × Int × Int × Int × Int × Int × Int)) (kx46_0_0 : Bool → Option Bool) (ag3 : (Bool × Int) → Option Bool) (s : (Bool × Int)) : Option Bool := l46_0_b d l1 l2 kx46_0_0 ag3 s.1 s.2
theorem e46 (d : Nat) (l1 : List (Int × Int × Int × Int × Int × Int × Int)) (l2 : List (Int × Int × Int × Int × Int × Int × Int)) : g46 (d + 1) l1 l2 =
 oif ((((l1.length : Nat) : Int) : Int) != ((l2.length : Nat) : Int)) (
 some false) (
 iterP (l46_0 d l1 l2 (j46_0 d)) fuelN (false, 0)) := by kernel_rfl

noncomputable def j47_0 (d : Nat)  (b4 : Bool) : Option Bool :=
 some true
noncomputable def l47_0_b (d : Nat) (l1 : List Int) (l2 : List Int) (kx47_0_0 : Bool → Option Bool) (ag3 : (Bool × Int) → Option Bool) (b4 : Bool) (n5 : Int) : Option Bool :=
 oif (decide ((n5 : Int) < ((l1.length : Nat) : Int))) (
 oif (decide (0 ≤ (n5 : Int))) (
 obind (l1[(n5 : Int).toNat]?) fun n6 =>
 oif (decide (0 ≤ (n5 : Int))) (
 obind (l2[(n5 : Int).toNat]?) fun n7 =>
 oif ((n6 : Int) != n7) (
 some false) (
 ag3 (b4, (IntKind.i64.wrap (n5 + 1))))) none) none) (
 kx47_0_0 b4)
noncomputable def l47_0 (d : Nat) (l1 : List Int) (l2 : List Int) (kx47_0_0 : Bool → Option Bool) (ag3 : (Bool × Int) → Option Bool) (s : (Bool × Int)) : Option Bool := l47_0_b d l1 l2 kx47_0_0 ag3 s.1 s.2
theorem e47 (d : Nat) (l1 : List Int) (l2 : List Int) : g47 (d + 1) l1 l2 =
 oif ((((l1.length : Nat) : Int) : Int) != ((l2.length : Nat) : Int)) (
 some false) (
 iterP (l47_0 d l1 l2 (j47_0 d)) fuelN (false, 0)) := by kernel_rfl

theorem e49 (d : Nat) (x1 : (Int × Int × Int × Int × Int × Int × Int × Int × Int)) : g49 (d + 1) x1 =
 obind (g174 d x1) fun r2 =>
 some r2 := by kernel_rfl

theorem e191 (d : Nat) (x1 : (Int × Int × Int × Int × Int × Int)) : g191 (d + 1) x1 =
 some (x1.2.1, x1.2.2.1, x1.2.2.2.1, x1.2.2.2.2.1) := by kernel_rfl

noncomputable def j50_0 (d : Nat) (x1 : (Int × Int × Int × Int × Int × Int)) (b4 : Bool) : Option Bool :=
 oif (decide ((x1.1 : Int) ≥ 1)) (
 oif (decide ((x1.1 : Int) ≤ 100000)) (
 oif (decide ((x1.2.2.2.2.2 : Int) ≥ 1)) (
 some (decide ((x1.2.2.2.2.2 : Int) ≤ 1500))) (
 some false)) (
 some false)) (
 some false)
noncomputable def l50_0_b (d : Nat) (r2 : (Int × Int × Int × Int)) (kx50_0_0 : Bool → Option Bool) (ag3 : (Bool × Int) → Option Bool) (b4 : Bool) (n5 : Int) : Option Bool :=
 oif (decide ((n5 : Int) < 4)) (
 oif (decide (0 ≤ (n5 : Int))) (
 obind (([r2.1, r2.2.1, r2.2.2.1, r2.2.2.2] : List Int)[(n5 : Int).toNat]?) fun n6 =>
 oif (decide ((n6 : Int) < 0)) (
 some false) (
 oif (decide ((n6 : Int) > 65535)) (
 some false) (
 ag3 (b4, (IntKind.i64.wrap (n5 + 1)))))) none) (
 kx50_0_0 b4)
noncomputable def l50_0 (d : Nat) (r2 : (Int × Int × Int × Int)) (kx50_0_0 : Bool → Option Bool) (ag3 : (Bool × Int) → Option Bool) (s : (Bool × Int)) : Option Bool := l50_0_b d r2 kx50_0_0 ag3 s.1 s.2
theorem e50 (d : Nat) (x1 : (Int × Int × Int × Int × Int × Int)) : g50 (d + 1) x1 =
 obind (g191 d x1) fun r2 =>
 iterP (l50_0 d r2 (j50_0 d x1)) fuelN (false, 0) := by kernel_rfl

noncomputable def j4_0 (d : Nat)  (b24 : Bool) : Option Bool :=
 some true
noncomputable def j4_1 (d : Nat) (ag23 : (Bool × Int × Int) → Option Bool) (b24 : Bool) (n26 : Int) (x27 : (Int × Int × Int × Int × Int × Int × Int)) (b29 : Bool) (b30 : Bool) (b31 : Bool) (b32 : Bool) (b33 : Bool) (b34 : Bool) (b35 : Bool) (b36 : Bool) (b37 : Bool) (b38 : Bool) (b39 : Bool) (b40 : Bool) : Option Bool :=
 oif b40 (
 some false) (
 ag23 (b24, x27.1, (IntKind.i64.wrap (n26 + 1))))
noncomputable def l4_1_b (d : Nat) (r3 : ((Int × Int × Int × Int × Int × Int × Int × Int × Int) × Int)) (r5 : ((List (Int × Int × Int × Int × Int × Int × Int)) × Bool)) (kx4_1_0 : Bool → Option Bool) (ag23 : (Bool × Int × Int) → Option Bool) (b24 : Bool) (n25 : Int) (n26 : Int) : Option Bool :=
 oif (decide ((n26 : Int) < ((r5.1.length : Nat) : Int))) (
 oif (decide (0 ≤ (n26 : Int))) (
 oif (Nat.blt ((n26 : Int).toNat) r5.1.length) (
 obind (r5.1[(n26 : Int).toNat]?) fun x27 =>
 obind (g33 d r3.1 n26) fun r28 =>
 oif (!r28.2) (
 j4_1 d ag23 b24 n26 x27 true true true true true true true true true true true true) (
 oif (!(((r28.1.1 : Int) == x27.1) && ((((r28.1.2.1 : Int) == x27.2.1) && (((r28.1.2.2.1 : Int) == x27.2.2.1) && (((r28.1.2.2.2.1 : Int) == x27.2.2.2.1) && (((r28.1.2.2.2.2.1 : Int) == x27.2.2.2.2.1) && (((r28.1.2.2.2.2.2.1 : Int) == x27.2.2.2.2.2.1) && (((r28.1.2.2.2.2.2.2 : Int) == x27.2.2.2.2.2.2) && true)))))) && true))) (
 j4_1 d ag23 b24 n26 x27 false (!(((r28.1.1 : Int) == x27.1) && ((((r28.1.2.1 : Int) == x27.2.1) && (((r28.1.2.2.1 : Int) == x27.2.2.1) && (((r28.1.2.2.2.1 : Int) == x27.2.2.2.1) && (((r28.1.2.2.2.2.1 : Int) == x27.2.2.2.2.1) && (((r28.1.2.2.2.2.2.1 : Int) == x27.2.2.2.2.2.1) && (((r28.1.2.2.2.2.2.2 : Int) == x27.2.2.2.2.2.2) && true)))))) && true))) true true true true true true true true true true) (
 oif (decide ((x27.1 : Int) > r3.2)) (
 j4_1 d ag23 b24 n26 x27 false (!(((r28.1.1 : Int) == x27.1) && ((((r28.1.2.1 : Int) == x27.2.1) && (((r28.1.2.2.1 : Int) == x27.2.2.1) && (((r28.1.2.2.2.1 : Int) == x27.2.2.2.1) && (((r28.1.2.2.2.2.1 : Int) == x27.2.2.2.2.1) && (((r28.1.2.2.2.2.2.1 : Int) == x27.2.2.2.2.2.1) && (((r28.1.2.2.2.2.2.2 : Int) == x27.2.2.2.2.2.2) && true)))))) && true))) false (decide ((x27.1 : Int) > r3.2)) true true true true true true true true) (
 oif (decide ((x27.1 : Int) < n25)) (
 j4_1 d ag23 b24 n26 x27 false (!(((r28.1.1 : Int) == x27.1) && ((((r28.1.2.1 : Int) == x27.2.1) && (((r28.1.2.2.1 : Int) == x27.2.2.1) && (((r28.1.2.2.2.1 : Int) == x27.2.2.2.1) && (((r28.1.2.2.2.2.1 : Int) == x27.2.2.2.2.1) && (((r28.1.2.2.2.2.2.1 : Int) == x27.2.2.2.2.2.1) && (((r28.1.2.2.2.2.2.2 : Int) == x27.2.2.2.2.2.2) && true)))))) && true))) false (decide ((x27.1 : Int) > r3.2)) false (decide ((x27.1 : Int) < n25)) true true true true true true) (
 oif ((r3.1.2.2.2.2.2.2.2.1 : Int) == 0) none (
 oif (((n26.tmod r3.1.2.2.2.2.2.2.2.1) : Int) != 0) (
 oif ((x27.1 : Int) != n25) (
 j4_1 d ag23 b24 n26 x27 false (!(((r28.1.1 : Int) == x27.1) && ((((r28.1.2.1 : Int) == x27.2.1) && (((r28.1.2.2.1 : Int) == x27.2.2.1) && (((r28.1.2.2.2.1 : Int) == x27.2.2.2.1) && (((r28.1.2.2.2.2.1 : Int) == x27.2.2.2.2.1) && (((r28.1.2.2.2.2.2.1 : Int) == x27.2.2.2.2.2.1) && (((r28.1.2.2.2.2.2.2 : Int) == x27.2.2.2.2.2.2) && true)))))) && true))) false (decide ((x27.1 : Int) > r3.2)) false (decide ((x27.1 : Int) < n25)) false ((x27.1 : Int) != n25) true true true true) (
 oif (decide ((n26 : Int) > 0)) (
 oif ((r3.1.2.2.2.2.2.2.2.1 : Int) == 0) none (
 oif (((n26.tmod r3.1.2.2.2.2.2.2.2.1) : Int) == 0) (
 oif ((x27.1 : Int) == n25) (
 j4_1 d ag23 b24 n26 x27 false (!(((r28.1.1 : Int) == x27.1) && ((((r28.1.2.1 : Int) == x27.2.1) && (((r28.1.2.2.1 : Int) == x27.2.2.1) && (((r28.1.2.2.2.1 : Int) == x27.2.2.2.1) && (((r28.1.2.2.2.2.1 : Int) == x27.2.2.2.2.1) && (((r28.1.2.2.2.2.2.1 : Int) == x27.2.2.2.2.2.1) && (((r28.1.2.2.2.2.2.2 : Int) == x27.2.2.2.2.2.2) && true)))))) && true))) false (decide ((x27.1 : Int) > r3.2)) false (decide ((x27.1 : Int) < n25)) false ((x27.1 : Int) != n25) false ((x27.1 : Int) == n25) true true) (
 j4_1 d ag23 b24 n26 x27 false (!(((r28.1.1 : Int) == x27.1) && ((((r28.1.2.1 : Int) == x27.2.1) && (((r28.1.2.2.1 : Int) == x27.2.2.1) && (((r28.1.2.2.2.1 : Int) == x27.2.2.2.1) && (((r28.1.2.2.2.2.1 : Int) == x27.2.2.2.2.1) && (((r28.1.2.2.2.2.2.1 : Int) == x27.2.2.2.2.2.1) && (((r28.1.2.2.2.2.2.2 : Int) == x27.2.2.2.2.2.2) && true)))))) && true))) false (decide ((x27.1 : Int) > r3.2)) false (decide ((x27.1 : Int) < n25)) false ((x27.1 : Int) != n25) false ((x27.1 : Int) == n25) false ((x27.2.1 : Int) != (IntKind.i64.wrap (n26 + 1))))) (
 j4_1 d ag23 b24 n26 x27 false (!(((r28.1.1 : Int) == x27.1) && ((((r28.1.2.1 : Int) == x27.2.1) && (((r28.1.2.2.1 : Int) == x27.2.2.1) && (((r28.1.2.2.2.1 : Int) == x27.2.2.2.1) && (((r28.1.2.2.2.2.1 : Int) == x27.2.2.2.2.1) && (((r28.1.2.2.2.2.2.1 : Int) == x27.2.2.2.2.2.1) && (((r28.1.2.2.2.2.2.2 : Int) == x27.2.2.2.2.2.2) && true)))))) && true))) false (decide ((x27.1 : Int) > r3.2)) false (decide ((x27.1 : Int) < n25)) false ((x27.1 : Int) != n25) false false false ((x27.2.1 : Int) != (IntKind.i64.wrap (n26 + 1)))))) (
 j4_1 d ag23 b24 n26 x27 false (!(((r28.1.1 : Int) == x27.1) && ((((r28.1.2.1 : Int) == x27.2.1) && (((r28.1.2.2.1 : Int) == x27.2.2.1) && (((r28.1.2.2.2.1 : Int) == x27.2.2.2.1) && (((r28.1.2.2.2.2.1 : Int) == x27.2.2.2.2.1) && (((r28.1.2.2.2.2.2.1 : Int) == x27.2.2.2.2.2.1) && (((r28.1.2.2.2.2.2.2 : Int) == x27.2.2.2.2.2.2) && true)))))) && true))) false (decide ((x27.1 : Int) > r3.2)) false (decide ((x27.1 : Int) < n25)) false ((x27.1 : Int) != n25) false false false ((x27.2.1 : Int) != (IntKind.i64.wrap (n26 + 1)))))) (
 oif (decide ((n26 : Int) > 0)) (
 oif ((r3.1.2.2.2.2.2.2.2.1 : Int) == 0) none (
 oif (((n26.tmod r3.1.2.2.2.2.2.2.2.1) : Int) == 0) (
 oif ((x27.1 : Int) == n25) (
 j4_1 d ag23 b24 n26 x27 false (!(((r28.1.1 : Int) == x27.1) && ((((r28.1.2.1 : Int) == x27.2.1) && (((r28.1.2.2.1 : Int) == x27.2.2.1) && (((r28.1.2.2.2.1 : Int) == x27.2.2.2.1) && (((r28.1.2.2.2.2.1 : Int) == x27.2.2.2.2.1) && (((r28.1.2.2.2.2.2.1 : Int) == x27.2.2.2.2.2.1) && (((r28.1.2.2.2.2.2.2 : Int) == x27.2.2.2.2.2.2) && true)))))) && true))) false (decide ((x27.1 : Int) > r3.2)) false (decide ((x27.1 : Int) < n25)) false false false ((x27.1 : Int) == n25) true true) (
 j4_1 d ag23 b24 n26 x27 false (!(((r28.1.1 : Int) == x27.1) && ((((r28.1.2.1 : Int) == x27.2.1) && (((r28.1.2.2.1 : Int) == x27.2.2.1) && (((r28.1.2.2.2.1 : Int) == x27.2.2.2.1) && (((r28.1.2.2.2.2.1 : Int) == x27.2.2.2.2.1) && (((r28.1.2.2.2.2.2.1 : Int) == x27.2.2.2.2.2.1) && (((r28.1.2.2.2.2.2.2 : Int) == x27.2.2.2.2.2.2) && true)))))) && true))) false (decide ((x27.1 : Int) > r3.2)) false (decide ((x27.1 : Int) < n25)) false false false ((x27.1 : Int) == n25) false ((x27.2.1 : Int) != (IntKind.i64.wrap (n26 + 1))))) (
 j4_1 d ag23 b24 n26 x27 false (!(((r28.1.1 : Int) == x27.1) && ((((r28.1.2.1 : Int) == x27.2.1) && (((r28.1.2.2.1 : Int) == x27.2.2.1) && (((r28.1.2.2.2.1 : Int) == x27.2.2.2.1) && (((r28.1.2.2.2.2.1 : Int) == x27.2.2.2.2.1) && (((r28.1.2.2.2.2.2.1 : Int) == x27.2.2.2.2.2.1) && (((r28.1.2.2.2.2.2.2 : Int) == x27.2.2.2.2.2.2) && true)))))) && true))) false (decide ((x27.1 : Int) > r3.2)) false (decide ((x27.1 : Int) < n25)) false false false false false ((x27.2.1 : Int) != (IntKind.i64.wrap (n26 + 1)))))) (
 j4_1 d ag23 b24 n26 x27 false (!(((r28.1.1 : Int) == x27.1) && ((((r28.1.2.1 : Int) == x27.2.1) && (((r28.1.2.2.1 : Int) == x27.2.2.1) && (((r28.1.2.2.2.1 : Int) == x27.2.2.2.1) && (((r28.1.2.2.2.2.1 : Int) == x27.2.2.2.2.1) && (((r28.1.2.2.2.2.2.1 : Int) == x27.2.2.2.2.2.1) && (((r28.1.2.2.2.2.2.2 : Int) == x27.2.2.2.2.2.2) && true)))))) && true))) false (decide ((x27.1 : Int) > r3.2)) false (decide ((x27.1 : Int) < n25)) false false false false false ((x27.2.1 : Int) != (IntKind.i64.wrap (n26 + 1))))))))))) none) none) (
 kx4_1_0 b24)
noncomputable def l4_1 (d : Nat) (r3 : ((Int × Int × Int × Int × Int × Int × Int × Int × Int) × Int)) (r5 : ((List (Int × Int × Int × Int × Int × Int × Int)) × Bool)) (kx4_1_0 : Bool → Option Bool) (ag23 : (Bool × Int × Int) → Option Bool) (s : (Bool × Int × Int)) : Option Bool := l4_1_b d r3 r5 kx4_1_0 ag23 s.1 s.2.1 s.2.2
noncomputable def j4_2 (d : Nat) (r3 : ((Int × Int × Int × Int × Int × Int × Int × Int × Int) × Int)) (r5 : ((List (Int × Int × Int × Int × Int × Int × Int)) × Bool)) (b22 : Bool)  : Option Bool :=
 iterP (l4_1 d r3 r5 (j4_0 d)) fuelN (b22, 0, 0)
noncomputable def j4_3 (d : Nat) (r3 : ((Int × Int × Int × Int × Int × Int × Int × Int × Int) × Int)) (r5 : ((List (Int × Int × Int × Int × Int × Int × Int)) × Bool)) (r12 : ((Int × Int × Int × Int × Int × Int × Int × Int × Int) × Int)) (r13 : ((Int × Int × Int × Int × Int × Int × Int × Int × Int) × Bool)) (b22 : Bool) : Option Bool :=
 oif r13.2 (
 obind (g33 d r12.1 5) fun r23 =>
 obind (g33 d r13.1 5) fun r24 =>
 oif (!r23.2) (
 some false) (
 oif (!r24.2) (
 some false) (
 oif ((r24.1.1 : Int) != (IntKind.i64.wrap (r23.1.1 + r12.2))) (
 some false) (
 oif (!(((r24.1.2.1 : Int) == r23.1.2.1) && (((r24.1.2.2.1 : Int) == r23.1.2.2.1) && (((r24.1.2.2.2.1 : Int) == r23.1.2.2.2.1) && (((r24.1.2.2.2.2.1 : Int) == r23.1.2.2.2.2.1) && (((r24.1.2.2.2.2.2.1 : Int) == r23.1.2.2.2.2.2.1) && (((r24.1.2.2.2.2.2.2 : Int) == r23.1.2.2.2.2.2.2) && true))))))) (
 some false) (
 j4_2 d r3 r5 b22))))) (
 j4_2 d r3 r5 b22)
noncomputable def l4_0_b (d : Nat) (r9 : ((Int × Int × Int × Int × Int × Int × Int × Int × Int) × Int)) (r11 : ((List Int) × Bool)) (kx4_0_0 : Bool → Option Bool) (ag21 : (Bool × Int) → Option Bool) (b22 : Bool) (n23 : Int) : Option Bool :=
 oif (decide ((n23 : Int) < ((r11.1.length : Nat) : Int))) (
 oif (decide (0 ≤ (n23 : Int))) (
 oif (Nat.blt ((n23 : Int).toNat) r11.1.length) (
 obind (r11.1[(n23 : Int).toNat]?) fun n24 =>
 oif (decide ((n24 : Int) < 1)) (
 some false) (
 oif (decide ((n24 : Int) > r9.1.2.2.2.2.2.2.1)) (
 some false) (
 ag21 (b22, (IntKind.i64.wrap (n23 + 1)))))) none) none) (
 kx4_0_0 b22)
noncomputable def l4_0 (d : Nat) (r9 : ((Int × Int × Int × Int × Int × Int × Int × Int × Int) × Int)) (r11 : ((List Int) × Bool)) (kx4_0_0 : Bool → Option Bool) (ag21 : (Bool × Int) → Option Bool) (s : (Bool × Int)) : Option Bool := l4_0_b d r9 r11 kx4_0_0 ag21 s.1 s.2
noncomputable def j4_4 (d : Nat) (r3 : ((Int × Int × Int × Int × Int × Int × Int × Int × Int) × Int)) (r5 : ((List (Int × Int × Int × Int × Int × Int × Int)) × Bool)) (r9 : ((Int × Int × Int × Int × Int × Int × Int × Int × Int) × Int)) (r11 : ((List Int) × Bool)) (r12 : ((Int × Int × Int × Int × Int × Int × Int × Int × Int) × Int)) (r13 : ((Int × Int × Int × Int × Int × Int × Int × Int × Int) × Bool)) (b20 : Bool) : Option Bool :=
 oif b20 (
 some false) (
 iterP (l4_0 d r9 r11 (j4_3 d r3 r5 r12 r13)) fuelN (false, 0))
theorem e4 (d : Nat) (l1 : List Int) (l2 : List Int) : g4 (d + 1) l1 l2 =
 oif (decide (((IntKind.i64.wrap (((l1.length : Nat) : Int) + ((l2.length : Nat) : Int))) : Int) > 1048576)) (
 some true) (
 obind (g29 d l1) fun r3 =>
 obind (g30 d r3.1 r3.2) fun r4 =>
 obind (g31 d r3.1 r3.2) fun r5 =>
 obind (g32 d l2) fun r6 =>
 obind (g33 d r6.1 r6.2) fun r7 =>
 obind (g34 d r6.1 r6.2) fun r8 =>
 obind (g35 d l2) fun r9 =>
 obind (g36 d r9.1 r9.2) fun r10 =>
 obind (g37 d r9.1 r9.2) fun r11 =>
 obind (g38 d l2) fun r12 =>
 obind (g39 d r12.1 r12.2) fun r13 =>
 obind (g40 d r12.1 r12.2) fun r14 =>
 obind (g41 d l2) fun r15 =>
 obind (g42 d r15.1 r15.2) fun r16 =>
 obind (g43 d r15.1 r15.2) fun r17 =>
 obind (g44 d r15.1) fun r18 =>
 obind (g45 d r15.1) fun r19 =>
 oif (!(r4.2 == r5.2)) (
 j4_4 d r3 r5 r9 r11 r12 r13 true) (
 obind (g46 d r4.1 r5.1) fun r20 =>
 oif (!r20) (
 j4_4 d r3 r5 r9 r11 r12 r13 true) (
 oif (!(r7.2 == r8.2)) (
 j4_4 d r3 r5 r9 r11 r12 r13 true) (
 oif (!(((r7.1.1 : Int) == r8.1.1) && ((((r7.1.2.1 : Int) == r8.1.2.1) && (((r7.1.2.2.1 : Int) == r8.1.2.2.1) && (((r7.1.2.2.2.1 : Int) == r8.1.2.2.2.1) && (((r7.1.2.2.2.2.1 : Int) == r8.1.2.2.2.2.1) && (((r7.1.2.2.2.2.2.1 : Int) == r8.1.2.2.2.2.2.1) && (((r7.1.2.2.2.2.2.2 : Int) == r8.1.2.2.2.2.2.2) && true)))))) && true))) (
 j4_4 d r3 r5 r9 r11 r12 r13 true) (
 oif (!(r10.2 == r11.2)) (
 j4_4 d r3 r5 r9 r11 r12 r13 true) (
 obind (g47 d r10.1 r11.1) fun r21 =>
 oif (!r21) (
 j4_4 d r3 r5 r9 r11 r12 r13 true) (
 oif (!(r13.2 == r14.2)) (
 j4_4 d r3 r5 r9 r11 r12 r13 true) (
 oif (!(((r13.1.1 : Int) == r14.1.1) && (((r13.1.2.1 : Int) == r14.1.2.1) && (((r13.1.2.2.1 : Int) == r14.1.2.2.1) && (((r13.1.2.2.2.1 : Int) == r14.1.2.2.2.1) && (((r13.1.2.2.2.2.1 : Int) == r14.1.2.2.2.2.1) && (((r13.1.2.2.2.2.2.1 : Int) == r14.1.2.2.2.2.2.1) && (((r13.1.2.2.2.2.2.2.1 : Int) == r14.1.2.2.2.2.2.2.1) && (((r13.1.2.2.2.2.2.2.2.1 : Int) == r14.1.2.2.2.2.2.2.2.1) && (((r13.1.2.2.2.2.2.2.2.2 : Int) == r14.1.2.2.2.2.2.2.2.2) && true)))))))))) (
 j4_4 d r3 r5 r9 r11 r12 r13 true) (
 oif (!(r16.2 == r17.2)) (
 j4_4 d r3 r5 r9 r11 r12 r13 true) (
 oif ((r16.1 : Int) != r17.1) (
 j4_4 d r3 r5 r9 r11 r12 r13 true) (
 oif (!(r18.2 == r19.2)) (
 j4_4 d r3 r5 r9 r11 r12 r13 true) (
 oif ((r18.1 : Int) != r19.1) (
 j4_4 d r3 r5 r9 r11 r12 r13 true) (
 oif r16.2 (
 oif (decide ((r17.1 : Int) < 0)) (
 j4_4 d r3 r5 r9 r11 r12 r13 true) (
 oif (decide ((r17.1 : Int) ≥ r15.2)) (
 j4_4 d r3 r5 r9 r11 r12 r13 true) (
 obind (g48 d r3.1) fun r22 =>
 obind (g49 d r3.1) fun r23 =>
 oif (!(r22 == r23)) (
 j4_4 d r3 r5 r9 r11 r12 r13 true) (
 oif r7.2 (
 obind (g50 d r7.1.2) fun r24 =>
 j4_4 d r3 r5 r9 r11 r12 r13 (!r24)) (
 j4_4 d r3 r5 r9 r11 r12 r13 false))))) (
 obind (g48 d r3.1) fun r25 =>
 obind (g49 d r3.1) fun r26 =>
 oif (!(r25 == r26)) (
 j4_4 d r3 r5 r9 r11 r12 r13 true) (
 oif r7.2 (
 obind (g50 d r7.1.2) fun r27 =>
 j4_4 d r3 r5 r9 r11 r12 r13 (!r27)) (
 j4_4 d r3 r5 r9 r11 r12 r13 false)))))))))))))))) := by kernel_rfl

end Go.Proofs.Ytmjhgkmiafemfaa
