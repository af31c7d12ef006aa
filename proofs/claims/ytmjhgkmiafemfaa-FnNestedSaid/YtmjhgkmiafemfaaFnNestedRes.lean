/-
  The residual forms of the program's functions under the interpreter by value, printed by program (wip/pv/gen2.py); each equation is checked by the kernel.
  Conditions: none.
-/
import Derived.Test.YtmjhgkmiafemfaaVDef
import Derived.Test.YtmjhgkmiafemfaaProg
import Derived.KernelRfl
set_option linter.all false
set_option maxRecDepth 1000000
namespace Go.Proofs.Ytmjhgkmiafemfaa
open Go.Ev Go.Pv

theorem fuel_is : ∃ n : Nat, n = 4194304 := ⟨_, rfl⟩
noncomputable def fuelN : Nat := Classical.choose fuel_is
theorem fuelN_eq : fuelN = 4194304 := Classical.choose_spec fuel_is
def pvSig : FuncId → Sig
  | 10 => ⟨[(.ro, (.sl (.int .u8))), (.ro, (.sl (.int .u8)))], [(false, .bool)]⟩
  | 12 => ⟨[(.ro, (.sl (.int .u8))), (.ro, (.sl (.int .u8)))], [(false, .bool)]⟩
  | 16 => ⟨[(.ro, (.sl (.int .i64))), (.ro, (.sl (.int .i64)))], [(false, .bool)]⟩
  | 127 => ⟨[(.ro, (.sl (.int .u8)))], [(true, (.sl (.pair (.int .i64) (.pair (.int .i64) (.pair .bool .str))))), (false, (.int .i64))]⟩
  | 128 => ⟨[(.ro, (.sl (.pair (.int .i64) (.pair (.int .i64) (.pair .bool .str))))), (.ro, (.int .i64))], [(true, (.sl (.int .i64))), (false, .bool)]⟩
  | 129 => ⟨[(.ro, (.sl (.pair (.int .i64) (.pair (.int .i64) (.pair .bool .str))))), (.ro, (.int .i64))], [(true, (.sl (.int .i64))), (false, .bool)]⟩
  | 130 => ⟨[(.ro, (.sl (.pair (.int .i64) (.pair (.int .i64) (.pair .bool .str))))), (.ro, (.int .i64))], [(false, (.int .i64)), (false, .bool)]⟩
  | 131 => ⟨[(.ro, (.sl (.pair (.int .i64) (.pair (.int .i64) (.pair .bool .str))))), (.ro, (.int .i64))], [(false, (.int .i64)), (false, .bool)]⟩
  | 132 => ⟨[(.ro, (.sl (.pair (.int .i64) (.pair (.int .i64) (.pair .bool .str))))), (.ro, (.int .i64))], [(false, (.int .i64)), (false, .bool)]⟩
  | 133 => ⟨[(.ro, (.sl (.pair (.int .i64) (.pair (.int .i64) (.pair .bool .str))))), (.ro, (.int .i64))], [(true, (.sl (.pair (.int .i64) (.pair (.int .i64) (.pair .bool .str))))), (false, .bool)]⟩
  | 134 => ⟨[(.ro, (.sl (.pair (.int .i64) (.pair (.int .i64) (.pair .bool .str))))), (.ro, (.int .i64))], [(true, (.sl (.pair (.int .i64) (.pair (.int .i64) (.pair .bool .str))))), (false, .bool)]⟩
  | 135 => ⟨[(.ro, (.sl (.pair (.int .i64) (.pair (.int .i64) (.pair .bool .str))))), (.ro, (.sl (.pair (.int .i64) (.pair (.int .i64) (.pair .bool .str)))))], [(false, .bool)]⟩
  | 136 => ⟨[(.ro, (.sl (.pair (.int .i64) (.pair (.int .i64) (.pair .bool .str)))))], [(false, .bool)]⟩
  | 137 => ⟨[(.ro, (.sl (.int .u8)))], [(false, (.int .i64)), (true, (.sl (.pair (.int .i64) (.pair (.int .i64) (.pair .bool .str)))))]⟩
  | 138 => ⟨[(.ro, (.int .i64)), (.ro, (.sl (.pair (.int .i64) (.pair (.int .i64) (.pair .bool .str)))))], [(true, (.sl (.pair (.int .i64) (.pair (.int .i64) (.pair .bool .str))))), (false, .bool)]⟩
  | 139 => ⟨[(.ro, (.int .i64)), (.ro, (.sl (.pair (.int .i64) (.pair (.int .i64) (.pair .bool .str)))))], [(true, (.sl (.pair (.int .i64) (.pair (.int .i64) (.pair .bool .str))))), (false, .bool)]⟩
  | 140 => ⟨[(.ro, (.sl (.int .u8)))], [(true, (.sl (.pair (.int .i64) (.pair (.int .i64) (.pair .bool .str))))), (true, (.sl (.int .i64)))]⟩
  | 141 => ⟨[(.ro, (.sl (.pair (.int .i64) (.pair (.int .i64) (.pair .bool .str))))), (.ro, (.sl (.int .i64)))], [(false, (.int .i64)), (false, .bool)]⟩
  | 142 => ⟨[(.ro, (.sl (.pair (.int .i64) (.pair (.int .i64) (.pair .bool .str))))), (.ro, (.sl (.int .i64)))], [(false, (.int .i64)), (false, .bool)]⟩
  | 158 => ⟨[(.ps, (.pair (.sl (.int .u8)) (.pair (.int .i64) (.int .u64)))), (.ro, (.sl (.int .i64)))], [(false, (.int .i64))]⟩
  | 177 => ⟨[(.ps, (.pair (.sl (.int .u8)) (.pair (.int .i64) (.int .u64)))), (.ro, (.int .i64))], [(false, (.int .i64))]⟩
  | 179 => ⟨[(.ro, (.int .i64)), (.ro, (.int .i64)), (.ro, (.int .i64))], [(false, .bool)]⟩
  | 211 => ⟨[(.ps, (.pair (.sl (.int .u8)) (.pair (.int .i64) (.int .u64)))), (.ro, (.int .i64))], [(false, .bool)]⟩
  | 223 => ⟨[(.ro, (.int .i64)), (.ro, (.int .i64))], [(false, (.int .i64))]⟩
  | 228 => ⟨[(.ro, (.sl (.int .i64))), (.ro, (.int .i64)), (.ro, (.int .i64))], [(false, .bool)]⟩
  | 229 => ⟨[(.ps, (.pair (.sl (.int .u8)) (.pair (.int .i64) (.int .u64)))), (.ro, (.sl .str))], [(false, .str)]⟩
  | 261 => ⟨[(.ro, (.sl (.int .u8)))], [(true, (.sl (.pair (.int .i64) (.pair (.int .i64) (.pair .bool .str))))), (false, (.int .i64))]⟩
  | 262 => ⟨[(.ro, (.sl (.pair (.int .i64) (.pair (.int .i64) (.pair .bool .str))))), (.ro, (.int .i64))], [(false, .bool)]⟩
  | 263 => ⟨[(.ro, (.sl (.pair (.int .i64) (.pair (.int .i64) (.pair .bool .str))))), (.ro, (.int .i64))], [(false, (.int .i64))]⟩
  | 264 => ⟨[(.ro, (.sl (.pair (.int .i64) (.pair (.int .i64) (.pair .bool .str))))), (.ro, (.int .i64))], [(false, .bool)]⟩
  | 265 => ⟨[(.ro, (.sl (.pair (.int .i64) (.pair (.int .i64) (.pair .bool .str))))), (.ro, (.int .i64))], [(true, (.sl (.int .i64)))]⟩
  | 266 => ⟨[(.ro, (.sl (.pair (.int .i64) (.pair (.int .i64) (.pair .bool .str))))), (.ro, (.int .i64))], [(false, (.int .i64))]⟩
  | 267 => ⟨[(.ro, (.sl (.pair (.int .i64) (.pair (.int .i64) (.pair .bool .str))))), (.ro, (.int .i64))], [(false, (.int .i64))]⟩
  | 268 => ⟨[(.ro, (.sl (.sl (.pair (.int .i64) (.pair (.int .i64) (.pair .bool .str))))))], [(true, (.sl (.pair (.int .i64) (.pair (.int .i64) (.pair .bool .str)))))]⟩
  | 269 => ⟨[(.ro, (.sl (.pair (.int .i64) (.pair (.int .i64) (.pair .bool .str)))))], [(true, (.sl (.pair (.int .i64) (.pair (.int .i64) (.pair .bool .str)))))]⟩
  | 270 => ⟨[(.ps, (.pair (.sl (.int .u8)) (.pair (.int .i64) (.int .u64))))], [(true, (.sl (.pair (.int .i64) (.pair (.int .i64) (.pair .bool .str)))))]⟩
  | 271 => ⟨[(.ro, (.sl (.pair (.int .i64) (.pair (.int .i64) (.pair .bool .str)))))], [(false, .bool)]⟩
  | 272 => ⟨[(.ro, (.int .i64)), (.ro, (.sl (.pair (.int .i64) (.pair (.int .i64) (.pair .bool .str)))))], [(true, (.sl (.pair (.int .i64) (.pair (.int .i64) (.pair .bool .str)))))]⟩
  | 273 => ⟨[(.ro, (.sl (.pair (.int .i64) (.pair (.int .i64) (.pair .bool .str))))), (.ro, (.int .i64))], [(false, (.int .i64))]⟩
  | 274 => ⟨[(.ro, (.sl (.pair (.int .i64) (.pair (.int .i64) (.pair .bool .str))))), (.ro, (.int .i64)), (.ro, (.sl (.int .i64)))], [(false, .bool)]⟩
  | 289 => ⟨[(.ps, (.pair (.sl (.int .u8)) (.pair (.int .i64) (.int .u64))))], [(false, (.int .i64))]⟩
  | 295 => ⟨[(.ro, (.int .i64)), (.ro, (.int .i64))], [(false, (.int .i64))]⟩
  | 311 => ⟨[(.ps, (.pair (.sl (.int .u8)) (.pair (.int .i64) (.int .u64))))], [(true, (.sl (.pair (.int .i64) (.pair (.int .i64) (.pair .bool .str)))))]⟩
  | 312 => ⟨[(.ps, (.pair (.sl (.int .u8)) (.pair (.int .i64) (.int .u64)))), (.ro, (.int .i64))], [(false, .str)]⟩
  | _ => ⟨[], []⟩
def pvLoops : FuncId → Nat → LoopA
  | 10, 0 => ⟨[(4, false, .bool), (90, false, (.int .i64))], [], [], []⟩
  | 16, 0 => ⟨[(4, false, .bool), (13, false, (.int .i64))], [], [], []⟩
  | 128, 0 => ⟨[(6, true, (.sl (.int .i64))), (7, false, (.int .i64))], [], [], []⟩
  | 135, 0 => ⟨[(4, false, .bool), (13, false, (.int .i64))], [], [], []⟩
  | 136, 0 => ⟨[(2, false, .bool), (11, false, (.int .i64))], [], [], []⟩
  | 138, 0 => ⟨[(6, true, (.sl (.pair (.int .i64) (.pair (.int .i64) (.pair .bool .str))))), (17, false, (.int .i64))], [], [], []⟩
  | 140, 0 => ⟨[(6, true, (.sl (.int .i64))), (7, false, (.int .i64))], [], [], []⟩
  | 140, 1 => ⟨[(6, true, (.sl (.int .i64))), (8, false, (.int .i64))], [(4, (.pair (.sl (.int .u8)) (.pair (.int .i64) (.int .u64))))], [], []⟩
  | 141, 0 => ⟨[(4, false, (.int .i64)), (5, false, .bool), (26, false, (.int .i64))], [], [], []⟩
  | 141, 1 => ⟨[(4, false, (.int .i64)), (5, false, .bool), (39, false, (.int .i64))], [], [], []⟩
  | 141, 2 => ⟨[(10, false, (.int .i64))], [], [], []⟩
  | 142, 0 => ⟨[(4, false, (.int .i64)), (5, false, .bool), (23, false, (.int .i64))], [], [], []⟩
  | 228, 0 => ⟨[(6, false, .bool), (11, false, (.int .i64))], [], [], []⟩
  | 263, 0 => ⟨[(5, false, (.int .i64))], [], [], []⟩
  | 265, 0 => ⟨[(5, true, (.sl (.int .i64))), (6, false, (.int .i64))], [], [], []⟩
  | 266, 0 => ⟨[(5, false, (.int .i64))], [], [], []⟩
  | 267, 0 => ⟨[(4, false, (.int .i64)), (5, false, (.int .i64))], [], [], []⟩
  | 268, 0 => ⟨[(3, false, (.int .i64)), (11, false, (.int .i64))], [], [], []⟩
  | 268, 1 => ⟨[(6, true, (.sl (.pair (.int .i64) (.pair (.int .i64) (.pair .bool .str))))), (27, false, (.int .i64))], [], [], []⟩
  | 270, 0 => ⟨[(3, true, (.sl (.pair (.int .i64) (.pair (.int .i64) (.pair .bool .str)))))], [], [], []⟩
  | 270, 1 => ⟨[(3, true, (.sl (.pair (.int .i64) (.pair (.int .i64) (.pair .bool .str)))))], [], [], []⟩
  | 270, 2 => ⟨[(3, true, (.sl (.pair (.int .i64) (.pair (.int .i64) (.pair .bool .str)))))], [(0, (.pair (.sl (.int .u8)) (.pair (.int .i64) (.int .u64))))], [], []⟩
  | 271, 0 => ⟨[(2, false, .bool), (8, false, (.int .i64))], [], [], []⟩
  | 272, 0 => ⟨[(5, true, (.sl (.pair (.int .i64) (.pair (.int .i64) (.pair .bool .str))))), (13, false, (.int .i64))], [], [], []⟩
  | 273, 0 => ⟨[(5, false, (.int .i64))], [], [], []⟩
  | 274, 0 => ⟨[(1, false, (.int .i64)), (6, false, .bool), (7, false, (.int .i64))], [], [], []⟩
  | 311, 0 => ⟨[(3, true, (.sl (.pair (.int .i64) (.pair (.int .i64) (.pair .bool .str))))), (4, false, (.int .i64))], [(0, (.pair (.sl (.int .u8)) (.pair (.int .i64) (.int .u64))))], [], []⟩
  | 312, 0 => ⟨[(5, false, .str)], [], [], []⟩
  | _, _ => ⟨[], [], [], []⟩
def pvEloops : FuncId → Nat → List (Nat × Value)
  | 10, 0 => [(1, (.slice none 0 0)), (4, (.bool false)), (5, (.slice none 0 0)), (6, (.int .i64 0)), (11, (.int .i64 0)), (88, (.slice none 0 0)), (89, (.int .i64 0)), (90, (.int .i64 0))]
  | 16, 0 => [(0, (.slice none 0 0)), (1, (.slice none 0 0)), (4, (.bool false)), (12, (.int .i64 0)), (13, (.int .i64 0))]
  | 128, 0 => [(0, (.slice none 0 0)), (1, (.int .i64 0)), (4, (.slice none 0 0)), (5, (.bool false)), (6, (.slice none 0 0)), (7, (.int .i64 0))]
  | 135, 0 => [(0, (.slice none 0 0)), (1, (.slice none 0 0)), (4, (.bool false)), (12, (.int .i64 0)), (13, (.int .i64 0))]
  | 136, 0 => [(0, (.slice none 0 0)), (2, (.bool false)), (9, (.slice none 0 0)), (10, (.int .i64 0)), (11, (.int .i64 0))]
  | 138, 0 => [(4, (.slice none 0 0)), (5, (.bool false)), (6, (.slice none 0 0)), (15, (.slice none 0 0)), (16, (.int .i64 0)), (17, (.int .i64 0))]
  | 140, 0 => [(2, (.slice none 0 0)), (3, (.slice none 0 0)), (4, (.pointer (some ⟨0, 0, none⟩))), (5, (.slice none 0 0)), (6, (.slice none 0 0)), (7, (.int .i64 0))]
  | 140, 1 => [(2, (.slice none 0 0)), (3, (.slice none 0 0)), (4, (.pointer (some ⟨0, 0, none⟩))), (5, (.slice none 0 0)), (6, (.slice none 0 0)), (8, (.int .i64 0))]
  | 141, 0 => [(0, (.slice none 0 0)), (1, (.slice none 0 0)), (4, (.int .i64 0)), (5, (.bool false)), (24, (.slice none 0 0)), (25, (.int .i64 0)), (26, (.int .i64 0))]
  | 141, 1 => [(0, (.slice none 0 0)), (1, (.slice none 0 0)), (4, (.int .i64 0)), (5, (.bool false)), (37, (.slice none 0 0)), (38, (.int .i64 0)), (39, (.int .i64 0))]
  | 141, 2 => [(0, (.slice none 0 0)), (1, (.slice none 0 0)), (4, (.int .i64 0)), (5, (.bool false)), (8, (.int .i64 0)), (9, (.pointer (some ⟨0, 0, none⟩))), (10, (.int .i64 0)), (37, (.slice none 0 0)), (38, (.int .i64 0)), (39, (.int .i64 0)), (40, (.bool false)), (41, (.int .i64 0)), (42, (.pointer (some ⟨0, 0, none⟩))), (43, (.agg #[(.int .i64 0), (.int .i64 0), (.bool false), (.string ⟨#[]⟩)])), (44, (.pointer (some ⟨0, 0, none⟩))), (45, (.int .i64 0)), (46, (.slice none 0 0)), (47, (.int .i64 0)), (48, (.bool false)), (49, (.int .i64 0))]
  | 142, 0 => [(0, (.slice none 0 0)), (1, (.slice none 0 0)), (4, (.int .i64 0)), (5, (.bool false)), (22, (.int .i64 0)), (23, (.int .i64 0))]
  | 228, 0 => [(1, (.int .i64 0)), (2, (.int .i64 0)), (6, (.bool false)), (9, (.slice none 0 0)), (10, (.int .i64 0)), (11, (.int .i64 0))]
  | 263, 0 => [(0, (.slice none 0 0)), (1, (.int .i64 0)), (4, (.int .i64 0)), (5, (.int .i64 0))]
  | 265, 0 => [(0, (.slice none 0 0)), (1, (.int .i64 0)), (4, (.slice none 0 0)), (5, (.slice none 0 0)), (6, (.int .i64 0))]
  | 266, 0 => [(0, (.slice none 0 0)), (1, (.int .i64 0)), (4, (.int .i64 0)), (5, (.int .i64 0))]
  | 267, 0 => [(0, (.slice none 0 0)), (1, (.int .i64 0)), (4, (.int .i64 0)), (5, (.int .i64 0))]
  | 268, 0 => [(0, (.slice none 0 0)), (2, (.slice none 0 0)), (3, (.int .i64 0)), (9, (.slice none 0 0)), (10, (.int .i64 0)), (11, (.int .i64 0))]
  | 268, 1 => [(2, (.slice none 0 0)), (6, (.slice none 0 0)), (25, (.slice none 0 0)), (26, (.int .i64 0)), (27, (.int .i64 0))]
  | 270, 0 => [(2, (.slice none 0 0)), (3, (.slice none 0 0)), (5, (.int .i64 0))]
  | 270, 1 => [(2, (.slice none 0 0)), (3, (.slice none 0 0)), (6, (.int .i64 0))]
  | 270, 2 => [(0, (.pointer (some ⟨0, 0, none⟩))), (2, (.slice none 0 0)), (3, (.slice none 0 0))]
  | 271, 0 => [(0, (.slice none 0 0)), (2, (.bool false)), (6, (.slice none 0 0)), (7, (.int .i64 0)), (8, (.int .i64 0))]
  | 272, 0 => [(4, (.slice none 0 0)), (5, (.slice none 0 0)), (11, (.slice none 0 0)), (12, (.int .i64 0)), (13, (.int .i64 0))]
  | 273, 0 => [(0, (.slice none 0 0)), (1, (.int .i64 0)), (4, (.int .i64 0)), (5, (.int .i64 0))]
  | 274, 0 => [(0, (.slice none 0 0)), (1, (.int .i64 0)), (2, (.slice none 0 0)), (6, (.bool false)), (7, (.int .i64 0))]
  | 311, 0 => [(0, (.pointer (some ⟨0, 0, none⟩))), (2, (.slice none 0 0)), (3, (.slice none 0 0)), (4, (.int .i64 0))]
  | 312, 0 => [(1, (.int .i64 0)), (4, (.string ⟨#[]⟩)), (5, (.string ⟨#[]⟩))]
  | _, _ => []
def pvInline : FuncId → Bool
  | 216 => true
  | 217 => true
  | 294 => true
  | 310 => true
  | 317 => true
  | 318 => true
  | 333 => true
  | 342 => true
  | _ => false
noncomputable def pvAnn : AnnV := ⟨fuelN, pvSig, pvLoops, pvEloops, pvInline⟩

/-- loop.example/g00838/laws.big -/
noncomputable def g12 (d : Nat) (l1 : List Int) (l2 : List Int) : Option Bool := (lev Try.prog pvAnn d).call 12 (l1, l2)
/-- loop.example/g00838/laws.sameInts -/
noncomputable def g16 (d : Nat) (l1 : List Int) (l2 : List Int) : Option Bool := (lev Try.prog pvAnn d).call 16 (l1, l2)
/-- (*loop.example/g00838/spec.l1Cur).next -/
noncomputable def g289 (d : Nat) (x1 : ((List Int) × Int × Int)) : Option (Int × ((List Int) × Int × Int)) := (lev Try.prog pvAnn d).call 289 (x1)
/-- (*loop.example/g00838/spec.l1Cur).pick -/
noncomputable def g177 (d : Nat) (x1 : ((List Int) × Int × Int)) (n2 : Int) : Option (Int × ((List Int) × Int × Int)) := (lev Try.prog pvAnn d).call 177 (x1, n2)
/-- (*loop.example/g00838/spec.l1Cur).among -/
noncomputable def g158 (d : Nat) (x1 : ((List Int) × Int × Int)) (l2 : List Int) : Option (Int × ((List Int) × Int × Int)) := (lev Try.prog pvAnn d).call 158 (x1, l2)
/-- (*loop.example/g00838/spec.l1Cur).one -/
noncomputable def g211 (d : Nat) (x1 : ((List Int) × Int × Int)) (n2 : Int) : Option (Bool × ((List Int) × Int × Int)) := (lev Try.prog pvAnn d).call 211 (x1, n2)
/-- loop.example/g00838/spec.l1Most -/
noncomputable def g223 (d : Nat) (n1 : Int) (n2 : Int) : Option Int := (lev Try.prog pvAnn d).call 223 (n1, n2)
/-- (*loop.example/g00838/spec.l1Cur).of -/
noncomputable def g229 (d : Nat) (x1 : ((List Int) × Int × Int)) (l2 : List ByteArray) : Option (ByteArray × ((List Int) × Int × Int)) := (lev Try.prog pvAnn d).call 229 (x1, l2)
/-- loop.example/g00838/spec.l1Least -/
noncomputable def g295 (d : Nat) (n1 : Int) (n2 : Int) : Option Int := (lev Try.prog pvAnn d).call 295 (n1, n2)
/-- (*loop.example/g00838/spec.l1Cur).attrs -/
noncomputable def g311 (d : Nat) (x1 : ((List Int) × Int × Int)) : Option ((List (Int × Int × Bool × ByteArray)) × ((List Int) × Int × Int)) := (lev Try.prog pvAnn d).call 311 (x1)
/-- (*loop.example/g00838/spec.l1Cur).long -/
noncomputable def g312 (d : Nat) (x1 : ((List Int) × Int × Int)) (n2 : Int) : Option (ByteArray × ((List Int) × Int × Int)) := (lev Try.prog pvAnn d).call 312 (x1, n2)
/-- (*loop.example/g00838/spec.l1Cur).anyAttrs -/
noncomputable def g270 (d : Nat) (x1 : ((List Int) × Int × Int)) : Option ((List (Int × Int × Bool × ByteArray)) × ((List Int) × Int × Int)) := (lev Try.prog pvAnn d).call 270 (x1)
/-- loop.example/g00838/spec.DrawSizeOf -/
noncomputable def g261 (d : Nat) (l1 : List Int) : Option ((List (Int × Int × Bool × ByteArray)) × Int) := (lev Try.prog pvAnn d).call 261 (l1)
/-- loop.example/g00838/spec.DrawChildrenOf -/
noncomputable def g127 (d : Nat) (l1 : List Int) : Option ((List (Int × Int × Bool × ByteArray)) × Int) := (lev Try.prog pvAnn d).call 127 (l1)
/-- loop.example/g00838/impl.AreAttrs -/
noncomputable def g136 (d : Nat) (l1 : List (Int × Int × Bool × ByteArray)) : Option Bool := (lev Try.prog pvAnn d).call 136 (l1)
/-- loop.example/g00838/impl.isAttrOf -/
noncomputable def g262 (d : Nat) (l1 : List (Int × Int × Bool × ByteArray)) (n2 : Int) : Option Bool := (lev Try.prog pvAnn d).call 262 (l1, n2)
/-- loop.example/g00838/impl.endOf -/
noncomputable def g263 (d : Nat) (l1 : List (Int × Int × Bool × ByteArray)) (n2 : Int) : Option Int := (lev Try.prog pvAnn d).call 263 (l1, n2)
/-- loop.example/g00838/impl.ChildrenOf -/
noncomputable def g128 (d : Nat) (l1 : List (Int × Int × Bool × ByteArray)) (n2 : Int) : Option ((List Int) × Bool) := (lev Try.prog pvAnn d).call 128 (l1, n2)
/-- loop.example/g00838/spec.l1In -/
noncomputable def g179 (d : Nat) (n1 : Int) (n2 : Int) (n3 : Int) : Option Bool := (lev Try.prog pvAnn d).call 179 (n1, n2, n3)
/-- loop.example/g00838/spec.tvGood -/
noncomputable def g271 (d : Nat) (l1 : List (Int × Int × Bool × ByteArray)) : Option Bool := (lev Try.prog pvAnn d).call 271 (l1)
/-- loop.example/g00838/spec.tvHas -/
noncomputable def g264 (d : Nat) (l1 : List (Int × Int × Bool × ByteArray)) (n2 : Int) : Option Bool := (lev Try.prog pvAnn d).call 264 (l1, n2)
/-- loop.example/g00838/spec.tvEnd -/
noncomputable def g266 (d : Nat) (l1 : List (Int × Int × Bool × ByteArray)) (n2 : Int) : Option Int := (lev Try.prog pvAnn d).call 266 (l1, n2)
/-- loop.example/g00838/spec.tvKids -/
noncomputable def g265 (d : Nat) (l1 : List (Int × Int × Bool × ByteArray)) (n2 : Int) : Option (List Int) := (lev Try.prog pvAnn d).call 265 (l1, n2)
/-- loop.example/g00838/spec.ChildrenOf -/
noncomputable def g129 (d : Nat) (l1 : List (Int × Int × Bool × ByteArray)) (n2 : Int) : Option ((List Int) × Bool) := (lev Try.prog pvAnn d).call 129 (l1, n2)
/-- loop.example/g00838/impl.EndOfAttr -/
noncomputable def g130 (d : Nat) (l1 : List (Int × Int × Bool × ByteArray)) (n2 : Int) : Option (Int × Bool) := (lev Try.prog pvAnn d).call 130 (l1, n2)
/-- loop.example/g00838/spec.EndOfAttr -/
noncomputable def g131 (d : Nat) (l1 : List (Int × Int × Bool × ByteArray)) (n2 : Int) : Option (Int × Bool) := (lev Try.prog pvAnn d).call 131 (l1, n2)
/-- loop.example/g00838/impl.parentOf -/
noncomputable def g267 (d : Nat) (l1 : List (Int × Int × Bool × ByteArray)) (n2 : Int) : Option Int := (lev Try.prog pvAnn d).call 267 (l1, n2)
/-- loop.example/g00838/impl.ParentOf -/
noncomputable def g132 (d : Nat) (l1 : List (Int × Int × Bool × ByteArray)) (n2 : Int) : Option (Int × Bool) := (lev Try.prog pvAnn d).call 132 (l1, n2)
/-- slices.Concat[[]loop.example/g00838/impl.Attr,loop.example/g00838/impl.Attr] -/
noncomputable def g268 (d : Nat) (l1 : List (List (Int × Int × Bool × ByteArray))) : Option (List (Int × Int × Bool × ByteArray)) := (lev Try.prog pvAnn d).call 268 (l1)
/-- loop.example/g00838/impl.DropAttr -/
noncomputable def g133 (d : Nat) (l1 : List (Int × Int × Bool × ByteArray)) (n2 : Int) : Option ((List (Int × Int × Bool × ByteArray)) × Bool) := (lev Try.prog pvAnn d).call 133 (l1, n2)
/-- loop.example/g00838/spec.tvOwn -/
noncomputable def g269 (d : Nat) (l1 : List (Int × Int × Bool × ByteArray)) : Option (List (Int × Int × Bool × ByteArray)) := (lev Try.prog pvAnn d).call 269 (l1)
/-- loop.example/g00838/spec.DropAttr -/
noncomputable def g134 (d : Nat) (l1 : List (Int × Int × Bool × ByteArray)) (n2 : Int) : Option ((List (Int × Int × Bool × ByteArray)) × Bool) := (lev Try.prog pvAnn d).call 134 (l1, n2)
/-- loop.example/g00838/laws.pSameAttrs -/
noncomputable def g135 (d : Nat) (l1 : List (Int × Int × Bool × ByteArray)) (l2 : List (Int × Int × Bool × ByteArray)) : Option Bool := (lev Try.prog pvAnn d).call 135 (l1, l2)
/-- loop.example/g00838/spec.DrawWrapAttrs -/
noncomputable def g137 (d : Nat) (l1 : List Int) : Option (Int × (List (Int × Int × Bool × ByteArray))) := (lev Try.prog pvAnn d).call 137 (l1)
/-- loop.example/g00838/impl.WrapAttrs -/
noncomputable def g138 (d : Nat) (n1 : Int) (l2 : List (Int × Int × Bool × ByteArray)) : Option ((List (Int × Int × Bool × ByteArray)) × Bool) := (lev Try.prog pvAnn d).call 138 (n1, l2)
/-- loop.example/g00838/spec.tvWrap -/
noncomputable def g272 (d : Nat) (n1 : Int) (l2 : List (Int × Int × Bool × ByteArray)) : Option (List (Int × Int × Bool × ByteArray)) := (lev Try.prog pvAnn d).call 272 (n1, l2)
/-- loop.example/g00838/spec.WrapAttrs -/
noncomputable def g139 (d : Nat) (n1 : Int) (l2 : List (Int × Int × Bool × ByteArray)) : Option ((List (Int × Int × Bool × ByteArray)) × Bool) := (lev Try.prog pvAnn d).call 139 (n1, l2)
/-- loop.example/g00838/spec.tvParent -/
noncomputable def g273 (d : Nat) (l1 : List (Int × Int × Bool × ByteArray)) (n2 : Int) : Option Int := (lev Try.prog pvAnn d).call 273 (l1, n2)
/-- loop.example/g00838/spec.DrawFindAttr -/
noncomputable def g140 (d : Nat) (l1 : List Int) : Option ((List (Int × Int × Bool × ByteArray)) × (List Int)) := (lev Try.prog pvAnn d).call 140 (l1)
/-- loop.example/g00838/impl.FindAttr -/
noncomputable def g141 (d : Nat) (l1 : List (Int × Int × Bool × ByteArray)) (l2 : List Int) : Option (Int × Bool) := (lev Try.prog pvAnn d).call 141 (l1, l2)
/-- loop.example/g00838/spec.l1All -/
noncomputable def g228 (d : Nat) (l1 : List Int) (n2 : Int) (n3 : Int) : Option Bool := (lev Try.prog pvAnn d).call 228 (l1, n2, n3)
/-- loop.example/g00838/spec.tvIs -/
noncomputable def g274 (d : Nat) (l1 : List (Int × Int × Bool × ByteArray)) (n2 : Int) (l3 : List Int) : Option Bool := (lev Try.prog pvAnn d).call 274 (l1, n2, l3)
/-- loop.example/g00838/spec.FindAttr -/
noncomputable def g142 (d : Nat) (l1 : List (Int × Int × Bool × ByteArray)) (l2 : List Int) : Option (Int × Bool) := (lev Try.prog pvAnn d).call 142 (l1, l2)
/-- loop.example/g00838/laws.FnNested -/
noncomputable def g10 (d : Nat) (l1 : List Int) (l2 : List Int) : Option Bool := (lev Try.prog pvAnn d).call 10 (l1, l2)

theorem e12 (d : Nat) (l1 : List Int) (l2 : List Int) : g12 (d + 1) l1 l2 =
 oif (decide ((((l1.length : Nat) : Int) : Int) > 1048576)) (
 some true) (
 some (decide ((((l2.length : Nat) : Int) : Int) > (IntKind.i64.wrap ((1048576 : Int) - ((l1.length : Nat) : Int)))))) := by kernel_rfl

noncomputable def j16_0 (d : Nat)  (b4 : Bool) : Option Bool :=
 some true
noncomputable def l16_0_b (d : Nat) (l1 : List Int) (l2 : List Int) (kx16_0_0 : Bool → Option Bool) (ag3 : (Bool × Int) → Option Bool) (b4 : Bool) (n5 : Int) : Option Bool :=
 oif (decide ((n5 : Int) < ((l1.length : Nat) : Int))) (
 oif (decide (0 ≤ (n5 : Int))) (
 obind (l1[(n5 : Int).toNat]?) fun n6 =>
 oif (decide (0 ≤ (n5 : Int))) (
 obind (l2[(n5 : Int).toNat]?) fun n7 =>
 oif ((n6 : Int) != n7) (
 some false) (
 ag3 (b4, (IntKind.i64.wrap (n5 + 1))))) none) none) (
 kx16_0_0 b4)
noncomputable def l16_0 (d : Nat) (l1 : List Int) (l2 : List Int) (kx16_0_0 : Bool → Option Bool) (ag3 : (Bool × Int) → Option Bool) (s : (Bool × Int)) : Option Bool := l16_0_b d l1 l2 kx16_0_0 ag3 s.1 s.2
theorem e16 (d : Nat) (l1 : List Int) (l2 : List Int) : g16 (d + 1) l1 l2 =
 oif ((((l1.length : Nat) : Int) : Int) != ((l2.length : Nat) : Int)) (
 some false) (
 iterP (l16_0 d l1 l2 (j16_0 d)) fuelN (false, 0)) := by kernel_rfl

noncomputable def j289_0 (d : Nat) (x1 : ((List Int) × Int × Int)) (n2 : Int) : Option (Int × ((List Int) × Int × Int)) :=
 oif (decide (((IntKind.i64.wrap (x1.2.1 + 1)) : Int) ≤ ((x1.1.length : Nat) : Int))) (
 some (n2, (x1.1, (IntKind.i64.wrap (x1.2.1 + 1)), (IntKind.u64.wrap ((IntKind.u64.wrap ((IntKind.u64.wrap (x1.2.2 * 6364136223846793005)) + (IntKind.u64.wrap n2))) + 1442695040888963407))))) (
 some ((IntKind.i64.wrap (IntKind.u64.wrap ((BitVec.ofInt IntKind.u64.bits ((IntKind.u64.wrap ((IntKind.u64.wrap ((IntKind.u64.wrap (x1.2.2 * 6364136223846793005)) + (IntKind.u64.wrap n2))) + 1442695040888963407)).fdiv (2 ^ (min (40 : Int).toNat IntKind.u64.bits))) &&& BitVec.ofInt IntKind.u64.bits 255).toNat : Int))), (x1.1, (IntKind.i64.wrap (x1.2.1 + 1)), (IntKind.u64.wrap ((IntKind.u64.wrap ((IntKind.u64.wrap (x1.2.2 * 6364136223846793005)) + (IntKind.u64.wrap n2))) + 1442695040888963407)))))
theorem e289 (d : Nat) (x1 : ((List Int) × Int × Int)) : g289 (d + 1) x1 =
 oif (decide ((x1.2.1 : Int) < ((x1.1.length : Nat) : Int))) (
 oif (decide (0 ≤ (x1.2.1 : Int))) (
 obind (x1.1[(x1.2.1 : Int).toNat]?) fun n2 =>
 j289_0 d x1 (IntKind.i64.wrap n2)) none) (
 j289_0 d x1 0) := by kernel_rfl

theorem e177 (d : Nat) (x1 : ((List Int) × Int × Int)) (n2 : Int) : g177 (d + 1) x1 n2 =
 oif (decide ((n2 : Int) ≤ 1)) (
 some (0, x1)) (
 obind (g289 d x1) fun r3 =>
 oif (decide ((n2 : Int) > 200)) (
 obind (g289 d r3.2) fun r4 =>
 oif ((n2 : Int) == 0) none (
 some (((IntKind.i64.wrap ((IntKind.i64.wrap (r3.1 * 256)) + r4.1)).tmod n2), r4.2))) (
 oif ((n2 : Int) == 0) none (
 some ((r3.1.tmod n2), r3.2)))) := by kernel_rfl

theorem e158 (d : Nat) (x1 : ((List Int) × Int × Int)) (l2 : List Int) : g158 (d + 1) x1 l2 =
 obind (g177 d x1 ((l2.length : Nat) : Int)) fun r3 =>
 oif (decide (0 ≤ (r3.1 : Int))) (
 obind (l2[(r3.1 : Int).toNat]?) fun n4 =>
 some (n4, r3.2)) none := by kernel_rfl

theorem e211 (d : Nat) (x1 : ((List Int) × Int × Int)) (n2 : Int) : g211 (d + 1) x1 n2 =
 obind (g177 d x1 n2) fun r3 =>
 some (((r3.1 : Int) == 0), r3.2) := by kernel_rfl

theorem e223 (d : Nat) (n1 : Int) (n2 : Int) : g223 (d + 1) n1 n2 =
 oif (decide ((n1 : Int) > n2)) (
 some n1) (
 some n2) := by kernel_rfl

theorem e229 (d : Nat) (x1 : ((List Int) × Int × Int)) (l2 : List ByteArray) : g229 (d + 1) x1 l2 =
 obind (g177 d x1 ((l2.length : Nat) : Int)) fun r3 =>
 oif (decide (0 ≤ (r3.1 : Int))) (
 obind (l2[(r3.1 : Int).toNat]?) fun s4 =>
 some (s4, r3.2)) none := by kernel_rfl

theorem e295 (d : Nat) (n1 : Int) (n2 : Int) : g295 (d + 1) n1 n2 =
 oif (decide ((n1 : Int) < n2)) (
 some n1) (
 some n2) := by kernel_rfl

noncomputable def j311_0 (d : Nat)  (l4 : List (Int × Int × Bool × ByteArray)) (l5 : List Int) (n6 : Int) (n7 : Int) : Option ((List (Int × Int × Bool × ByteArray)) × ((List Int) × Int × Int)) :=
 some (l4, (l5, n6, n7))
noncomputable def j311_1 (d : Nat) (ag3 : ((List (Int × Int × Bool × ByteArray)) × Int × ((List Int) × Int × Int)) → Option ((List (Int × Int × Bool × ByteArray)) × ((List Int) × Int × Int))) (l4 : List (Int × Int × Bool × ByteArray)) (n5 : Int) (r7 : (Int × ((List Int) × Int × Int))) (n12 : Int) (b14 : Bool) (l15 : List Int) (n16 : Int) (n17 : Int) (b18 : Bool) (s19 : ByteArray) : Option ((List (Int × Int × Bool × ByteArray)) × ((List Int) × Int × Int)) :=
 oif (Nat.ble ((l4.length + [(n12, r7.1, b18, s19)].length) * 40) roomMax) (
 ag3 ((l4 ++ [(n12, r7.1, b18, s19)]), (IntKind.i64.wrap (n5 - 1)), (l15, n16, n17))) none
noncomputable def j311_2 (d : Nat) (ag3 : ((List (Int × Int × Bool × ByteArray)) × Int × ((List Int) × Int × Int)) → Option ((List (Int × Int × Bool × ByteArray)) × ((List Int) × Int × Int))) (l4 : List (Int × Int × Bool × ByteArray)) (n5 : Int) (r7 : (Int × ((List Int) × Int × Int))) (b8 : Bool) (l9 : List Int) (n10 : Int) (n11 : Int) (n12 : Int) : Option ((List (Int × Int × Bool × ByteArray)) × ((List Int) × Int × Int)) :=
 obind (g211 d (l9, n10, n11) 2) fun r13 =>
 oif r13.1 (
 j311_1 d ag3 l4 n5 r7 n12 true r13.2.1 r13.2.2.1 r13.2.2.2 true (⟨#[]⟩ : ByteArray)) (
 obind (g229 d r13.2 [(⟨#[]⟩ : ByteArray), (⟨#[97]⟩ : ByteArray), (⟨#[97, 98]⟩ : ByteArray), (⟨#[97, 98, 99]⟩ : ByteArray), (⟨#[97, 98, 99, 100]⟩ : ByteArray), (⟨#[0]⟩ : ByteArray), (⟨#[255, 0, 1]⟩ : ByteArray), (⟨#[104, 101, 108, 108, 111]⟩ : ByteArray)]) fun r14 =>
 j311_1 d ag3 l4 n5 r7 n12 false r14.2.1 r14.2.2.1 r14.2.2.2 false r14.1)
noncomputable def j311_3 (d : Nat) (ag3 : ((List (Int × Int × Bool × ByteArray)) × Int × ((List Int) × Int × Int)) → Option ((List (Int × Int × Bool × ByteArray)) × ((List Int) × Int × Int))) (l4 : List (Int × Int × Bool × ByteArray)) (n5 : Int) (r7 : (Int × ((List Int) × Int × Int))) (x8 : (Int × Int × Bool × ByteArray)) (r9 : (Int × ((List Int) × Int × Int))) (b10 : Bool) (b11 : Bool) (b12 : Bool) (l13 : List Int) (n14 : Int) (n15 : Int) : Option ((List (Int × Int × Bool × ByteArray)) × ((List Int) × Int × Int)) :=
 oif b12 (
 oif (decide (0 ≤ ((IntKind.i64.wrap (((l4.length : Nat) : Int) - 1)) : Int))) (
 oif (Nat.blt (((IntKind.i64.wrap (((l4.length : Nat) : Int) - 1)) : Int).toNat) l4.length) (
 obind (l4[((IntKind.i64.wrap (((l4.length : Nat) : Int) - 1)) : Int).toNat]?) fun x16 =>
 obind (g223 d (IntKind.i64.wrap (x16.1 + 1)) 1) fun r17 =>
 obind (g295 d r17 8) fun r18 =>
 j311_2 d ag3 l4 n5 r7 true l13 n14 n15 r18) none) none) (
 obind (g223 d (IntKind.i64.wrap (x8.1 - r9.1)) 1) fun r19 =>
 obind (g295 d r19 8) fun r20 =>
 j311_2 d ag3 l4 n5 r7 true l13 n14 n15 r20)
noncomputable def l311_0_b (d : Nat)  (kx311_0_0 : (List (Int × Int × Bool × ByteArray)) → (List Int) → Int → Int → Option ((List (Int × Int × Bool × ByteArray)) × ((List Int) × Int × Int))) (ag3 : ((List (Int × Int × Bool × ByteArray)) × Int × ((List Int) × Int × Int)) → Option ((List (Int × Int × Bool × ByteArray)) × ((List Int) × Int × Int))) (l4 : List (Int × Int × Bool × ByteArray)) (n5 : Int) (x6 : ((List Int) × Int × Int)) : Option ((List (Int × Int × Bool × ByteArray)) × ((List Int) × Int × Int)) :=
 oif (decide ((n5 : Int) > 0)) (
 obind (g177 d x6 5) fun r7 =>
 oif (decide ((((l4.length : Nat) : Int) : Int) > 0)) (
 oif (decide (0 ≤ ((IntKind.i64.wrap (((l4.length : Nat) : Int) - 1)) : Int))) (
 oif (Nat.blt (((IntKind.i64.wrap (((l4.length : Nat) : Int) - 1)) : Int).toNat) l4.length) (
 obind (l4[((IntKind.i64.wrap (((l4.length : Nat) : Int) - 1)) : Int).toNat]?) fun x8 =>
 obind (g177 d r7.2 3) fun r9 =>
 oif (decide (0 ≤ ((IntKind.i64.wrap (((l4.length : Nat) : Int) - 1)) : Int))) (
 oif (Nat.blt (((IntKind.i64.wrap (((l4.length : Nat) : Int) - 1)) : Int).toNat) l4.length) (
 obind (l4[((IntKind.i64.wrap (((l4.length : Nat) : Int) - 1)) : Int).toNat]?) fun x10 =>
 oif x10.2.2.1 (
 obind (g211 d r9.2 4) fun r11 =>
 j311_3 d ag3 l4 n5 r7 x8 r9 x10.2.2.1 true (!r11.1) r11.2.1 r11.2.2.1 r11.2.2.2) (
 j311_3 d ag3 l4 n5 r7 x8 r9 x10.2.2.1 false false r9.2.1 r9.2.2.1 r9.2.2.2)) none) none) none) none) (
 j311_2 d ag3 l4 n5 r7 false r7.2.1 r7.2.2.1 r7.2.2.2 1)) (
 kx311_0_0 l4 x6.1 x6.2.1 x6.2.2)
noncomputable def l311_0 (d : Nat)  (kx311_0_0 : (List (Int × Int × Bool × ByteArray)) → (List Int) → Int → Int → Option ((List (Int × Int × Bool × ByteArray)) × ((List Int) × Int × Int))) (ag3 : ((List (Int × Int × Bool × ByteArray)) × Int × ((List Int) × Int × Int)) → Option ((List (Int × Int × Bool × ByteArray)) × ((List Int) × Int × Int))) (s : ((List (Int × Int × Bool × ByteArray)) × Int × ((List Int) × Int × Int))) : Option ((List (Int × Int × Bool × ByteArray)) × ((List Int) × Int × Int)) := l311_0_b d kx311_0_0 ag3 s.1 s.2.1 s.2.2
theorem e311 (d : Nat) (x1 : ((List Int) × Int × Int)) : g311 (d + 1) x1 =
 obind (g177 d x1 10) fun r2 =>
 iterP (l311_0 d (j311_0 d)) fuelN ([], r2.1, r2.2) := by kernel_rfl

noncomputable def j312_0 (d : Nat) (x1 : ((List Int) × Int × Int)) (s4 : ByteArray) : Option (ByteArray × ((List Int) × Int × Int)) :=
 some (s4, x1)
noncomputable def l312_0_b (d : Nat) (n2 : Int) (kx312_0_0 : ByteArray → Option (ByteArray × ((List Int) × Int × Int))) (ag3 : ByteArray → Option (ByteArray × ((List Int) × Int × Int))) (s4 : ByteArray) : Option (ByteArray × ((List Int) × Int × Int)) :=
 oif (decide ((((s4 : ByteArray).size : Int) : Int) < n2)) (
 oif (Nat.ble ((s4 : ByteArray).size + ((⟨#[120]⟩ : ByteArray) : ByteArray).size) 9223372036854775807) (
 ag3 ((s4 : ByteArray) ++ ((⟨#[120]⟩ : ByteArray) : ByteArray))) none) (
 kx312_0_0 s4)
noncomputable def l312_0 (d : Nat) (n2 : Int) (kx312_0_0 : ByteArray → Option (ByteArray × ((List Int) × Int × Int))) (ag3 : ByteArray → Option (ByteArray × ((List Int) × Int × Int))) (s : ByteArray) : Option (ByteArray × ((List Int) × Int × Int)) := l312_0_b d n2 kx312_0_0 ag3 s
theorem e312 (d : Nat) (x1 : ((List Int) × Int × Int)) (n2 : Int) : g312 (d + 1) x1 n2 =
 iterP (l312_0 d n2 (j312_0 d x1)) fuelN (⟨#[]⟩ : ByteArray) := by kernel_rfl

noncomputable def j270_0 (d : Nat) (r8 : (Int × ((List Int) × Int × Int))) (l10 : List (Int × Int × Bool × ByteArray)) : Option ((List (Int × Int × Bool × ByteArray)) × ((List Int) × Int × Int)) :=
 some (l10, r8.2)
noncomputable def l270_0_b (d : Nat) (r8 : (Int × ((List Int) × Int × Int))) (kx270_0_0 : (List (Int × Int × Bool × ByteArray)) → Option ((List (Int × Int × Bool × ByteArray)) × ((List Int) × Int × Int))) (ag9 : List (Int × Int × Bool × ByteArray) → Option ((List (Int × Int × Bool × ByteArray)) × ((List Int) × Int × Int))) (l10 : List (Int × Int × Bool × ByteArray)) : Option ((List (Int × Int × Bool × ByteArray)) × ((List Int) × Int × Int)) :=
 oif (decide ((((l10.length : Nat) : Int) : Int) < (IntKind.i64.wrap ((400 : Int) + r8.1)))) (
 oif (Nat.ble ((l10.length + [(1, ((l10.length : Nat) : Int), false, (⟨#[]⟩ : ByteArray))].length) * 40) roomMax) (
 ag9 (l10 ++ [(1, ((l10.length : Nat) : Int), false, (⟨#[]⟩ : ByteArray))])) none) (
 kx270_0_0 l10)
noncomputable def l270_0 (d : Nat) (r8 : (Int × ((List Int) × Int × Int))) (kx270_0_0 : (List (Int × Int × Bool × ByteArray)) → Option ((List (Int × Int × Bool × ByteArray)) × ((List Int) × Int × Int))) (ag9 : List (Int × Int × Bool × ByteArray) → Option ((List (Int × Int × Bool × ByteArray)) × ((List Int) × Int × Int))) (s : List (Int × Int × Bool × ByteArray)) : Option ((List (Int × Int × Bool × ByteArray)) × ((List Int) × Int × Int)) := l270_0_b d r8 kx270_0_0 ag9 s
noncomputable def j270_1 (d : Nat) (r11 : (Int × ((List Int) × Int × Int))) (l13 : List (Int × Int × Bool × ByteArray)) : Option ((List (Int × Int × Bool × ByteArray)) × ((List Int) × Int × Int)) :=
 some (l13, r11.2)
noncomputable def l270_1_b (d : Nat) (r11 : (Int × ((List Int) × Int × Int))) (kx270_1_0 : (List (Int × Int × Bool × ByteArray)) → Option ((List (Int × Int × Bool × ByteArray)) × ((List Int) × Int × Int))) (ag12 : List (Int × Int × Bool × ByteArray) → Option ((List (Int × Int × Bool × ByteArray)) × ((List Int) × Int × Int))) (l13 : List (Int × Int × Bool × ByteArray)) : Option ((List (Int × Int × Bool × ByteArray)) × ((List Int) × Int × Int)) :=
 oif (decide ((((l13.length : Nat) : Int) : Int) < (IntKind.i64.wrap ((8 : Int) + r11.1)))) (
 oif (Nat.ble ((l13.length + [((IntKind.i64.wrap (((l13.length : Nat) : Int) + 1)), 0, true, (⟨#[]⟩ : ByteArray))].length) * 40) roomMax) (
 ag12 (l13 ++ [((IntKind.i64.wrap (((l13.length : Nat) : Int) + 1)), 0, true, (⟨#[]⟩ : ByteArray))])) none) (
 kx270_1_0 l13)
noncomputable def l270_1 (d : Nat) (r11 : (Int × ((List Int) × Int × Int))) (kx270_1_0 : (List (Int × Int × Bool × ByteArray)) → Option ((List (Int × Int × Bool × ByteArray)) × ((List Int) × Int × Int))) (ag12 : List (Int × Int × Bool × ByteArray) → Option ((List (Int × Int × Bool × ByteArray)) × ((List Int) × Int × Int))) (s : List (Int × Int × Bool × ByteArray)) : Option ((List (Int × Int × Bool × ByteArray)) × ((List Int) × Int × Int)) := l270_1_b d r11 kx270_1_0 ag12 s
noncomputable def j270_2 (d : Nat)  (l17 : List Int) (n18 : Int) (n19 : Int) (l20 : List (Int × Int × Bool × ByteArray)) : Option ((List (Int × Int × Bool × ByteArray)) × ((List Int) × Int × Int)) :=
 obind (g177 d (l17, n18, n19) 2) fun r21 =>
 obind (g312 d r21.2 (IntKind.i64.wrap ((976 : Int) + r21.1))) fun r22 =>
 oif (Nat.ble ((l20.length + [(1, 0, false, r22.1)].length) * 40) roomMax) (
 some ((l20 ++ [(1, 0, false, r22.1)]), r22.2)) none
noncomputable def l270_2_b (d : Nat)  (kx270_2_0 : (List Int) → Int → Int → (List (Int × Int × Bool × ByteArray)) → Option ((List (Int × Int × Bool × ByteArray)) × ((List Int) × Int × Int))) (ag16 : ((List (Int × Int × Bool × ByteArray)) × ((List Int) × Int × Int)) → Option ((List (Int × Int × Bool × ByteArray)) × ((List Int) × Int × Int))) (l17 : List (Int × Int × Bool × ByteArray)) (x18 : ((List Int) × Int × Int)) : Option ((List (Int × Int × Bool × ByteArray)) × ((List Int) × Int × Int)) :=
 oif (decide ((((l17.length : Nat) : Int) : Int) < 5)) (
 obind (g312 d x18 1000) fun r19 =>
 oif (Nat.ble ((l17.length + [(1, 0, false, r19.1)].length) * 40) roomMax) (
 ag16 ((l17 ++ [(1, 0, false, r19.1)]), r19.2)) none) (
 kx270_2_0 x18.1 x18.2.1 x18.2.2 l17)
noncomputable def l270_2 (d : Nat)  (kx270_2_0 : (List Int) → Int → Int → (List (Int × Int × Bool × ByteArray)) → Option ((List (Int × Int × Bool × ByteArray)) × ((List Int) × Int × Int))) (ag16 : ((List (Int × Int × Bool × ByteArray)) × ((List Int) × Int × Int)) → Option ((List (Int × Int × Bool × ByteArray)) × ((List Int) × Int × Int))) (s : ((List (Int × Int × Bool × ByteArray)) × ((List Int) × Int × Int))) : Option ((List (Int × Int × Bool × ByteArray)) × ((List Int) × Int × Int)) := l270_2_b d kx270_2_0 ag16 s.1 s.2
theorem e270 (d : Nat) (x1 : ((List Int) × Int × Int)) : g270 (d + 1) x1 =
 obind (g311 d x1) fun r2 =>
 obind (g177 d r2.2 24) fun r3 =>
 oif ((r3.1 : Int) == 0) (
 oif (decide ((((r2.1.length : Nat) : Int) : Int) > 0)) (
 obind (g177 d r3.2 ((r2.1.length : Nat) : Int)) fun r4 =>
 obind (g158 d r4.2 [0, 1, 9, 2]) fun r5 =>
 oif (decide (0 ≤ (r4.1 : Int))) (
 oif (Nat.blt ((r4.1 : Int).toNat) r2.1.length) (
 obind (r2.1[(r4.1 : Int).toNat]?) fun x6 =>
 some ((r2.1.set ((r4.1 : Int).toNat) (r5.1, x6.2)), r5.2)) none) none) (
 some (r2.1, r3.2))) (
 oif ((r3.1 : Int) == 1) (
 obind (g158 d r3.2 [(-1), 32767, 32768]) fun r7 =>
 oif (Nat.ble ((r2.1.length + [(1, r7.1, false, (⟨#[]⟩ : ByteArray))].length) * 40) roomMax) (
 some ((r2.1 ++ [(1, r7.1, false, (⟨#[]⟩ : ByteArray))]), r7.2)) none) (
 oif ((r3.1 : Int) == 2) (
 obind (g177 d r3.2 2) fun r8 =>
 iterP (l270_0 d r8 (j270_0 d r8)) fuelN []) (
 oif ((r3.1 : Int) == 3) (
 obind (g177 d r3.2 2) fun r11 =>
 iterP (l270_1 d r11 (j270_1 d r11)) fuelN []) (
 oif ((r3.1 : Int) == 4) (
 obind (g177 d r3.2 2) fun r14 =>
 obind (g312 d r14.2 (IntKind.i64.wrap ((1000 : Int) + r14.1))) fun r15 =>
 oif (Nat.ble ((r2.1.length + [(1, 0, false, r15.1)].length) * 40) roomMax) (
 some ((r2.1 ++ [(1, 0, false, r15.1)]), r15.2)) none) (
 oif ((r3.1 : Int) == 5) (
 iterP (l270_2 d (j270_2 d)) fuelN ([], r3.2)) (
 oif ((r3.1 : Int) == 6) (
 oif (decide ((((r2.1.length : Nat) : Int) : Int) > 0)) (
 obind (g177 d r3.2 ((r2.1.length : Nat) : Int)) fun r23 =>
 oif (decide (0 ≤ (r23.1 : Int))) (
 oif (Nat.blt ((r23.1 : Int).toNat) r2.1.length) (
 obind (r2.1[(r23.1 : Int).toNat]?) fun x24 =>
 some ((r2.1.set ((r23.1 : Int).toNat) (x24.1, x24.2.1, true, x24.2.2.2)), r23.2)) none) none) (
 some (r2.1, r3.2))) (
 some (r2.1, r3.2)))))))) := by kernel_rfl

theorem e261 (d : Nat) (l1 : List Int) : g261 (d + 1) l1 =
 obind (g270 d (l1, 0, 0)) fun r2 =>
 obind (g177 d r2.2 (IntKind.i64.wrap (((r2.1.length : Nat) : Int) + 1))) fun r3 =>
 obind (g177 d r3.2 24) fun r4 =>
 some (r2.1, (IntKind.i64.wrap (r3.1 - (IntKind.i64.wrap (r4.1.tdiv 23))))) := by kernel_rfl

theorem e127 (d : Nat) (l1 : List Int) : g127 (d + 1) l1 =
 obind (g261 d l1) fun r2 =>
 some (r2.1, r2.2) := by kernel_rfl

noncomputable def j136_0 (d : Nat)  (b3 : Bool) : Option Bool :=
 some true
noncomputable def j136_1 (d : Nat) (ag2 : (Bool × Int) → Option Bool) (b3 : Bool) (n4 : Int) (x5 : (Int × Int × Bool × ByteArray)) (n16 : Int) (b17 : Bool) : Option Bool :=
 oif (decide ((x5.1 : Int) > n16)) (
 some false) (
 ag2 (b3, (IntKind.i64.wrap (n4 + 1))))
noncomputable def j136_2 (d : Nat) (l1 : List (Int × Int × Bool × ByteArray)) (ag2 : (Bool × Int) → Option Bool) (b3 : Bool) (n4 : Int) (x5 : (Int × Int × Bool × ByteArray)) (b6 : Bool) (b7 : Bool) (b8 : Bool) (b9 : Bool) (b10 : Bool) (b11 : Bool) (b12 : Bool) (b13 : Bool) (b14 : Bool) (b15 : Bool) : Option Bool :=
 oif b15 (
 some false) (
 oif (decide ((n4 : Int) > 0)) (
 oif (decide (0 ≤ ((IntKind.i64.wrap (n4 - 1)) : Int))) (
 obind (l1[((IntKind.i64.wrap (n4 - 1)) : Int).toNat]?) fun x16 =>
 oif (decide (0 ≤ ((IntKind.i64.wrap (n4 - 1)) : Int))) (
 obind (l1[((IntKind.i64.wrap (n4 - 1)) : Int).toNat]?) fun x17 =>
 oif x17.2.2.1 (
 j136_1 d ag2 b3 n4 x5 (IntKind.i64.wrap (x16.1 + 1)) true) (
 j136_1 d ag2 b3 n4 x5 x16.1 true)) none) none) (
 j136_1 d ag2 b3 n4 x5 1 false))
noncomputable def l136_0_b (d : Nat) (l1 : List (Int × Int × Bool × ByteArray)) (kx136_0_0 : Bool → Option Bool) (ag2 : (Bool × Int) → Option Bool) (b3 : Bool) (n4 : Int) : Option Bool :=
 oif (decide ((n4 : Int) < ((l1.length : Nat) : Int))) (
 oif (decide (0 ≤ (n4 : Int))) (
 obind (l1[(n4 : Int).toNat]?) fun x5 =>
 oif (decide ((x5.1 : Int) < 1)) (
 j136_2 d l1 ag2 b3 n4 x5 true true true true true true true true true true) (
 oif (decide ((x5.1 : Int) > 8)) (
 j136_2 d l1 ag2 b3 n4 x5 false (decide ((x5.1 : Int) > 8)) true true true true true true true true) (
 oif (decide ((x5.2.1 : Int) < 0)) (
 j136_2 d l1 ag2 b3 n4 x5 false (decide ((x5.1 : Int) > 8)) false (decide ((x5.2.1 : Int) < 0)) true true true true true true) (
 oif (decide ((x5.2.1 : Int) > 32767)) (
 j136_2 d l1 ag2 b3 n4 x5 false (decide ((x5.1 : Int) > 8)) false (decide ((x5.2.1 : Int) < 0)) false (decide ((x5.2.1 : Int) > 32767)) true true true true) (
 oif (decide ((((x5.2.2.2 : ByteArray).size : Int) : Int) > 1000)) (
 j136_2 d l1 ag2 b3 n4 x5 false (decide ((x5.1 : Int) > 8)) false (decide ((x5.2.1 : Int) < 0)) false (decide ((x5.2.1 : Int) > 32767)) false (decide ((((x5.2.2.2 : ByteArray).size : Int) : Int) > 1000)) true true) (
 oif x5.2.2.1 (
 j136_2 d l1 ag2 b3 n4 x5 false (decide ((x5.1 : Int) > 8)) false (decide ((x5.2.1 : Int) < 0)) false (decide ((x5.2.1 : Int) > 32767)) false (decide ((((x5.2.2.2 : ByteArray).size : Int) : Int) > 1000)) false (!((x5.2.2.2 : ByteArray).toList == ((⟨#[]⟩ : ByteArray) : ByteArray).toList))) (
 j136_2 d l1 ag2 b3 n4 x5 false (decide ((x5.1 : Int) > 8)) false (decide ((x5.2.1 : Int) < 0)) false (decide ((x5.2.1 : Int) > 32767)) false (decide ((((x5.2.2.2 : ByteArray).size : Int) : Int) > 1000)) false false))))))) none) (
 kx136_0_0 b3)
noncomputable def l136_0 (d : Nat) (l1 : List (Int × Int × Bool × ByteArray)) (kx136_0_0 : Bool → Option Bool) (ag2 : (Bool × Int) → Option Bool) (s : (Bool × Int)) : Option Bool := l136_0_b d l1 kx136_0_0 ag2 s.1 s.2
theorem e136 (d : Nat) (l1 : List (Int × Int × Bool × ByteArray)) : g136 (d + 1) l1 =
 oif (decide ((((l1.length : Nat) : Int) : Int) > 400)) (
 some false) (
 iterP (l136_0 d l1 (j136_0 d)) fuelN (false, 0)) := by kernel_rfl

theorem e262 (d : Nat) (l1 : List (Int × Int × Bool × ByteArray)) (n2 : Int) : g262 (d + 1) l1 n2 =
 obind (g136 d l1) fun r3 =>
 oif r3 (
 oif (decide ((n2 : Int) ≥ 0)) (
 some (decide ((n2 : Int) < ((l1.length : Nat) : Int)))) (
 some false)) (
 some false) := by kernel_rfl

noncomputable def j263_0 (d : Nat)  (n4 : Int) : Option Int :=
 some n4
noncomputable def l263_0_b (d : Nat) (l1 : List (Int × Int × Bool × ByteArray)) (n2 : Int) (kx263_0_0 : Int → Option Int) (ag3 : Int → Option Int) (n4 : Int) : Option Int :=
 oif (decide ((n4 : Int) < ((l1.length : Nat) : Int))) (
 oif (decide (0 ≤ (n4 : Int))) (
 obind (l1[(n4 : Int).toNat]?) fun x5 =>
 oif (decide (0 ≤ (n2 : Int))) (
 obind (l1[(n2 : Int).toNat]?) fun x6 =>
 oif (decide ((x5.1 : Int) > x6.1)) (
 ag3 (IntKind.i64.wrap (n4 + 1))) (
 kx263_0_0 n4)) none) none) (
 kx263_0_0 n4)
noncomputable def l263_0 (d : Nat) (l1 : List (Int × Int × Bool × ByteArray)) (n2 : Int) (kx263_0_0 : Int → Option Int) (ag3 : Int → Option Int) (s : Int) : Option Int := l263_0_b d l1 n2 kx263_0_0 ag3 s
theorem e263 (d : Nat) (l1 : List (Int × Int × Bool × ByteArray)) (n2 : Int) : g263 (d + 1) l1 n2 =
 iterP (l263_0 d l1 n2 (j263_0 d)) fuelN (IntKind.i64.wrap (n2 + 1)) := by kernel_rfl

noncomputable def j128_0 (d : Nat)  (l5 : List Int) : Option ((List Int) × Bool) :=
 some (l5, true)
noncomputable def l128_0_b (d : Nat) (l1 : List (Int × Int × Bool × ByteArray)) (n2 : Int) (kx128_0_0 : (List Int) → Option ((List Int) × Bool)) (ag4 : ((List Int) × Int) → Option ((List Int) × Bool)) (l5 : List Int) (n6 : Int) : Option ((List Int) × Bool) :=
 obind (g263 d l1 n2) fun r7 =>
 oif (decide ((n6 : Int) < r7)) (
 oif (decide (0 ≤ (n6 : Int))) (
 obind (l1[(n6 : Int).toNat]?) fun x8 =>
 oif (decide (0 ≤ (n2 : Int))) (
 obind (l1[(n2 : Int).toNat]?) fun x9 =>
 oif ((x8.1 : Int) == (IntKind.i64.wrap (x9.1 + 1))) (
 oif (Nat.ble ((l5.length + [n6].length) * 8) roomMax) (
 ag4 ((l5 ++ [n6]), (IntKind.i64.wrap (n6 + 1)))) none) (
 ag4 (l5, (IntKind.i64.wrap (n6 + 1))))) none) none) (
 kx128_0_0 l5)
noncomputable def l128_0 (d : Nat) (l1 : List (Int × Int × Bool × ByteArray)) (n2 : Int) (kx128_0_0 : (List Int) → Option ((List Int) × Bool)) (ag4 : ((List Int) × Int) → Option ((List Int) × Bool)) (s : ((List Int) × Int)) : Option ((List Int) × Bool) := l128_0_b d l1 n2 kx128_0_0 ag4 s.1 s.2
theorem e128 (d : Nat) (l1 : List (Int × Int × Bool × ByteArray)) (n2 : Int) : g128 (d + 1) l1 n2 =
 obind (g262 d l1 n2) fun r3 =>
 oif (!r3) (
 some ([], false)) (
 iterP (l128_0 d l1 n2 (j128_0 d)) fuelN (([] : List Int), (IntKind.i64.wrap (n2 + 1)))) := by kernel_rfl

theorem e179 (d : Nat) (n1 : Int) (n2 : Int) (n3 : Int) : g179 (d + 1) n1 n2 n3 =
 oif (decide ((n1 : Int) ≥ n2)) (
 some (decide ((n1 : Int) ≤ n3))) (
 some false) := by kernel_rfl

noncomputable def j271_0 (d : Nat) (l1 : List (Int × Int × Bool × ByteArray)) (b3 : Bool) : Option Bool :=
 some (decide ((((l1.length : Nat) : Int) : Int) ≤ 400))
noncomputable def j271_1 (d : Nat) (ag2 : (Bool × Int) → Option Bool) (b3 : Bool) (n4 : Int) (n8 : Int) (b9 : Bool) (b10 : Bool) (b11 : Bool) (b12 : Bool) (b13 : Bool) (b14 : Bool) (b15 : Bool) (b16 : Bool) : Option Bool :=
 oif b16 (
 some false) (
 ag2 (b3, (IntKind.i64.wrap (n4 + 1))))
noncomputable def j271_2 (d : Nat) (ag2 : (Bool × Int) → Option Bool) (b3 : Bool) (n4 : Int) (x5 : (Int × Int × Bool × ByteArray)) (n6 : Int) (b7 : Bool) : Option Bool :=
 obind (g295 d n6 8) fun r8 =>
 obind (g179 d x5.1 1 r8) fun r9 =>
 oif (!r9) (
 j271_1 d ag2 b3 n4 r8 r9 (!r9) true true true true true true) (
 obind (g179 d x5.2.1 0 32767) fun r10 =>
 oif (!r10) (
 j271_1 d ag2 b3 n4 r8 r9 (!r9) false (!r10) true true true true) (
 oif (decide ((((x5.2.2.2 : ByteArray).size : Int) : Int) > 1000)) (
 j271_1 d ag2 b3 n4 r8 r9 (!r9) false (!r10) false (decide ((((x5.2.2.2 : ByteArray).size : Int) : Int) > 1000)) true true) (
 oif x5.2.2.1 (
 j271_1 d ag2 b3 n4 r8 r9 (!r9) false (!r10) false (decide ((((x5.2.2.2 : ByteArray).size : Int) : Int) > 1000)) false (!((x5.2.2.2 : ByteArray).toList == ((⟨#[]⟩ : ByteArray) : ByteArray).toList))) (
 j271_1 d ag2 b3 n4 r8 r9 (!r9) false (!r10) false (decide ((((x5.2.2.2 : ByteArray).size : Int) : Int) > 1000)) false false))))
noncomputable def l271_0_b (d : Nat) (l1 : List (Int × Int × Bool × ByteArray)) (kx271_0_0 : Bool → Option Bool) (ag2 : (Bool × Int) → Option Bool) (b3 : Bool) (n4 : Int) : Option Bool :=
 oif (decide ((n4 : Int) < ((l1.length : Nat) : Int))) (
 oif (decide (0 ≤ (n4 : Int))) (
 obind (l1[(n4 : Int).toNat]?) fun x5 =>
 oif (decide ((n4 : Int) > 0)) (
 oif (decide (0 ≤ ((IntKind.i64.wrap (n4 - 1)) : Int))) (
 obind (l1[((IntKind.i64.wrap (n4 - 1)) : Int).toNat]?) fun x6 =>
 oif (decide (0 ≤ ((IntKind.i64.wrap (n4 - 1)) : Int))) (
 obind (l1[((IntKind.i64.wrap (n4 - 1)) : Int).toNat]?) fun x7 =>
 oif x7.2.2.1 (
 j271_2 d ag2 b3 n4 x5 (IntKind.i64.wrap (x6.1 + 1)) true) (
 j271_2 d ag2 b3 n4 x5 x6.1 true)) none) none) (
 j271_2 d ag2 b3 n4 x5 1 false)) none) (
 kx271_0_0 b3)
noncomputable def l271_0 (d : Nat) (l1 : List (Int × Int × Bool × ByteArray)) (kx271_0_0 : Bool → Option Bool) (ag2 : (Bool × Int) → Option Bool) (s : (Bool × Int)) : Option Bool := l271_0_b d l1 kx271_0_0 ag2 s.1 s.2
theorem e271 (d : Nat) (l1 : List (Int × Int × Bool × ByteArray)) : g271 (d + 1) l1 =
 iterP (l271_0 d l1 (j271_0 d l1)) fuelN (false, 0) := by kernel_rfl

theorem e264 (d : Nat) (l1 : List (Int × Int × Bool × ByteArray)) (n2 : Int) : g264 (d + 1) l1 n2 =
 obind (g271 d l1) fun r3 =>
 oif r3 (
 obind (g179 d n2 0 (IntKind.i64.wrap (((l1.length : Nat) : Int) - 1))) fun r4 =>
 some r4) (
 some false) := by kernel_rfl

noncomputable def j266_0 (d : Nat)  (n4 : Int) : Option Int :=
 some n4
noncomputable def l266_0_b (d : Nat) (l1 : List (Int × Int × Bool × ByteArray)) (n2 : Int) (kx266_0_0 : Int → Option Int) (ag3 : Int → Option Int) (n4 : Int) : Option Int :=
 oif (decide ((n4 : Int) < ((l1.length : Nat) : Int))) (
 oif (decide (0 ≤ (n4 : Int))) (
 obind (l1[(n4 : Int).toNat]?) fun x5 =>
 oif (decide (0 ≤ (n2 : Int))) (
 obind (l1[(n2 : Int).toNat]?) fun x6 =>
 oif (decide ((x5.1 : Int) > x6.1)) (
 ag3 (IntKind.i64.wrap (n4 + 1))) (
 kx266_0_0 n4)) none) none) (
 kx266_0_0 n4)
noncomputable def l266_0 (d : Nat) (l1 : List (Int × Int × Bool × ByteArray)) (n2 : Int) (kx266_0_0 : Int → Option Int) (ag3 : Int → Option Int) (s : Int) : Option Int := l266_0_b d l1 n2 kx266_0_0 ag3 s
theorem e266 (d : Nat) (l1 : List (Int × Int × Bool × ByteArray)) (n2 : Int) : g266 (d + 1) l1 n2 =
 iterP (l266_0 d l1 n2 (j266_0 d)) fuelN (IntKind.i64.wrap (n2 + 1)) := by kernel_rfl

noncomputable def j265_0 (d : Nat)  (l4 : List Int) : Option (List Int) :=
 some l4
noncomputable def l265_0_b (d : Nat) (l1 : List (Int × Int × Bool × ByteArray)) (n2 : Int) (kx265_0_0 : (List Int) → Option (List Int)) (ag3 : ((List Int) × Int) → Option (List Int)) (l4 : List Int) (n5 : Int) : Option (List Int) :=
 obind (g266 d l1 n2) fun r6 =>
 oif (decide ((n5 : Int) < r6)) (
 oif (Nat.ble ((l4.length + [n5].length) * 8) roomMax) (
 obind (g266 d l1 n5) fun r7 =>
 ag3 ((l4 ++ [n5]), r7)) none) (
 kx265_0_0 l4)
noncomputable def l265_0 (d : Nat) (l1 : List (Int × Int × Bool × ByteArray)) (n2 : Int) (kx265_0_0 : (List Int) → Option (List Int)) (ag3 : ((List Int) × Int) → Option (List Int)) (s : ((List Int) × Int)) : Option (List Int) := l265_0_b d l1 n2 kx265_0_0 ag3 s.1 s.2
theorem e265 (d : Nat) (l1 : List (Int × Int × Bool × ByteArray)) (n2 : Int) : g265 (d + 1) l1 n2 =
 iterP (l265_0 d l1 n2 (j265_0 d)) fuelN ([], (IntKind.i64.wrap (n2 + 1))) := by kernel_rfl

theorem e129 (d : Nat) (l1 : List (Int × Int × Bool × ByteArray)) (n2 : Int) : g129 (d + 1) l1 n2 =
 obind (g264 d l1 n2) fun r3 =>
 oif (!r3) (
 some ([], false)) (
 obind (g265 d l1 n2) fun r4 =>
 some (r4, true)) := by kernel_rfl

theorem e130 (d : Nat) (l1 : List (Int × Int × Bool × ByteArray)) (n2 : Int) : g130 (d + 1) l1 n2 =
 obind (g262 d l1 n2) fun r3 =>
 oif (!r3) (
 some (0, false)) (
 obind (g263 d l1 n2) fun r4 =>
 some (r4, true)) := by kernel_rfl

theorem e131 (d : Nat) (l1 : List (Int × Int × Bool × ByteArray)) (n2 : Int) : g131 (d + 1) l1 n2 =
 obind (g264 d l1 n2) fun r3 =>
 oif (!r3) (
 some (0, false)) (
 obind (g266 d l1 n2) fun r4 =>
 some (r4, true)) := by kernel_rfl

noncomputable def j267_0 (d : Nat)  (n4 : Int) : Option Int :=
 some (-1)
noncomputable def l267_0_b (d : Nat) (l1 : List (Int × Int × Bool × ByteArray)) (n2 : Int) (kx267_0_0 : Int → Option Int) (ag3 : (Int × Int) → Option Int) (n4 : Int) (n5 : Int) : Option Int :=
 oif (decide ((n5 : Int) ≥ 0)) (
 oif (decide (0 ≤ (n5 : Int))) (
 obind (l1[(n5 : Int).toNat]?) fun x6 =>
 oif (decide (0 ≤ (n2 : Int))) (
 obind (l1[(n2 : Int).toNat]?) fun x7 =>
 oif ((x6.1 : Int) == (IntKind.i64.wrap (x7.1 - 1))) (
 some n5) (
 ag3 (n4, (IntKind.i64.wrap (n5 - 1))))) none) none) (
 kx267_0_0 n4)
noncomputable def l267_0 (d : Nat) (l1 : List (Int × Int × Bool × ByteArray)) (n2 : Int) (kx267_0_0 : Int → Option Int) (ag3 : (Int × Int) → Option Int) (s : (Int × Int)) : Option Int := l267_0_b d l1 n2 kx267_0_0 ag3 s.1 s.2
theorem e267 (d : Nat) (l1 : List (Int × Int × Bool × ByteArray)) (n2 : Int) : g267 (d + 1) l1 n2 =
 iterP (l267_0 d l1 n2 (j267_0 d)) fuelN (0, (IntKind.i64.wrap (n2 - 1))) := by kernel_rfl

theorem e132 (d : Nat) (l1 : List (Int × Int × Bool × ByteArray)) (n2 : Int) : g132 (d + 1) l1 n2 =
 obind (g262 d l1 n2) fun r3 =>
 oif (!r3) (
 some (0, false)) (
 oif (decide (0 ≤ (n2 : Int))) (
 obind (l1[(n2 : Int).toNat]?) fun x4 =>
 oif ((x4.1 : Int) == 1) (
 some (0, false)) (
 obind (g267 d l1 n2) fun r5 =>
 some (r5, true))) none) := by kernel_rfl

noncomputable def j268_0 (d : Nat)  (l5 : List (Int × Int × Bool × ByteArray)) : Option (List (Int × Int × Bool × ByteArray)) :=
 some l5
noncomputable def l268_1_b (d : Nat) (l1 : List (List (Int × Int × Bool × ByteArray))) (kx268_1_0 : (List (Int × Int × Bool × ByteArray)) → Option (List (Int × Int × Bool × ByteArray))) (ag4 : ((List (Int × Int × Bool × ByteArray)) × Int) → Option (List (Int × Int × Bool × ByteArray))) (l5 : List (Int × Int × Bool × ByteArray)) (n6 : Int) : Option (List (Int × Int × Bool × ByteArray)) :=
 oif (decide ((n6 : Int) < ((l1.length : Nat) : Int))) (
 oif (decide (0 ≤ (n6 : Int))) (
 obind (l1[(n6 : Int).toNat]?) fun l7 =>
 oif (Nat.ble ((l5.length + l7.length) * 40) roomMax) (
 ag4 ((l5 ++ l7), (IntKind.i64.wrap (n6 + 1)))) none) none) (
 kx268_1_0 l5)
noncomputable def l268_1 (d : Nat) (l1 : List (List (Int × Int × Bool × ByteArray))) (kx268_1_0 : (List (Int × Int × Bool × ByteArray)) → Option (List (Int × Int × Bool × ByteArray))) (ag4 : ((List (Int × Int × Bool × ByteArray)) × Int) → Option (List (Int × Int × Bool × ByteArray))) (s : ((List (Int × Int × Bool × ByteArray)) × Int)) : Option (List (Int × Int × Bool × ByteArray)) := l268_1_b d l1 kx268_1_0 ag4 s.1 s.2
noncomputable def j268_1 (d : Nat)  (l9 : List (Int × Int × Bool × ByteArray)) : Option (List (Int × Int × Bool × ByteArray)) :=
 some l9
noncomputable def l268_1x_b (d : Nat) (l1 : List (List (Int × Int × Bool × ByteArray))) (kx268_1_0 : (List (Int × Int × Bool × ByteArray)) → Option (List (Int × Int × Bool × ByteArray))) (ag8 : ((List (Int × Int × Bool × ByteArray)) × Int) → Option (List (Int × Int × Bool × ByteArray))) (l9 : List (Int × Int × Bool × ByteArray)) (n10 : Int) : Option (List (Int × Int × Bool × ByteArray)) :=
 oif (decide ((n10 : Int) < ((l1.length : Nat) : Int))) (
 oif (decide (0 ≤ (n10 : Int))) (
 obind (l1[(n10 : Int).toNat]?) fun l11 =>
 oif (Nat.ble ((l9.length + l11.length) * 40) roomMax) (
 ag8 ((l9 ++ l11), (IntKind.i64.wrap (n10 + 1)))) none) none) (
 kx268_1_0 l9)
noncomputable def l268_1x (d : Nat) (l1 : List (List (Int × Int × Bool × ByteArray))) (kx268_1_0 : (List (Int × Int × Bool × ByteArray)) → Option (List (Int × Int × Bool × ByteArray))) (ag8 : ((List (Int × Int × Bool × ByteArray)) × Int) → Option (List (Int × Int × Bool × ByteArray))) (s : ((List (Int × Int × Bool × ByteArray)) × Int)) : Option (List (Int × Int × Bool × ByteArray)) := l268_1x_b d l1 kx268_1_0 ag8 s.1 s.2
noncomputable def j268_2 (d : Nat) (l1 : List (List (Int × Int × Bool × ByteArray))) (n3 : Int) : Option (List (Int × Int × Bool × ByteArray)) :=
 oif (decide ((n3 : Int) < 0)) (
 none) (
 oif (decide (((IntKind.i64.wrap (n3 - (IntKind.i64.wrap ((0 : Int) - ((0 : Nat) : Int))))) : Int) > 0)) (
 oif (Nat.ble 0 0) (
 oif (decide (0 ≤ ((IntKind.i64.wrap (n3 - (IntKind.i64.wrap ((0 : Int) - ((0 : Nat) : Int))))) : Int)) && decide (((IntKind.i64.wrap (n3 - (IntKind.i64.wrap ((0 : Int) - ((0 : Nat) : Int))))) : Int) * ((40 : Nat) : Int) ≤ ((roomMax : Nat) : Int))) (
 oif (Nat.ble ((List.replicate ((IntKind.i64.wrap (n3 - (IntKind.i64.wrap ((0 : Int) - ((0 : Nat) : Int))))) : Int).toNat ((0, 0, false, (⟨#[]⟩ : ByteArray)) : (Int × Int × Bool × ByteArray))).length * 40) roomMax) (
 oif (decide (0 ≤ (((0 : Nat) : Int) : Int))) (
 oif (Nat.ble ((((0 : Nat) : Int) : Int).toNat) ((List.replicate ((IntKind.i64.wrap (n3 - (IntKind.i64.wrap ((0 : Int) - ((0 : Nat) : Int))))) : Int).toNat ((0, 0, false, (⟨#[]⟩ : ByteArray)) : (Int × Int × Bool × ByteArray))).length)) (
 iterP (l268_1 d l1 (j268_0 d)) fuelN (((List.replicate ((IntKind.i64.wrap (n3 - (IntKind.i64.wrap ((0 : Int) - ((0 : Nat) : Int))))) : Int).toNat ((0, 0, false, (⟨#[]⟩ : ByteArray)) : (Int × Int × Bool × ByteArray))).take ((((0 : Nat) : Int) : Int).toNat)), 0)) none) none) none) none) none) (
 iterP (l268_1x d l1 (j268_1 d)) fuelN ([], 0)))
noncomputable def l268_0_b (d : Nat) (l1 : List (List (Int × Int × Bool × ByteArray))) (kx268_0_0 : Int → Option (List (Int × Int × Bool × ByteArray))) (ag2 : (Int × Int) → Option (List (Int × Int × Bool × ByteArray))) (n3 : Int) (n4 : Int) : Option (List (Int × Int × Bool × ByteArray)) :=
 oif (decide ((n4 : Int) < ((l1.length : Nat) : Int))) (
 oif (decide (0 ≤ (n4 : Int))) (
 obind (l1[(n4 : Int).toNat]?) fun l5 =>
 oif (decide (((IntKind.i64.wrap (n3 + ((l5.length : Nat) : Int))) : Int) < 0)) (
 none) (
 ag2 ((IntKind.i64.wrap (n3 + ((l5.length : Nat) : Int))), (IntKind.i64.wrap (n4 + 1))))) none) (
 kx268_0_0 n3)
noncomputable def l268_0 (d : Nat) (l1 : List (List (Int × Int × Bool × ByteArray))) (kx268_0_0 : Int → Option (List (Int × Int × Bool × ByteArray))) (ag2 : (Int × Int) → Option (List (Int × Int × Bool × ByteArray))) (s : (Int × Int)) : Option (List (Int × Int × Bool × ByteArray)) := l268_0_b d l1 kx268_0_0 ag2 s.1 s.2
theorem e268 (d : Nat) (l1 : List (List (Int × Int × Bool × ByteArray))) : g268 (d + 2) l1 =
 iterP (l268_0 d l1 (j268_2 d l1)) fuelN (0, 0) := by kernel_rfl

theorem e133 (d : Nat) (l1 : List (Int × Int × Bool × ByteArray)) (n2 : Int) : g133 (d + 1) l1 n2 =
 obind (g262 d l1 n2) fun r3 =>
 oif (!r3) (
 some ([], false)) (
 oif (decide (0 ≤ (n2 : Int))) (
 oif (Nat.ble ((n2 : Int).toNat) l1.length) (
 obind (g263 d l1 n2) fun r4 =>
 oif (decide (0 ≤ (r4 : Int))) (
 oif (Nat.ble ((r4 : Int).toNat) l1.length) (
 obind (g268 d [(l1.take ((n2 : Int).toNat)), (l1.drop ((r4 : Int).toNat))]) fun r5 =>
 some (r5, true)) none) none) none) none) := by kernel_rfl

theorem e269 (d : Nat) (l1 : List (Int × Int × Bool × ByteArray)) : g269 (d + 1) l1 =
 oif (Nat.ble ((([] : List (Int × Int × Bool × ByteArray)).length + l1.length) * 40) roomMax) (
 some (([] : List (Int × Int × Bool × ByteArray)) ++ l1)) none := by kernel_rfl

theorem e134 (d : Nat) (l1 : List (Int × Int × Bool × ByteArray)) (n2 : Int) : g134 (d + 1) l1 n2 =
 obind (g264 d l1 n2) fun r3 =>
 oif (!r3) (
 some ([], false)) (
 oif (decide (0 ≤ (n2 : Int))) (
 oif (Nat.ble ((n2 : Int).toNat) l1.length) (
 obind (g269 d (l1.take ((n2 : Int).toNat))) fun r4 =>
 obind (g266 d l1 n2) fun r5 =>
 oif (decide (0 ≤ (r5 : Int))) (
 oif (Nat.ble ((r5 : Int).toNat) l1.length) (
 oif (Nat.ble ((r4.length + (l1.drop ((r5 : Int).toNat)).length) * 40) roomMax) (
 some ((r4 ++ (l1.drop ((r5 : Int).toNat))), true)) none) none) none) none) none) := by kernel_rfl

noncomputable def j135_0 (d : Nat)  (b4 : Bool) : Option Bool :=
 some true
noncomputable def l135_0_b (d : Nat) (l1 : List (Int × Int × Bool × ByteArray)) (l2 : List (Int × Int × Bool × ByteArray)) (kx135_0_0 : Bool → Option Bool) (ag3 : (Bool × Int) → Option Bool) (b4 : Bool) (n5 : Int) : Option Bool :=
 oif (decide ((n5 : Int) < ((l1.length : Nat) : Int))) (
 oif (decide (0 ≤ (n5 : Int))) (
 obind (l1[(n5 : Int).toNat]?) fun x6 =>
 oif (decide (0 ≤ (n5 : Int))) (
 obind (l2[(n5 : Int).toNat]?) fun x7 =>
 oif (!(((x6.1 : Int) == x7.1) && (((x6.2.1 : Int) == x7.2.1) && ((x6.2.2.1 == x7.2.2.1) && (((x6.2.2.2 : ByteArray).toList == (x7.2.2.2 : ByteArray).toList) && true))))) (
 some false) (
 ag3 (b4, (IntKind.i64.wrap (n5 + 1))))) none) none) (
 kx135_0_0 b4)
noncomputable def l135_0 (d : Nat) (l1 : List (Int × Int × Bool × ByteArray)) (l2 : List (Int × Int × Bool × ByteArray)) (kx135_0_0 : Bool → Option Bool) (ag3 : (Bool × Int) → Option Bool) (s : (Bool × Int)) : Option Bool := l135_0_b d l1 l2 kx135_0_0 ag3 s.1 s.2
theorem e135 (d : Nat) (l1 : List (Int × Int × Bool × ByteArray)) (l2 : List (Int × Int × Bool × ByteArray)) : g135 (d + 1) l1 l2 =
 oif ((((l1.length : Nat) : Int) : Int) != ((l2.length : Nat) : Int)) (
 some false) (
 iterP (l135_0 d l1 l2 (j135_0 d)) fuelN (false, 0)) := by kernel_rfl

theorem e137 (d : Nat) (l1 : List Int) : g137 (d + 1) l1 =
 obind (g158 d (l1, 0, 0) [0, 1, 7, 32767, 32768, (-1)]) fun r2 =>
 obind (g270 d r2.2) fun r3 =>
 some (r2.1, r3.1) := by kernel_rfl

noncomputable def j138_0 (d : Nat)  (l5 : List (Int × Int × Bool × ByteArray)) : Option ((List (Int × Int × Bool × ByteArray)) × Bool) :=
 obind (g136 d l5) fun r6 =>
 oif (!r6) (
 some ([], false)) (
 some (l5, true))
noncomputable def l138_0_b (d : Nat) (l2 : List (Int × Int × Bool × ByteArray)) (kx138_0_0 : (List (Int × Int × Bool × ByteArray)) → Option ((List (Int × Int × Bool × ByteArray)) × Bool)) (ag4 : ((List (Int × Int × Bool × ByteArray)) × Int) → Option ((List (Int × Int × Bool × ByteArray)) × Bool)) (l5 : List (Int × Int × Bool × ByteArray)) (n6 : Int) : Option ((List (Int × Int × Bool × ByteArray)) × Bool) :=
 oif (decide ((n6 : Int) < ((l2.length : Nat) : Int))) (
 oif (decide (0 ≤ (n6 : Int))) (
 obind (l2[(n6 : Int).toNat]?) fun x7 =>
 oif (Nat.ble ((l5.length + [((IntKind.i64.wrap (x7.1 + 1)), x7.2)].length) * 40) roomMax) (
 ag4 ((l5 ++ [((IntKind.i64.wrap (x7.1 + 1)), x7.2)]), (IntKind.i64.wrap (n6 + 1)))) none) none) (
 kx138_0_0 l5)
noncomputable def l138_0 (d : Nat) (l2 : List (Int × Int × Bool × ByteArray)) (kx138_0_0 : (List (Int × Int × Bool × ByteArray)) → Option ((List (Int × Int × Bool × ByteArray)) × Bool)) (ag4 : ((List (Int × Int × Bool × ByteArray)) × Int) → Option ((List (Int × Int × Bool × ByteArray)) × Bool)) (s : ((List (Int × Int × Bool × ByteArray)) × Int)) : Option ((List (Int × Int × Bool × ByteArray)) × Bool) := l138_0_b d l2 kx138_0_0 ag4 s.1 s.2
theorem e138 (d : Nat) (n1 : Int) (l2 : List (Int × Int × Bool × ByteArray)) : g138 (d + 1) n1 l2 =
 obind (g136 d l2) fun r3 =>
 oif (!r3) (
 some ([], false)) (
 iterP (l138_0 d l2 (j138_0 d)) fuelN ([(1, n1, true, (⟨#[]⟩ : ByteArray))], 0)) := by kernel_rfl

noncomputable def j272_0 (d : Nat)  (l4 : List (Int × Int × Bool × ByteArray)) : Option (List (Int × Int × Bool × ByteArray)) :=
 some l4
noncomputable def l272_0_b (d : Nat) (l2 : List (Int × Int × Bool × ByteArray)) (kx272_0_0 : (List (Int × Int × Bool × ByteArray)) → Option (List (Int × Int × Bool × ByteArray))) (ag3 : ((List (Int × Int × Bool × ByteArray)) × Int) → Option (List (Int × Int × Bool × ByteArray))) (l4 : List (Int × Int × Bool × ByteArray)) (n5 : Int) : Option (List (Int × Int × Bool × ByteArray)) :=
 oif (decide ((n5 : Int) < ((l2.length : Nat) : Int))) (
 oif (decide (0 ≤ (n5 : Int))) (
 obind (l2[(n5 : Int).toNat]?) fun x6 =>
 oif (Nat.ble ((l4.length + [((IntKind.i64.wrap (x6.1 + 1)), x6.2)].length) * 40) roomMax) (
 ag3 ((l4 ++ [((IntKind.i64.wrap (x6.1 + 1)), x6.2)]), (IntKind.i64.wrap (n5 + 1)))) none) none) (
 kx272_0_0 l4)
noncomputable def l272_0 (d : Nat) (l2 : List (Int × Int × Bool × ByteArray)) (kx272_0_0 : (List (Int × Int × Bool × ByteArray)) → Option (List (Int × Int × Bool × ByteArray))) (ag3 : ((List (Int × Int × Bool × ByteArray)) × Int) → Option (List (Int × Int × Bool × ByteArray))) (s : ((List (Int × Int × Bool × ByteArray)) × Int)) : Option (List (Int × Int × Bool × ByteArray)) := l272_0_b d l2 kx272_0_0 ag3 s.1 s.2
theorem e272 (d : Nat) (n1 : Int) (l2 : List (Int × Int × Bool × ByteArray)) : g272 (d + 1) n1 l2 =
 iterP (l272_0 d l2 (j272_0 d)) fuelN ([(1, n1, true, (⟨#[]⟩ : ByteArray))], 0) := by kernel_rfl

theorem e139 (d : Nat) (n1 : Int) (l2 : List (Int × Int × Bool × ByteArray)) : g139 (d + 1) n1 l2 =
 obind (g271 d l2) fun r3 =>
 oif (!r3) (
 some ([], false)) (
 obind (g272 d n1 l2) fun r4 =>
 obind (g271 d r4) fun r5 =>
 oif (!r5) (
 some ([], false)) (
 obind (g272 d n1 l2) fun r6 =>
 some (r6, true))) := by kernel_rfl

noncomputable def j273_0 (d : Nat)  (n4 : Int) : Option Int :=
 some n4
noncomputable def l273_0_b (d : Nat) (l1 : List (Int × Int × Bool × ByteArray)) (n2 : Int) (kx273_0_0 : Int → Option Int) (ag3 : Int → Option Int) (n4 : Int) : Option Int :=
 oif (decide ((n4 : Int) ≥ 0)) (
 oif (decide (0 ≤ (n4 : Int))) (
 obind (l1[(n4 : Int).toNat]?) fun x5 =>
 oif (decide (0 ≤ (n2 : Int))) (
 obind (l1[(n2 : Int).toNat]?) fun x6 =>
 oif (decide ((x5.1 : Int) ≥ x6.1)) (
 ag3 (IntKind.i64.wrap (n4 - 1))) (
 kx273_0_0 n4)) none) none) (
 kx273_0_0 n4)
noncomputable def l273_0 (d : Nat) (l1 : List (Int × Int × Bool × ByteArray)) (n2 : Int) (kx273_0_0 : Int → Option Int) (ag3 : Int → Option Int) (s : Int) : Option Int := l273_0_b d l1 n2 kx273_0_0 ag3 s
theorem e273 (d : Nat) (l1 : List (Int × Int × Bool × ByteArray)) (n2 : Int) : g273 (d + 1) l1 n2 =
 iterP (l273_0 d l1 n2 (j273_0 d)) fuelN (IntKind.i64.wrap (n2 - 1)) := by kernel_rfl

noncomputable def j140_0 (d : Nat) (r2 : ((List (Int × Int × Bool × ByteArray)) × ((List Int) × Int × Int))) (l9 : List Int) : Option ((List (Int × Int × Bool × ByteArray)) × (List Int)) :=
 some (r2.1, l9)
noncomputable def l140_0_b (d : Nat) (r2 : ((List (Int × Int × Bool × ByteArray)) × ((List Int) × Int × Int))) (kx140_0_0 : (List Int) → Option ((List (Int × Int × Bool × ByteArray)) × (List Int))) (ag8 : ((List Int) × Int) → Option ((List (Int × Int × Bool × ByteArray)) × (List Int))) (l9 : List Int) (n10 : Int) : Option ((List (Int × Int × Bool × ByteArray)) × (List Int)) :=
 oif (decide ((n10 : Int) ≥ 0)) (
 oif (decide (0 ≤ (n10 : Int))) (
 oif (Nat.blt ((n10 : Int).toNat) r2.1.length) (
 obind (r2.1[(n10 : Int).toNat]?) fun x11 =>
 oif (Nat.ble (([x11.2.1].length + l9.length) * 8) roomMax) (
 obind (g273 d r2.1 n10) fun r12 =>
 ag8 (([x11.2.1] ++ l9), r12)) none) none) none) (
 kx140_0_0 l9)
noncomputable def l140_0 (d : Nat) (r2 : ((List (Int × Int × Bool × ByteArray)) × ((List Int) × Int × Int))) (kx140_0_0 : (List Int) → Option ((List (Int × Int × Bool × ByteArray)) × (List Int))) (ag8 : ((List Int) × Int) → Option ((List (Int × Int × Bool × ByteArray)) × (List Int))) (s : ((List Int) × Int)) : Option ((List (Int × Int × Bool × ByteArray)) × (List Int)) := l140_0_b d r2 kx140_0_0 ag8 s.1 s.2
noncomputable def j140_1 (d : Nat) (r2 : ((List (Int × Int × Bool × ByteArray)) × ((List Int) × Int × Int))) (l15 : List Int) (l16 : List Int) (n17 : Int) (n18 : Int) : Option ((List (Int × Int × Bool × ByteArray)) × (List Int)) :=
 some (r2.1, l15)
noncomputable def l140_1_b (d : Nat)  (kx140_1_0 : (List Int) → (List Int) → Int → Int → Option ((List (Int × Int × Bool × ByteArray)) × (List Int))) (ag14 : ((List Int) × Int × ((List Int) × Int × Int)) → Option ((List (Int × Int × Bool × ByteArray)) × (List Int))) (l15 : List Int) (n16 : Int) (x17 : ((List Int) × Int × Int)) : Option ((List (Int × Int × Bool × ByteArray)) × (List Int)) :=
 oif (decide ((n16 : Int) > 0)) (
 obind (g177 d x17 5) fun r18 =>
 obind (g177 d r18.2 24) fun r19 =>
 oif (Nat.ble ((l15.length + [(IntKind.i64.wrap (r18.1 - (IntKind.i64.wrap (r19.1.tdiv 23))))].length) * 8) roomMax) (
 ag14 ((l15 ++ [(IntKind.i64.wrap (r18.1 - (IntKind.i64.wrap (r19.1.tdiv 23))))]), (IntKind.i64.wrap (n16 - 1)), r19.2)) none) (
 kx140_1_0 l15 x17.1 x17.2.1 x17.2.2)
noncomputable def l140_1 (d : Nat)  (kx140_1_0 : (List Int) → (List Int) → Int → Int → Option ((List (Int × Int × Bool × ByteArray)) × (List Int))) (ag14 : ((List Int) × Int × ((List Int) × Int × Int)) → Option ((List (Int × Int × Bool × ByteArray)) × (List Int))) (s : ((List Int) × Int × ((List Int) × Int × Int))) : Option ((List (Int × Int × Bool × ByteArray)) × (List Int)) := l140_1_b d kx140_1_0 ag14 s.1 s.2.1 s.2.2
noncomputable def j140_2 (d : Nat) (r2 : ((List (Int × Int × Bool × ByteArray)) × ((List Int) × Int × Int))) (b3 : Bool) (l4 : List Int) (n5 : Int) (n6 : Int) : Option ((List (Int × Int × Bool × ByteArray)) × (List Int)) :=
 oif b3 (
 obind (g177 d (l4, n5, n6) ((r2.1.length : Nat) : Int)) fun r7 =>
 iterP (l140_0 d r2 (j140_0 d r2)) fuelN ([], r7.1)) (
 obind (g177 d (l4, n5, n6) 10) fun r13 =>
 iterP (l140_1 d (j140_1 d r2)) fuelN ([], r13.1, r13.2))
theorem e140 (d : Nat) (l1 : List Int) : g140 (d + 1) l1 =
 obind (g270 d (l1, 0, 0)) fun r2 =>
 obind (g271 d r2.1) fun r3 =>
 oif r3 (
 oif (decide ((((r2.1.length : Nat) : Int) : Int) > 0)) (
 obind (g211 d r2.2 4) fun r4 =>
 j140_2 d r2 (!r4.1) r4.2.1 r4.2.2.1 r4.2.2.2) (
 j140_2 d r2 false r2.2.1 r2.2.2.1 r2.2.2.2)) (
 j140_2 d r2 false r2.2.1 r2.2.2.1 r2.2.2.2) := by kernel_rfl

noncomputable def j141_0 (d : Nat)  (n8 : Int) (b9 : Bool) : Option (Int × Bool) :=
 some (0, false)
noncomputable def j141_1 (d : Nat) (ag7 : (Int × Bool × Int) → Option (Int × Bool)) (n8 : Int) (b9 : Bool) (n10 : Int) (n13 : Int) (n14 : Int) (b15 : Bool) (b16 : Bool) : Option (Int × Bool) :=
 oif (decide ((n13 : Int) < 0)) (
 some (n10, true)) (
 ag7 (n8, b9, (IntKind.i64.wrap (n10 + 1))))
noncomputable def l141_2_b (d : Nat) (l1 : List (Int × Int × Bool × ByteArray)) (l2 : List Int) (kx141_2_0 : Int → Int → Bool → Bool → Option (Int × Bool)) (ag12 : Int → Option (Int × Bool)) (n13 : Int) : Option (Int × Bool) :=
 oif (decide ((n13 : Int) ≥ 0)) (
 oif (decide (0 ≤ (n13 : Int))) (
 obind (l1[(n13 : Int).toNat]?) fun x14 =>
 oif (decide (0 ≤ (n13 : Int))) (
 obind (l1[(n13 : Int).toNat]?) fun x15 =>
 oif (decide (0 ≤ ((IntKind.i64.wrap (x15.1 - 1)) : Int))) (
 obind (l2[((IntKind.i64.wrap (x15.1 - 1)) : Int).toNat]?) fun n16 =>
 oif ((x14.2.1 : Int) == n16) (
 obind (g267 d l1 n13) fun r17 =>
 ag12 r17) (
 kx141_2_0 n13 n13 (decide ((n13 : Int) ≥ 0)) true)) none) none) none) (
 kx141_2_0 n13 n13 (decide ((n13 : Int) ≥ 0)) false)
noncomputable def l141_2 (d : Nat) (l1 : List (Int × Int × Bool × ByteArray)) (l2 : List Int) (kx141_2_0 : Int → Int → Bool → Bool → Option (Int × Bool)) (ag12 : Int → Option (Int × Bool)) (s : Int) : Option (Int × Bool) := l141_2_b d l1 l2 kx141_2_0 ag12 s
noncomputable def l141_1_b (d : Nat) (l1 : List (Int × Int × Bool × ByteArray)) (l2 : List Int) (kx141_1_0 : Int → Bool → Option (Int × Bool)) (ag7 : (Int × Bool × Int) → Option (Int × Bool)) (n8 : Int) (b9 : Bool) (n10 : Int) : Option (Int × Bool) :=
 oif (decide ((n10 : Int) < ((l1.length : Nat) : Int))) (
 oif (decide (0 ≤ (n10 : Int))) (
 obind (l1[(n10 : Int).toNat]?) fun x11 =>
 oif ((x11.1 : Int) != ((l2.length : Nat) : Int)) (
 ag7 (n8, b9, (IntKind.i64.wrap (n10 + 1)))) (
 iterP (l141_2 d l1 l2 (j141_1 d ag7 n8 b9 n10)) fuelN n10)) none) (
 kx141_1_0 n8 b9)
noncomputable def l141_1 (d : Nat) (l1 : List (Int × Int × Bool × ByteArray)) (l2 : List Int) (kx141_1_0 : Int → Bool → Option (Int × Bool)) (ag7 : (Int × Bool × Int) → Option (Int × Bool)) (s : (Int × Bool × Int)) : Option (Int × Bool) := l141_1_b d l1 l2 kx141_1_0 ag7 s.1 s.2.1 s.2.2
noncomputable def j141_2 (d : Nat) (l1 : List (Int × Int × Bool × ByteArray)) (l2 : List Int) (n5 : Int) (b6 : Bool) : Option (Int × Bool) :=
 iterP (l141_1 d l1 l2 (j141_0 d)) fuelN (n5, b6, 0)
noncomputable def l141_0_b (d : Nat) (l2 : List Int) (kx141_0_0 : Int → Bool → Option (Int × Bool)) (ag4 : (Int × Bool × Int) → Option (Int × Bool)) (n5 : Int) (b6 : Bool) (n7 : Int) : Option (Int × Bool) :=
 oif (decide ((n7 : Int) < ((l2.length : Nat) : Int))) (
 oif (decide (0 ≤ (n7 : Int))) (
 obind (l2[(n7 : Int).toNat]?) fun n8 =>
 oif (decide ((n8 : Int) < 0)) (
 some (0, false)) (
 oif (decide ((n8 : Int) > 32767)) (
 some (0, false)) (
 ag4 (n5, b6, (IntKind.i64.wrap (n7 + 1)))))) none) (
 kx141_0_0 n5 b6)
noncomputable def l141_0 (d : Nat) (l2 : List Int) (kx141_0_0 : Int → Bool → Option (Int × Bool)) (ag4 : (Int × Bool × Int) → Option (Int × Bool)) (s : (Int × Bool × Int)) : Option (Int × Bool) := l141_0_b d l2 kx141_0_0 ag4 s.1 s.2.1 s.2.2
noncomputable def j141_3 (d : Nat) (l1 : List (Int × Int × Bool × ByteArray)) (l2 : List Int) (b3 : Bool) : Option (Int × Bool) :=
 oif b3 (
 some (0, false)) (
 iterP (l141_0 d l2 (j141_2 d l1 l2)) fuelN (0, false, 0))
theorem e141 (d : Nat) (l1 : List (Int × Int × Bool × ByteArray)) (l2 : List Int) : g141 (d + 1) l1 l2 =
 obind (g136 d l1) fun r3 =>
 oif (!r3) (
 j141_3 d l1 l2 true) (
 oif (decide ((((l2.length : Nat) : Int) : Int) < 1)) (
 j141_3 d l1 l2 true) (
 j141_3 d l1 l2 (decide ((((l2.length : Nat) : Int) : Int) > 8)))) := by kernel_rfl

noncomputable def j228_0 (d : Nat)  (b5 : Bool) : Option Bool :=
 some true
noncomputable def l228_0_b (d : Nat) (l1 : List Int) (n2 : Int) (n3 : Int) (kx228_0_0 : Bool → Option Bool) (ag4 : (Bool × Int) → Option Bool) (b5 : Bool) (n6 : Int) : Option Bool :=
 oif (decide ((n6 : Int) < ((l1.length : Nat) : Int))) (
 oif (decide (0 ≤ (n6 : Int))) (
 obind (l1[(n6 : Int).toNat]?) fun n7 =>
 obind (g179 d n7 n2 n3) fun r8 =>
 oif (!r8) (
 some false) (
 ag4 (b5, (IntKind.i64.wrap (n6 + 1))))) none) (
 kx228_0_0 b5)
noncomputable def l228_0 (d : Nat) (l1 : List Int) (n2 : Int) (n3 : Int) (kx228_0_0 : Bool → Option Bool) (ag4 : (Bool × Int) → Option Bool) (s : (Bool × Int)) : Option Bool := l228_0_b d l1 n2 n3 kx228_0_0 ag4 s.1 s.2
theorem e228 (d : Nat) (l1 : List Int) (n2 : Int) (n3 : Int) : g228 (d + 1) l1 n2 n3 =
 iterP (l228_0 d l1 n2 n3 (j228_0 d)) fuelN (false, 0) := by kernel_rfl

noncomputable def j274_0 (d : Nat)  (b6 : Bool) : Option Bool :=
 some true
noncomputable def l274_0_b (d : Nat) (l1 : List (Int × Int × Bool × ByteArray)) (l3 : List Int) (kx274_0_0 : Bool → Option Bool) (ag5 : (Int × Bool × Int) → Option Bool) (n6 : Int) (b7 : Bool) (n8 : Int) : Option Bool :=
 oif (decide ((n8 : Int) ≥ 0)) (
 oif (decide (0 ≤ (n6 : Int))) (
 obind (l1[(n6 : Int).toNat]?) fun x9 =>
 oif (decide (0 ≤ (n8 : Int))) (
 obind (l3[(n8 : Int).toNat]?) fun n10 =>
 oif ((x9.2.1 : Int) != n10) (
 some false) (
 oif (decide ((n8 : Int) > 0)) (
 obind (g273 d l1 n6) fun r11 =>
 ag5 (r11, b7, (IntKind.i64.wrap (n8 - 1)))) (
 ag5 (n6, b7, (IntKind.i64.wrap (n8 - 1)))))) none) none) (
 kx274_0_0 b7)
noncomputable def l274_0 (d : Nat) (l1 : List (Int × Int × Bool × ByteArray)) (l3 : List Int) (kx274_0_0 : Bool → Option Bool) (ag5 : (Int × Bool × Int) → Option Bool) (s : (Int × Bool × Int)) : Option Bool := l274_0_b d l1 l3 kx274_0_0 ag5 s.1 s.2.1 s.2.2
theorem e274 (d : Nat) (l1 : List (Int × Int × Bool × ByteArray)) (n2 : Int) (l3 : List Int) : g274 (d + 1) l1 n2 l3 =
 oif (decide (0 ≤ (n2 : Int))) (
 obind (l1[(n2 : Int).toNat]?) fun x4 =>
 oif ((x4.1 : Int) != ((l3.length : Nat) : Int)) (
 some false) (
 iterP (l274_0 d l1 l3 (j274_0 d)) fuelN (n2, false, (IntKind.i64.wrap (((l3.length : Nat) : Int) - 1))))) none := by kernel_rfl

noncomputable def j142_0 (d : Nat)  (n5 : Int) (b6 : Bool) : Option (Int × Bool) :=
 some (0, false)
noncomputable def l142_0_b (d : Nat) (l1 : List (Int × Int × Bool × ByteArray)) (l2 : List Int) (kx142_0_0 : Int → Bool → Option (Int × Bool)) (ag4 : (Int × Bool × Int) → Option (Int × Bool)) (n5 : Int) (b6 : Bool) (n7 : Int) : Option (Int × Bool) :=
 oif (decide ((n7 : Int) < ((l1.length : Nat) : Int))) (
 obind (g274 d l1 n7 l2) fun r8 =>
 oif r8 (
 some (n7, true)) (
 ag4 (n5, b6, (IntKind.i64.wrap (n7 + 1))))) (
 kx142_0_0 n5 b6)
noncomputable def l142_0 (d : Nat) (l1 : List (Int × Int × Bool × ByteArray)) (l2 : List Int) (kx142_0_0 : Int → Bool → Option (Int × Bool)) (ag4 : (Int × Bool × Int) → Option (Int × Bool)) (s : (Int × Bool × Int)) : Option (Int × Bool) := l142_0_b d l1 l2 kx142_0_0 ag4 s.1 s.2.1 s.2.2
noncomputable def j142_1 (d : Nat) (l1 : List (Int × Int × Bool × ByteArray)) (l2 : List Int) (b3 : Bool) : Option (Int × Bool) :=
 oif b3 (
 some (0, false)) (
 iterP (l142_0 d l1 l2 (j142_0 d)) fuelN (0, false, 0))
theorem e142 (d : Nat) (l1 : List (Int × Int × Bool × ByteArray)) (l2 : List Int) : g142 (d + 1) l1 l2 =
 obind (g271 d l1) fun r3 =>
 oif (!r3) (
 j142_1 d l1 l2 true) (
 obind (g179 d ((l2.length : Nat) : Int) 1 8) fun r4 =>
 oif (!r4) (
 j142_1 d l1 l2 true) (
 obind (g228 d l2 0 32767) fun r5 =>
 j142_1 d l1 l2 (!r5))) := by kernel_rfl

noncomputable def j10_0 (d : Nat) (r13 : ((List (Int × Int × Bool × ByteArray)) × (List Int))) (r14 : (Int × Bool)) (r15 : (Int × Bool)) (b16 : Bool) : Option Bool :=
 oif b16 (
 some false) (
 oif (!r14.2) (
 some true) (
 oif (decide (0 ≤ (r15.1 : Int))) (
 oif (Nat.blt ((r15.1 : Int).toNat) r13.1.length) (
 obind (r13.1[(r15.1 : Int).toNat]?) fun x17 =>
 oif (decide (0 ≤ ((IntKind.i64.wrap (((r13.2.length : Nat) : Int) - 1)) : Int))) (
 oif (Nat.blt (((IntKind.i64.wrap (((r13.2.length : Nat) : Int) - 1)) : Int).toNat) r13.2.length) (
 obind (r13.2[((IntKind.i64.wrap (((r13.2.length : Nat) : Int) - 1)) : Int).toNat]?) fun n18 =>
 oif ((x17.2.1 : Int) == n18) (
 oif (decide (0 ≤ (r15.1 : Int))) (
 oif (Nat.blt ((r15.1 : Int).toNat) r13.1.length) (
 obind (r13.1[(r15.1 : Int).toNat]?) fun x19 =>
 some ((x19.1 : Int) == ((r13.2.length : Nat) : Int))) none) none) (
 some false)) none) none) none) none))
noncomputable def j10_1 (d : Nat) (l2 : List Int)  : Option Bool :=
 obind (g140 d l2) fun r13 =>
 obind (g141 d r13.1 r13.2) fun r14 =>
 obind (g142 d r13.1 r13.2) fun r15 =>
 oif (!(r14.2 == r15.2)) (
 j10_0 d r13 r14 r15 true) (
 j10_0 d r13 r14 r15 ((r14.1 : Int) != r15.1))
noncomputable def j10_2 (d : Nat) (l2 : List Int) (r9 : (Int × (List (Int × Int × Bool × ByteArray)))) (r10 : ((List (Int × Int × Bool × ByteArray)) × Bool)) (b12 : Bool) : Option Bool :=
 oif b12 (
 some false) (
 oif r10.2 (
 obind (g133 d r10.1 0) fun r13 =>
 obind (g130 d r10.1 0) fun r14 =>
 oif (!r13.2) (
 some false) (
 oif ((((r13.1.length : Nat) : Int) : Int) != 0) (
 some false) (
 oif (!r14.2) (
 some false) (
 oif ((r14.1 : Int) != (IntKind.i64.wrap (((r9.2.length : Nat) : Int) + 1))) (
 some false) (
 j10_1 d l2))))) (
 j10_1 d l2))
noncomputable def j10_3 (d : Nat) (l2 : List Int) (b8 : Bool) : Option Bool :=
 obind (g137 d l2) fun r9 =>
 obind (g138 d r9.1 r9.2) fun r10 =>
 obind (g139 d r9.1 r9.2) fun r11 =>
 oif (!(r10.2 == r11.2)) (
 j10_2 d l2 r9 r10 true) (
 obind (g135 d r10.1 r11.1) fun r12 =>
 j10_2 d l2 r9 r10 (!r12))
noncomputable def j10_4 (d : Nat) (l2 : List Int) (r4 : ((List (Int × Int × Bool × ByteArray)) × Int)) (r8 : (Int × Bool)) (b12 : Bool) : Option Bool :=
 obind (g133 d r4.1 r4.2) fun r13 =>
 obind (g134 d r4.1 r4.2) fun r14 =>
 oif (!r13.2) (
 some false) (
 obind (g135 d r13.1 r14.1) fun r15 =>
 oif (!r15) (
 some false) (
 oif ((((r13.1.length : Nat) : Int) : Int) != (IntKind.i64.wrap (((r4.1.length : Nat) : Int) - (IntKind.i64.wrap (r8.1 - r4.2))))) (
 some false) (
 obind (g136 d r13.1) fun r16 =>
 oif (!r16) (
 some false) (
 j10_3 d l2 b12))))
noncomputable def l10_0_b (d : Nat) (r4 : ((List (Int × Int × Bool × ByteArray)) × Int)) (r6 : ((List Int) × Bool)) (r8 : (Int × Bool)) (kx10_0_0 : Bool → Option Bool) (ag11 : (Bool × Int) → Option Bool) (b12 : Bool) (n13 : Int) : Option Bool :=
 oif (decide ((n13 : Int) < ((r6.1.length : Nat) : Int))) (
 oif (decide (0 ≤ (n13 : Int))) (
 oif (Nat.blt ((n13 : Int).toNat) r6.1.length) (
 obind (r6.1[(n13 : Int).toNat]?) fun n14 =>
 obind (g132 d r4.1 n14) fun r15 =>
 oif (!r15.2) (
 some false) (
 oif ((r15.1 : Int) != r4.2) (
 some false) (
 oif (decide ((n14 : Int) ≥ r8.1)) (
 some false) (
 ag11 (b12, (IntKind.i64.wrap (n13 + 1))))))) none) none) (
 kx10_0_0 b12)
noncomputable def l10_0 (d : Nat) (r4 : ((List (Int × Int × Bool × ByteArray)) × Int)) (r6 : ((List Int) × Bool)) (r8 : (Int × Bool)) (kx10_0_0 : Bool → Option Bool) (ag11 : (Bool × Int) → Option Bool) (s : (Bool × Int)) : Option Bool := l10_0_b d r4 r6 r8 kx10_0_0 ag11 s.1 s.2
noncomputable def j10_5 (d : Nat) (l2 : List Int) (r4 : ((List (Int × Int × Bool × ByteArray)) × Int)) (r6 : ((List Int) × Bool)) (r8 : (Int × Bool)) (b10 : Bool) : Option Bool :=
 oif b10 (
 some false) (
 iterP (l10_0 d r4 r6 r8 (j10_4 d l2 r4 r8)) fuelN (false, 0))
noncomputable def j10_6 (d : Nat) (l2 : List Int) (r4 : ((List (Int × Int × Bool × ByteArray)) × Int)) (r5 : ((List Int) × Bool)) (r6 : ((List Int) × Bool)) (b7 : Bool) : Option Bool :=
 oif b7 (
 some false) (
 oif r5.2 (
 obind (g130 d r4.1 r4.2) fun r8 =>
 obind (g131 d r4.1 r4.2) fun r9 =>
 oif (!r8.2) (
 j10_5 d l2 r4 r6 r8 true) (
 j10_5 d l2 r4 r6 r8 ((r8.1 : Int) != r9.1))) (
 j10_3 d l2 false))
theorem e10 (d : Nat) (l1 : List Int) (l2 : List Int) : g10 (d + 1) l1 l2 =
 obind (g12 d l1 l2) fun r3 =>
 oif r3 (
 some true) (
 obind (g127 d l1) fun r4 =>
 obind (g128 d r4.1 r4.2) fun r5 =>
 obind (g129 d r4.1 r4.2) fun r6 =>
 oif (!(r5.2 == r6.2)) (
 j10_6 d l2 r4 r5 r6 true) (
 obind (g16 d r5.1 r6.1) fun r7 =>
 j10_6 d l2 r4 r5 r6 (!r7))) := by kernel_rfl

end Go.Proofs.Ytmjhgkmiafemfaa
