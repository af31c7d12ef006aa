/-
  The residual forms of the program's functions under the interpreter by value, printed by program (wip/pv/gen2.py); each equation is checked by the kernel.
  Conditions: none.
-/
import Derived.Test.YtpjlbjkeekobnaaDoorVDef
import Derived.Test.YtpjlbjkeekobnaaDoorProg
import Derived.KernelRfl
set_option linter.all false
set_option maxRecDepth 1000000
namespace Go.Proofs.YtpjlbjkeekobnaaDoor
open Go.Ev Go.Pv

theorem fuel_is : ∃ n : Nat, n = 4194304 := ⟨_, rfl⟩
noncomputable def fuelN : Nat := Classical.choose fuel_is
theorem fuelN_eq : fuelN = 4194304 := Classical.choose_spec fuel_is
def pvSig : FuncId → Sig
  | 5 => ⟨[(.ro, (.sl (.pair (.int .i64) (.pair (.int .i64) (.pair .bool .str)))))], [(false, .bool)]⟩
  | 8 => ⟨[(.ro, (.pair (.int .i64) (.pair (.int .i64) (.pair (.int .i64) (.pair (.int .i64) (.int .i64)))))), (.ro, (.pair (.int .i64) (.pair (.int .i64) (.pair (.int .i64) (.pair (.int .i64) (.int .i64))))))], [(false, .bool)]⟩
  | 12 => ⟨[(.ro, (.pair (.int .i64) (.pair (.int .i64) (.pair (.int .i64) (.pair (.int .i64) (.pair (.int .i64) (.pair (.int .i64) (.pair (.int .i64) (.int .i64))))))))), (.ro, (.pair (.int .i64) (.pair (.int .i64) (.pair (.int .i64) (.pair (.int .i64) (.pair (.int .i64) (.pair (.int .i64) (.pair (.int .i64) (.int .i64)))))))))], [(false, .bool)]⟩
  | 13 => ⟨[(.ro, (.sl (.pair (.int .i64) (.pair (.int .i64) (.pair .bool .str))))), (.ro, (.int .i64))], [(false, (.int .i64))]⟩
  | 14 => ⟨[(.ro, (.sl (.pair (.int .i64) (.pair (.int .i64) (.pair .bool .str)))))], [(false, (.pair .str (.pair (.os (.pair (.int .i64) (.pair (.int .i64) (.pair (.int .i64) (.pair (.int .i64) (.pair (.int .i64) (.pair (.int .i64) (.pair (.int .i64) (.int .i64))))))))) (.pair (.os (.pair (.int .i64) (.pair (.int .i64) (.pair (.int .i64) (.pair (.int .i64) (.int .i64)))))) (.int .i64))))), (false, .bool)]⟩
  | 15 => ⟨[(.ro, (.sl (.pair (.int .i64) (.pair (.int .i64) (.pair .bool .str)))))], [(true, (.sl (.pair (.int .i64) (.pair (.int .i64) (.pair .bool .str)))))]⟩
  | 16 => ⟨[(.ro, (.sl (.pair (.int .i64) (.pair (.int .i64) (.pair .bool .str)))))], [(false, (.pair .str (.pair (.os (.pair (.int .i64) (.pair (.int .i64) (.pair (.int .i64) (.pair (.int .i64) (.pair (.int .i64) (.pair (.int .i64) (.pair (.int .i64) (.int .i64))))))))) (.pair (.os (.pair (.int .i64) (.pair (.int .i64) (.pair (.int .i64) (.pair (.int .i64) (.int .i64)))))) (.int .i64))))), (false, .bool)]⟩
  | 17 => ⟨[(.ro, (.pair .str (.pair (.sl (.pair (.int .i64) (.pair (.int .i64) (.pair (.int .i64) (.pair (.int .i64) (.pair (.int .i64) (.pair (.int .i64) (.pair (.int .i64) (.int .i64))))))))) (.pair (.sl (.pair (.int .i64) (.pair (.int .i64) (.pair (.int .i64) (.pair (.int .i64) (.int .i64)))))) (.int .i64))))), (.ro, (.pair .str (.pair (.sl (.pair (.int .i64) (.pair (.int .i64) (.pair (.int .i64) (.pair (.int .i64) (.pair (.int .i64) (.pair (.int .i64) (.pair (.int .i64) (.int .i64))))))))) (.pair (.sl (.pair (.int .i64) (.pair (.int .i64) (.pair (.int .i64) (.pair (.int .i64) (.int .i64)))))) (.int .i64)))))], [(false, .bool)]⟩
  | 18 => ⟨[(.ro, (.sl (.pair (.int .i64) (.pair (.int .i64) (.pair .bool .str))))), (.ro, (.sl (.pair (.int .i64) (.pair (.int .i64) (.pair .bool .str)))))], [(false, .bool)]⟩
  | 19 => ⟨[(.io, (.sl (.pair (.int .i64) (.pair (.int .i64) (.pair .bool .str))))), (.ro, (.int .i64))], [(false, (.int .i64))]⟩
  | 21 => ⟨[(.ro, (.pair .str (.pair (.sl (.pair (.int .i64) (.pair (.int .i64) (.pair (.int .i64) (.pair (.int .i64) (.pair (.int .i64) (.pair (.int .i64) (.pair (.int .i64) (.int .i64))))))))) (.pair (.sl (.pair (.int .i64) (.pair (.int .i64) (.pair (.int .i64) (.pair (.int .i64) (.int .i64)))))) (.int .i64))))), (.ro, (.int .i64))], [(false, (.int .i64))]⟩
  | 31 => ⟨[(.ro, (.int .i64)), (.ro, (.int .i64)), (.ro, (.int .i64))], [(false, .bool)]⟩
  | 36 => ⟨[(.ro, (.pair (.int .i64) (.pair (.int .i64) (.pair .bool .str)))), (.ro, (.int .i64))], [(false, (.int .i64))]⟩
  | 37 => ⟨[(.ro, (.sl (.pair (.int .i64) (.pair (.int .i64) (.pair .bool .str)))))], [(false, .bool)]⟩
  | 38 => ⟨[(.ro, (.sl (.pair (.int .i64) (.pair (.int .i64) (.pair .bool .str)))))], [(false, (.pair .str (.pair (.os (.pair (.int .i64) (.pair (.int .i64) (.pair (.int .i64) (.pair (.int .i64) (.pair (.int .i64) (.pair (.int .i64) (.pair (.int .i64) (.int .i64))))))))) (.pair (.os (.pair (.int .i64) (.pair (.int .i64) (.pair (.int .i64) (.pair (.int .i64) (.int .i64)))))) (.int .i64))))), (false, (.int .i64)), (false, (.int .i64))]⟩
  | 39 => ⟨[(.ro, (.pair (.int .i64) (.pair (.int .i64) (.pair .bool .str))))], [(false, (.pair (.int .i64) (.pair (.int .i64) (.pair .bool .str))))]⟩
  | 40 => ⟨[(.ro, (.sl (.pair (.int .i64) (.pair (.int .i64) (.pair .bool .str)))))], [(false, .bool)]⟩
  | 41 => ⟨[(.ps, (.pair (.sl (.pair (.int .i64) (.pair (.int .i64) (.pair .bool .str)))) (.pair (.int .i64) (.int .i64))))], [(false, (.pair .str (.pair (.os (.pair (.int .i64) (.pair (.int .i64) (.pair (.int .i64) (.pair (.int .i64) (.pair (.int .i64) (.pair (.int .i64) (.pair (.int .i64) (.int .i64))))))))) (.pair (.os (.pair (.int .i64) (.pair (.int .i64) (.pair (.int .i64) (.pair (.int .i64) (.int .i64)))))) (.int .i64)))))]⟩
  | 42 => ⟨[(.ro, (.sl (.pair (.int .i64) (.pair (.int .i64) (.pair (.int .i64) (.pair (.int .i64) (.pair (.int .i64) (.pair (.int .i64) (.pair (.int .i64) (.int .i64)))))))))), (.ro, (.sl (.pair (.int .i64) (.pair (.int .i64) (.pair (.int .i64) (.pair (.int .i64) (.pair (.int .i64) (.pair (.int .i64) (.pair (.int .i64) (.int .i64))))))))))], [(false, .bool)]⟩
  | 43 => ⟨[(.ro, (.sl (.pair (.int .i64) (.pair (.int .i64) (.pair (.int .i64) (.pair (.int .i64) (.int .i64))))))), (.ro, (.sl (.pair (.int .i64) (.pair (.int .i64) (.pair (.int .i64) (.pair (.int .i64) (.int .i64)))))))], [(false, .bool)]⟩
  | 44 => ⟨[(.ro, (.pair (.int .i64) (.pair (.int .i64) (.pair .bool .str)))), (.ro, (.pair (.int .i64) (.pair (.int .i64) (.pair .bool .str))))], [(false, .bool)]⟩
  | 45 => ⟨[(.ro, (.int .i64))], [(false, .str)]⟩
  | 46 => ⟨[(.io, (.sl (.pair (.int .i64) (.pair (.int .i64) (.pair (.int .i64) (.pair (.int .i64) (.pair (.int .i64) (.pair (.int .i64) (.pair (.int .i64) (.int .i64)))))))))), (.ro, (.int .i64))], [(false, (.int .i64))]⟩
  | 47 => ⟨[(.io, (.sl (.pair (.int .i64) (.pair (.int .i64) (.pair (.int .i64) (.pair (.int .i64) (.int .i64))))))), (.ro, (.int .i64))], [(false, (.int .i64))]⟩
  | 48 => ⟨[(.ro, (.sl (.pair (.int .i64) (.pair (.int .i64) (.pair (.int .i64) (.pair (.int .i64) (.pair (.int .i64) (.pair (.int .i64) (.pair (.int .i64) (.int .i64)))))))))), (.ro, (.int .i64))], [(false, (.int .i64))]⟩
  | 49 => ⟨[(.ro, (.sl (.pair (.int .i64) (.pair (.int .i64) (.pair (.int .i64) (.pair (.int .i64) (.int .i64))))))), (.ro, (.int .i64))], [(false, (.int .i64))]⟩
  | 64 => ⟨[(.ro, (.int .i64)), (.ro, (.int .i64))], [(false, (.int .i64))]⟩
  | 65 => ⟨[(.ps, (.pair (.pair .str (.pair (.os (.pair (.int .i64) (.pair (.int .i64) (.pair (.int .i64) (.pair (.int .i64) (.pair (.int .i64) (.pair (.int .i64) (.pair (.int .i64) (.int .i64))))))))) (.pair (.os (.pair (.int .i64) (.pair (.int .i64) (.pair (.int .i64) (.pair (.int .i64) (.int .i64)))))) (.int .i64)))) (.pair (.int .i64) (.pair (.int .i64) (.os (.int .i64)))))), (.ro, (.pair (.int .i64) (.pair (.int .i64) (.pair .bool .str))))], [(false, (.int .i64))]⟩
  | 66 => ⟨[(.ps, (.pair (.sl (.pair (.int .i64) (.pair (.int .i64) (.pair .bool .str)))) (.pair (.int .i64) (.int .i64)))), (.ro, (.int .i64)), (.ro, (.int .i64)), (.ro, .bool)], [(false, .str)]⟩
  | 67 => ⟨[(.ro, .str)], [(false, .bool)]⟩
  | 68 => ⟨[(.ps, (.pair (.sl (.pair (.int .i64) (.pair (.int .i64) (.pair .bool .str)))) (.pair (.int .i64) (.int .i64)))), (.ro, (.int .i64))], []⟩
  | 69 => ⟨[(.ps, (.pair (.sl (.pair (.int .i64) (.pair (.int .i64) (.pair .bool .str)))) (.pair (.int .i64) (.int .i64)))), (.ro, (.int .i64)), (.ro, (.int .i64))], [(false, (.int .i64))]⟩
  | 70 => ⟨[(.ps, (.pair (.sl (.pair (.int .i64) (.pair (.int .i64) (.pair .bool .str)))) (.pair (.int .i64) (.int .i64)))), (.ro, (.int .i64)), (.ro, (.int .i64)), (.ro, (.int .i64))], [(false, .bool)]⟩
  | 71 => ⟨[(.ro, (.sl (.int .i64)))], [(false, (.pair (.int .i64) (.pair (.int .i64) (.pair (.int .i64) (.pair (.int .i64) (.pair (.int .i64) (.pair (.int .i64) (.pair (.int .i64) (.int .i64)))))))))]⟩
  | 72 => ⟨[(.ps, (.pair (.sl (.pair (.int .i64) (.pair (.int .i64) (.pair .bool .str)))) (.pair (.int .i64) (.int .i64)))), (.ro, (.int .i64))], [(true, (.sl (.int .i64)))]⟩
  | 73 => ⟨[(.ro, (.sl (.int .i64)))], [(false, (.pair (.int .i64) (.pair (.int .i64) (.pair (.int .i64) (.pair (.int .i64) (.int .i64))))))]⟩
  | 77 => ⟨[(.ps, (.pair (.pair .str (.pair (.os (.pair (.int .i64) (.pair (.int .i64) (.pair (.int .i64) (.pair (.int .i64) (.pair (.int .i64) (.pair (.int .i64) (.pair (.int .i64) (.int .i64))))))))) (.pair (.os (.pair (.int .i64) (.pair (.int .i64) (.pair (.int .i64) (.pair (.int .i64) (.int .i64)))))) (.int .i64)))) (.pair (.int .i64) (.pair (.int .i64) (.os (.int .i64)))))), (.ro, (.pair (.int .i64) (.pair (.int .i64) (.pair .bool .str))))], [(false, .bool)]⟩
  | 78 => ⟨[(.ps, (.pair (.pair .str (.pair (.os (.pair (.int .i64) (.pair (.int .i64) (.pair (.int .i64) (.pair (.int .i64) (.pair (.int .i64) (.pair (.int .i64) (.pair (.int .i64) (.int .i64))))))))) (.pair (.os (.pair (.int .i64) (.pair (.int .i64) (.pair (.int .i64) (.pair (.int .i64) (.int .i64)))))) (.int .i64)))) (.pair (.int .i64) (.pair (.int .i64) (.os (.int .i64)))))), (.ro, (.pair (.int .i64) (.pair (.int .i64) (.pair .bool .str))))], [(false, .bool)]⟩
  | 79 => ⟨[(.ro, .str)], [(false, .bool)]⟩
  | 80 => ⟨[(.ro, .str)], [(false, (.int .i64))]⟩
  | 81 => ⟨[(.ps, (.pair (.pair .str (.pair (.os (.pair (.int .i64) (.pair (.int .i64) (.pair (.int .i64) (.pair (.int .i64) (.pair (.int .i64) (.pair (.int .i64) (.pair (.int .i64) (.int .i64))))))))) (.pair (.os (.pair (.int .i64) (.pair (.int .i64) (.pair (.int .i64) (.pair (.int .i64) (.int .i64)))))) (.int .i64)))) (.pair (.int .i64) (.pair (.int .i64) (.os (.int .i64)))))), (.ro, (.int .i64))], []⟩
  | 82 => ⟨[(.ro, (.int .u8))], [(false, .bool)]⟩
  | 83 => ⟨[(.ro, .str)], [(false, .bool)]⟩
  | 84 => ⟨[(.ro, .str)], [(false, (.int .i64)), (false, .bool)]⟩
  | 94 => ⟨[(.ro, .str)], [(false, .bool)]⟩
  | 95 => ⟨[(.ro, .str), (.ro, (.int .i64))], [(false, (.int .i64))]⟩
  | 96 => ⟨[(.ro, (.int .i64))], [(false, .bool)]⟩
  | 107 => ⟨[(.ro, (.sl .str)), (.ro, .str)], [(false, .bool)]⟩
  | 108 => ⟨[], [(true, (.sl .str))]⟩
  | _ => ⟨[], []⟩
def pvLoops : FuncId → Nat → LoopA
  | 13, 0 => ⟨[(1, false, (.int .i64)), (4, false, (.int .i64)), (5, false, (.int .i64))], [], [], []⟩
  | 15, 0 => ⟨[(4, false, (.int .i64))], [], [(3, (.pair (.int .i64) (.pair (.int .i64) (.pair .bool .str))))], []⟩
  | 18, 0 => ⟨[(4, false, .bool), (5, false, (.int .i64))], [], [], []⟩
  | 19, 0 => ⟨[(1, false, (.int .i64)), (5, false, (.int .i64))], [], [(0, (.pair (.int .i64) (.pair (.int .i64) (.pair .bool .str))))], []⟩
  | 37, 0 => ⟨[(2, false, .bool), (8, false, (.int .i64))], [], [], []⟩
  | 38, 0 => ⟨[(3, false, (.int .i64)), (4, false, (.int .i64)), (13, false, (.int .i64))], [(5, (.pair (.pair .str (.pair (.os (.pair (.int .i64) (.pair (.int .i64) (.pair (.int .i64) (.pair (.int .i64) (.pair (.int .i64) (.pair (.int .i64) (.pair (.int .i64) (.int .i64))))))))) (.pair (.os (.pair (.int .i64) (.pair (.int .i64) (.pair (.int .i64) (.pair (.int .i64) (.int .i64)))))) (.int .i64)))) (.pair (.int .i64) (.pair (.int .i64) (.os (.int .i64))))))], [], []⟩
  | 40, 0 => ⟨[(2, false, .bool), (11, false, (.int .i64))], [], [], []⟩
  | 41, 0 => ⟨[], [(0, (.pair (.sl (.pair (.int .i64) (.pair (.int .i64) (.pair .bool .str)))) (.pair (.int .i64) (.int .i64)))), (3, (.pair .str (.pair (.os (.pair (.int .i64) (.pair (.int .i64) (.pair (.int .i64) (.pair (.int .i64) (.pair (.int .i64) (.pair (.int .i64) (.pair (.int .i64) (.int .i64))))))))) (.pair (.os (.pair (.int .i64) (.pair (.int .i64) (.pair (.int .i64) (.pair (.int .i64) (.int .i64)))))) (.int .i64)))))], [], []⟩
  | 41, 1 => ⟨[], [(0, (.pair (.sl (.pair (.int .i64) (.pair (.int .i64) (.pair .bool .str)))) (.pair (.int .i64) (.int .i64)))), (3, (.pair .str (.pair (.os (.pair (.int .i64) (.pair (.int .i64) (.pair (.int .i64) (.pair (.int .i64) (.pair (.int .i64) (.pair (.int .i64) (.pair (.int .i64) (.int .i64))))))))) (.pair (.os (.pair (.int .i64) (.pair (.int .i64) (.pair (.int .i64) (.pair (.int .i64) (.int .i64)))))) (.int .i64)))))], [], []⟩
  | 42, 0 => ⟨[(4, false, .bool), (5, false, (.int .i64))], [], [], []⟩
  | 43, 0 => ⟨[(4, false, .bool), (5, false, (.int .i64))], [], [], []⟩
  | 45, 0 => ⟨[(0, false, (.int .i64)), (3, false, .str)], [], [], []⟩
  | 46, 0 => ⟨[(1, false, (.int .i64)), (5, false, (.int .i64))], [], [(0, (.pair (.int .i64) (.pair (.int .i64) (.pair (.int .i64) (.pair (.int .i64) (.pair (.int .i64) (.pair (.int .i64) (.pair (.int .i64) (.int .i64)))))))))], []⟩
  | 47, 0 => ⟨[(1, false, (.int .i64)), (5, false, (.int .i64))], [], [(0, (.pair (.int .i64) (.pair (.int .i64) (.pair (.int .i64) (.pair (.int .i64) (.int .i64))))))], []⟩
  | 48, 0 => ⟨[(1, false, (.int .i64)), (4, false, (.int .i64)), (5, false, (.int .i64))], [], [], []⟩
  | 49, 0 => ⟨[(1, false, (.int .i64)), (4, false, (.int .i64)), (5, false, (.int .i64))], [], [], []⟩
  | 67, 0 => ⟨[(2, false, .bool), (3, false, (.int .i64))], [], [], []⟩
  | 72, 0 => ⟨[(11, false, (.int .i64))], [(0, (.pair (.sl (.pair (.int .i64) (.pair (.int .i64) (.pair .bool .str)))) (.pair (.int .i64) (.int .i64))))], [(5, (.int .i64))], []⟩
  | 79, 0 => ⟨[(2, false, .bool), (3, false, (.int .i64))], [], [], []⟩
  | 83, 0 => ⟨[(2, false, .bool), (6, false, (.int .i64))], [], [], []⟩
  | 107, 0 => ⟨[(4, false, .bool), (9, false, (.int .i64))], [], [], []⟩
  | _, _ => ⟨[], [], [], []⟩
def pvEloops : FuncId → Nat → List (Nat × Value)
  | 13, 0 => [(0, (.slice none 0 0)), (1, (.int .i64 0)), (4, (.int .i64 0)), (5, (.int .i64 0))]
  | 15, 0 => [(0, (.slice none 0 0)), (2, (.slice none 0 0)), (3, (.slice none 0 0)), (4, (.int .i64 0))]
  | 18, 0 => [(0, (.slice none 0 0)), (1, (.slice none 0 0)), (4, (.bool false)), (5, (.int .i64 0))]
  | 19, 0 => [(0, (.slice none 0 0)), (1, (.int .i64 0)), (4, (.int .i64 0)), (5, (.int .i64 0))]
  | 37, 0 => [(0, (.slice none 0 0)), (2, (.bool false)), (6, (.slice none 0 0)), (7, (.int .i64 0)), (8, (.int .i64 0))]
  | 38, 0 => [(0, (.slice none 0 0)), (2, (.pointer (some ⟨0, 0, none⟩))), (3, (.int .i64 0)), (4, (.int .i64 0)), (5, (.pointer (some ⟨0, 0, none⟩))), (11, (.slice none 0 0)), (12, (.int .i64 0)), (13, (.int .i64 0))]
  | 40, 0 => [(0, (.slice none 0 0)), (2, (.bool false)), (9, (.slice none 0 0)), (10, (.int .i64 0)), (11, (.int .i64 0))]
  | 41, 0 => [(0, (.pointer (some ⟨0, 0, none⟩))), (2, (.pointer (some ⟨0, 0, none⟩))), (3, (.pointer (some ⟨0, 0, none⟩)))]
  | 41, 1 => [(0, (.pointer (some ⟨0, 0, none⟩))), (2, (.pointer (some ⟨0, 0, none⟩))), (3, (.pointer (some ⟨0, 0, none⟩)))]
  | 42, 0 => [(0, (.slice none 0 0)), (1, (.slice none 0 0)), (4, (.bool false)), (5, (.int .i64 0))]
  | 43, 0 => [(0, (.slice none 0 0)), (1, (.slice none 0 0)), (4, (.bool false)), (5, (.int .i64 0))]
  | 45, 0 => [(0, (.int .i64 0)), (2, (.string ⟨#[]⟩)), (3, (.string ⟨#[]⟩))]
  | 46, 0 => [(0, (.slice none 0 0)), (1, (.int .i64 0)), (4, (.int .i64 0)), (5, (.int .i64 0))]
  | 47, 0 => [(0, (.slice none 0 0)), (1, (.int .i64 0)), (4, (.int .i64 0)), (5, (.int .i64 0))]
  | 48, 0 => [(0, (.slice none 0 0)), (1, (.int .i64 0)), (4, (.int .i64 0)), (5, (.int .i64 0))]
  | 49, 0 => [(0, (.slice none 0 0)), (1, (.int .i64 0)), (4, (.int .i64 0)), (5, (.int .i64 0))]
  | 67, 0 => [(0, (.string ⟨#[]⟩)), (2, (.bool false)), (3, (.int .i64 0))]
  | 72, 0 => [(0, (.pointer (some ⟨0, 0, none⟩))), (4, (.slice none 0 0)), (5, (.slice none 0 0)), (10, (.int .i64 0)), (11, (.int .i64 0))]
  | 79, 0 => [(0, (.string ⟨#[]⟩)), (2, (.bool false)), (3, (.int .i64 0))]
  | 83, 0 => [(0, (.string ⟨#[]⟩)), (2, (.bool false)), (5, (.agg #[(.string ⟨#[]⟩), (.string ⟨#[]⟩), (.string ⟨#[]⟩), (.string ⟨#[]⟩), (.string ⟨#[]⟩), (.string ⟨#[]⟩), (.string ⟨#[]⟩), (.string ⟨#[]⟩), (.string ⟨#[]⟩), (.string ⟨#[]⟩), (.string ⟨#[]⟩), (.string ⟨#[]⟩), (.string ⟨#[]⟩), (.string ⟨#[]⟩)])), (6, (.int .i64 0))]
  | 107, 0 => [(1, (.string ⟨#[]⟩)), (4, (.bool false)), (7, (.slice none 0 0)), (8, (.int .i64 0)), (9, (.int .i64 0))]
  | _, _ => []
def pvInline : FuncId → Bool
  | 20 => true
  | _ => false
def pvOwn : FuncId → Bool

  | _ => false
def pvExt : FuncId → Option (List Value → Nat → Go.Ev.Heap → Option (Value × Go.Ev.Heap))
  | _ => none
def pvVext : (f : FuncId) → Option (TupT (pvSig f).ptys → Option (TupT (pvSig f).rtys))
  | _ => none
noncomputable def pvAnn : AnnV := ⟨fuelN, pvSig, pvLoops, pvEloops, pvInline, pvOwn, pvExt, pvVext⟩

/-- loop.example/g00838/laws.szAttr -/
noncomputable def g36 (d : Nat) (x1 : (Int × Int × Bool × ByteArray)) (n2 : Int) : Option Int := (lev Tryd.prog pvAnn d).call 36 (x1, n2)
/-- loop.example/g00838/laws.szAttrS -/
noncomputable def g13 (d : Nat) (l1 : List (Int × Int × Bool × ByteArray)) (n2 : Int) : Option Int := (lev Tryd.prog pvAnn d).call 13 (l1, n2)
/-- loop.example/g00838/spec.l1In -/
noncomputable def g31 (d : Nat) (n1 : Int) (n2 : Int) (n3 : Int) : Option Bool := (lev Tryd.prog pvAnn d).call 31 (n1, n2, n3)
/-- loop.example/g00838/spec.l1Least -/
noncomputable def g64 (d : Nat) (n1 : Int) (n2 : Int) : Option Int := (lev Tryd.prog pvAnn d).call 64 (n1, n2)
/-- loop.example/g00838/spec.tvGood -/
noncomputable def g37 (d : Nat) (l1 : List (Int × Int × Bool × ByteArray)) : Option Bool := (lev Tryd.prog pvAnn d).call 37 (l1)
/-- (*loop.example/g00838/spec.enReader).fits -/
noncomputable def g77 (d : Nat) (x1 : ((ByteArray × (List (Int × Int × Int × Int × Int × Int × Int × Int)) × (List (Int × Int × Int × Int × Int)) × Int) × Int × Int × (List Int))) (x2 : (Int × Int × Bool × ByteArray)) : Option (Bool × ((ByteArray × (List (Int × Int × Int × Int × Int × Int × Int × Int)) × (List (Int × Int × Int × Int × Int)) × Int) × Int × Int × (List Int))) := (lev Tryd.prog pvAnn d).call 77 (x1, x2)
/-- (*loop.example/g00838/spec.enReader).full -/
noncomputable def g78 (d : Nat) (x1 : ((ByteArray × (List (Int × Int × Int × Int × Int × Int × Int × Int)) × (List (Int × Int × Int × Int × Int)) × Int) × Int × Int × (List Int))) (x2 : (Int × Int × Bool × ByteArray)) : Option (Bool × ((ByteArray × (List (Int × Int × Int × Int × Int × Int × Int × Int)) × (List (Int × Int × Int × Int × Int)) × Int) × Int × Int × (List Int))) := (lev Tryd.prog pvAnn d).call 78 (x1, x2)
/-- loop.example/g00838/spec.l1HasS -/
noncomputable def g107 (d : Nat) (l1 : List ByteArray) (s2 : ByteArray) : Option Bool := (lev Tryd.prog pvAnn d).call 107 (l1, s2)
/-- loop.example/g00838/spec.tkKeys -/
noncomputable def g108 (d : Nat)  : Option (List ByteArray) := (lev Tryd.prog pvAnn d).call 108 ()
/-- loop.example/g00838/spec.IsKey -/
noncomputable def g94 (d : Nat) (s1 : ByteArray) : Option Bool := (lev Tryd.prog pvAnn d).call 94 (s1)
/-- loop.example/g00838/spec.cfName -/
noncomputable def g79 (d : Nat) (s1 : ByteArray) : Option Bool := (lev Tryd.prog pvAnn d).call 79 (s1)
/-- loop.example/g00838/spec.tvRead -/
noncomputable def g95 (d : Nat) (s1 : ByteArray) (n2 : Int) : Option Int := (lev Tryd.prog pvAnn d).call 95 (s1, n2)
/-- loop.example/g00838/spec.nuValue -/
noncomputable def g96 (d : Nat) (n1 : Int) : Option Bool := (lev Tryd.prog pvAnn d).call 96 (n1)
/-- loop.example/g00838/spec.enRead -/
noncomputable def g80 (d : Nat) (s1 : ByteArray) : Option Int := (lev Tryd.prog pvAnn d).call 80 (s1)
/-- (*loop.example/g00838/spec.enReader).number -/
noncomputable def g81 (d : Nat) (x1 : ((ByteArray × (List (Int × Int × Int × Int × Int × Int × Int × Int)) × (List (Int × Int × Int × Int × Int)) × Int) × Int × Int × (List Int))) (n2 : Int) : Option ((ByteArray × (List (Int × Int × Int × Int × Int × Int × Int × Int)) × (List (Int × Int × Int × Int × Int)) × Int) × Int × Int × (List Int)) := (lev Tryd.prog pvAnn d).call 81 (x1, n2)
/-- (*loop.example/g00838/spec.enReader).take -/
noncomputable def g65 (d : Nat) (x1 : ((ByteArray × (List (Int × Int × Int × Int × Int × Int × Int × Int)) × (List (Int × Int × Int × Int × Int)) × Int) × Int × Int × (List Int))) (x2 : (Int × Int × Bool × ByteArray)) : Option (Int × ((ByteArray × (List (Int × Int × Int × Int × Int × Int × Int × Int)) × (List (Int × Int × Int × Int × Int)) × Int) × Int × Int × (List Int))) := (lev Tryd.prog pvAnn d).call 65 (x1, x2)
/-- loop.example/g00838/spec.enParse -/
noncomputable def g38 (d : Nat) (l1 : List (Int × Int × Bool × ByteArray)) : Option ((ByteArray × (List (Int × Int × Int × Int × Int × Int × Int × Int)) × (List (Int × Int × Int × Int × Int)) × Int) × Int × Int) := (lev Tryd.prog pvAnn d).call 38 (l1)
/-- loop.example/g00838/spec.AttrsConfig -/
noncomputable def g14 (d : Nat) (l1 : List (Int × Int × Bool × ByteArray)) : Option ((ByteArray × (List (Int × Int × Int × Int × Int × Int × Int × Int)) × (List (Int × Int × Int × Int × Int)) × Int) × Bool) := (lev Tryd.prog pvAnn d).call 14 (l1)
/-- loop.example/g00838/laws.toAttr -/
noncomputable def g39 (d : Nat) (x1 : (Int × Int × Bool × ByteArray)) : Option (Int × Int × Bool × ByteArray) := (lev Tryd.prog pvAnn d).call 39 (x1)
/-- loop.example/g00838/laws.toAttrS -/
noncomputable def g15 (d : Nat) (l1 : List (Int × Int × Bool × ByteArray)) : Option (List (Int × Int × Bool × ByteArray)) := (lev Tryd.prog pvAnn d).call 15 (l1)
/-- loop.example/g00838/impl.AreAttrs -/
noncomputable def g40 (d : Nat) (l1 : List (Int × Int × Bool × ByteArray)) : Option Bool := (lev Tryd.prog pvAnn d).call 40 (l1)
/-- (*loop.example/g00838/impl.attrReader).stop -/
noncomputable def g68 (d : Nat) (x1 : ((List (Int × Int × Bool × ByteArray)) × Int × Int)) (n2 : Int) : Option ((List (Int × Int × Bool × ByteArray)) × Int × Int) := (lev Tryd.prog pvAnn d).call 68 (x1, n2)
/-- (*loop.example/g00838/impl.attrReader).want -/
noncomputable def g66 (d : Nat) (x1 : ((List (Int × Int × Bool × ByteArray)) × Int × Int)) (n2 : Int) (n3 : Int) (b4 : Bool) : Option (ByteArray × ((List (Int × Int × Bool × ByteArray)) × Int × Int)) := (lev Tryd.prog pvAnn d).call 66 (x1, n2, n3, b4)
/-- loop.example/g00838/impl.isSmall -/
noncomputable def g82 (d : Nat) (n1 : Int) : Option Bool := (lev Tryd.prog pvAnn d).call 82 (n1)
/-- loop.example/g00838/impl.IsKey -/
noncomputable def g83 (d : Nat) (s1 : ByteArray) : Option Bool := (lev Tryd.prog pvAnn d).call 83 (s1)
/-- loop.example/g00838/impl.isName -/
noncomputable def g67 (d : Nat) (s1 : ByteArray) : Option Bool := (lev Tryd.prog pvAnn d).call 67 (s1)
/-- loop.example/g00838/impl.ReadData -/
noncomputable def g84 (d : Nat) (s1 : ByteArray) : Option (Int × Bool) := (lev Tryd.prog pvAnn d).call 84 (s1)
/-- (*loop.example/g00838/impl.attrReader).number -/
noncomputable def g69 (d : Nat) (x1 : ((List (Int × Int × Bool × ByteArray)) × Int × Int)) (n2 : Int) (n3 : Int) : Option (Int × ((List (Int × Int × Bool × ByteArray)) × Int × Int)) := (lev Tryd.prog pvAnn d).call 69 (x1, n2, n3)
/-- (*loop.example/g00838/impl.attrReader).begins -/
noncomputable def g70 (d : Nat) (x1 : ((List (Int × Int × Bool × ByteArray)) × Int × Int)) (n2 : Int) (n3 : Int) (n4 : Int) : Option (Bool × ((List (Int × Int × Bool × ByteArray)) × Int × Int)) := (lev Tryd.prog pvAnn d).call 70 (x1, n2, n3, n4)
/-- loop.example/g00838/impl.classWith -/
noncomputable def g71 (d : Nat) (l1 : List Int) : Option (Int × Int × Int × Int × Int × Int × Int × Int) := (lev Tryd.prog pvAnn d).call 71 (l1)
/-- (*loop.example/g00838/impl.attrReader).numbers -/
noncomputable def g72 (d : Nat) (x1 : ((List (Int × Int × Bool × ByteArray)) × Int × Int)) (n2 : Int) : Option ((List Int) × ((List (Int × Int × Bool × ByteArray)) × Int × Int)) := (lev Tryd.prog pvAnn d).call 72 (x1, n2)
/-- loop.example/g00838/impl.filterWith -/
noncomputable def g73 (d : Nat) (l1 : List Int) : Option (Int × Int × Int × Int × Int) := (lev Tryd.prog pvAnn d).call 73 (l1)
/-- (*loop.example/g00838/impl.attrReader).config -/
noncomputable def g41 (d : Nat) (x1 : ((List (Int × Int × Bool × ByteArray)) × Int × Int)) : Option ((ByteArray × (List (Int × Int × Int × Int × Int × Int × Int × Int)) × (List (Int × Int × Int × Int × Int)) × Int) × ((List (Int × Int × Bool × ByteArray)) × Int × Int)) := (lev Tryd.prog pvAnn d).call 41 (x1)
/-- loop.example/g00838/impl.AttrsConfig -/
noncomputable def g16 (d : Nat) (l1 : List (Int × Int × Bool × ByteArray)) : Option ((ByteArray × (List (Int × Int × Int × Int × Int × Int × Int × Int)) × (List (Int × Int × Int × Int × Int)) × Int) × Bool) := (lev Tryd.prog pvAnn d).call 16 (l1)
/-- loop.example/g00838/laws.eqClass -/
noncomputable def g12 (d : Nat) (x1 : (Int × Int × Int × Int × Int × Int × Int × Int)) (x2 : (Int × Int × Int × Int × Int × Int × Int × Int)) : Option Bool := (lev Tryd.prog pvAnn d).call 12 (x1, x2)
/-- loop.example/g00838/laws.eqClassS -/
noncomputable def g42 (d : Nat) (l1 : List (Int × Int × Int × Int × Int × Int × Int × Int)) (l2 : List (Int × Int × Int × Int × Int × Int × Int × Int)) : Option Bool := (lev Tryd.prog pvAnn d).call 42 (l1, l2)
/-- loop.example/g00838/laws.eqFilter -/
noncomputable def g8 (d : Nat) (x1 : (Int × Int × Int × Int × Int)) (x2 : (Int × Int × Int × Int × Int)) : Option Bool := (lev Tryd.prog pvAnn d).call 8 (x1, x2)
/-- loop.example/g00838/laws.eqFilterS -/
noncomputable def g43 (d : Nat) (l1 : List (Int × Int × Int × Int × Int)) (l2 : List (Int × Int × Int × Int × Int)) : Option Bool := (lev Tryd.prog pvAnn d).call 43 (l1, l2)
/-- loop.example/g00838/laws.eqConfig -/
noncomputable def g17 (d : Nat) (x1 : (ByteArray × (List (Int × Int × Int × Int × Int × Int × Int × Int)) × (List (Int × Int × Int × Int × Int)) × Int)) (x2 : (ByteArray × (List (Int × Int × Int × Int × Int × Int × Int × Int)) × (List (Int × Int × Int × Int × Int)) × Int)) : Option Bool := (lev Tryd.prog pvAnn d).call 17 (x1, x2)
/-- loop.example/g00838/laws.eqAttr -/
noncomputable def g44 (d : Nat) (x1 : (Int × Int × Bool × ByteArray)) (x2 : (Int × Int × Bool × ByteArray)) : Option Bool := (lev Tryd.prog pvAnn d).call 44 (x1, x2)
/-- loop.example/g00838/laws.eqAttrS -/
noncomputable def g18 (d : Nat) (l1 : List (Int × Int × Bool × ByteArray)) (l2 : List (Int × Int × Bool × ByteArray)) : Option Bool := (lev Tryd.prog pvAnn d).call 18 (l1, l2)
/-- loop.example/g00838/laws.markText -/
noncomputable def g45 (d : Nat) (n1 : Int) : Option ByteArray := (lev Tryd.prog pvAnn d).call 45 (n1)
/-- loop.example/g00838/laws.markAttrS -/
noncomputable def g19 (d : Nat) (l1 : List (Int × Int × Bool × ByteArray)) (n2 : Int) : Option (Int × (List (Int × Int × Bool × ByteArray))) := (lev Tryd.prog pvAnn d).call 19 (l1, n2)
/-- loop.example/g00838/laws.heldClassS -/
noncomputable def g48 (d : Nat) (l1 : List (Int × Int × Int × Int × Int × Int × Int × Int)) (n2 : Int) : Option Int := (lev Tryd.prog pvAnn d).call 48 (l1, n2)
/-- loop.example/g00838/laws.heldFilterS -/
noncomputable def g49 (d : Nat) (l1 : List (Int × Int × Int × Int × Int)) (n2 : Int) : Option Int := (lev Tryd.prog pvAnn d).call 49 (l1, n2)
/-- loop.example/g00838/laws.heldConfig -/
noncomputable def g21 (d : Nat) (x1 : (ByteArray × (List (Int × Int × Int × Int × Int × Int × Int × Int)) × (List (Int × Int × Int × Int × Int)) × Int)) (n2 : Int) : Option Int := (lev Tryd.prog pvAnn d).call 21 (x1, n2)
/-- loop.example/g00838/laws.markClassS -/
noncomputable def g46 (d : Nat) (l1 : List (Int × Int × Int × Int × Int × Int × Int × Int)) (n2 : Int) : Option (Int × (List (Int × Int × Int × Int × Int × Int × Int × Int))) := (lev Tryd.prog pvAnn d).call 46 (l1, n2)
/-- loop.example/g00838/laws.markFilterS -/
noncomputable def g47 (d : Nat) (l1 : List (Int × Int × Int × Int × Int)) (n2 : Int) : Option (Int × (List (Int × Int × Int × Int × Int))) := (lev Tryd.prog pvAnn d).call 47 (l1, n2)
/-- loop.example/g00838/laws.FnExactAttrsConfig -/
noncomputable def g5 (d : Nat) (l1 : List (Int × Int × Bool × ByteArray)) : Option Bool := (lev Tryd.prog pvAnn d).call 5 (l1)

theorem e36 (d : Nat) (x1 : (Int × Int × Bool × ByteArray)) (n2 : Int) : g36 (d + 1) x1 n2 =
 oif (decide (((IntKind.i64.wrap (n2 - ((x1.2.2.2 : ByteArray).size : Int))) : Int) < 0)) (
 some (-1)) (
 some (IntKind.i64.wrap (n2 - ((x1.2.2.2 : ByteArray).size : Int)))) := by kernel_rfl

noncomputable def j13_0 (d : Nat)  (n4 : Int) (n5 : Int) : Option Int :=
 some n4
noncomputable def l13_0_b (d : Nat) (l1 : List (Int × Int × Bool × ByteArray)) (kx13_0_0 : Int → Int → Option Int) (ag3 : (Int × Int × Int) → Option Int) (n4 : Int) (n5 : Int) (n6 : Int) : Option Int :=
 oif (decide ((n6 : Int) < ((l1.length : Nat) : Int))) (
 oif (decide (0 ≤ (n6 : Int))) (
 obind (l1[(n6 : Int).toNat]?) fun x7 =>
 obind (g36 d x7 n4) fun r8 =>
 oif (decide ((r8 : Int) < 0)) (
 some (-1)) (
 ag3 (r8, n5, (IntKind.i64.wrap (n6 + 1))))) none) (
 kx13_0_0 n4 n5)
noncomputable def l13_0 (d : Nat) (l1 : List (Int × Int × Bool × ByteArray)) (kx13_0_0 : Int → Int → Option Int) (ag3 : (Int × Int × Int) → Option Int) (s : (Int × Int × Int)) : Option Int := l13_0_b d l1 kx13_0_0 ag3 s.1 s.2.1 s.2.2
theorem e13 (d : Nat) (l1 : List (Int × Int × Bool × ByteArray)) (n2 : Int) : g13 (d + 1) l1 n2 =
 oif (decide (((IntKind.i64.wrap (n2 - ((l1.length : Nat) : Int))) : Int) < 0)) (
 some (-1)) (
 iterP (l13_0 d l1 (j13_0 d)) fuelN ((IntKind.i64.wrap (n2 - ((l1.length : Nat) : Int))), 0, 0)) := by kernel_rfl

theorem e31 (d : Nat) (n1 : Int) (n2 : Int) (n3 : Int) : g31 (d + 1) n1 n2 n3 =
 oif (decide ((n1 : Int) ≥ n2)) (
 some (decide ((n1 : Int) ≤ n3))) (
 some false) := by kernel_rfl

theorem e64 (d : Nat) (n1 : Int) (n2 : Int) : g64 (d + 1) n1 n2 =
 oif (decide ((n1 : Int) < n2)) (
 some n1) (
 some n2) := by kernel_rfl

noncomputable def j37_0 (d : Nat) (l1 : List (Int × Int × Bool × ByteArray)) (b3 : Bool) : Option Bool :=
 some (decide ((((l1.length : Nat) : Int) : Int) ≤ 400))
noncomputable def j37_1 (d : Nat) (ag2 : (Bool × Int) → Option Bool) (b3 : Bool) (n4 : Int) (n8 : Int) (b9 : Bool) (b10 : Bool) (b11 : Bool) (b12 : Bool) (b13 : Bool) (b14 : Bool) (b15 : Bool) (b16 : Bool) : Option Bool :=
 oif b16 (
 some false) (
 ag2 (b3, (IntKind.i64.wrap (n4 + 1))))
noncomputable def j37_2 (d : Nat) (ag2 : (Bool × Int) → Option Bool) (b3 : Bool) (n4 : Int) (x5 : (Int × Int × Bool × ByteArray)) (n6 : Int) (b7 : Bool) : Option Bool :=
 obind (g64 d n6 8) fun r8 =>
 obind (g31 d x5.1 1 r8) fun r9 =>
 oif (!r9) (
 j37_1 d ag2 b3 n4 r8 r9 (!r9) true true true true true true) (
 obind (g31 d x5.2.1 0 32767) fun r10 =>
 oif (!r10) (
 j37_1 d ag2 b3 n4 r8 r9 (!r9) false (!r10) true true true true) (
 oif (decide ((((x5.2.2.2 : ByteArray).size : Int) : Int) > 1000)) (
 j37_1 d ag2 b3 n4 r8 r9 (!r9) false (!r10) false (decide ((((x5.2.2.2 : ByteArray).size : Int) : Int) > 1000)) true true) (
 oif x5.2.2.1 (
 j37_1 d ag2 b3 n4 r8 r9 (!r9) false (!r10) false (decide ((((x5.2.2.2 : ByteArray).size : Int) : Int) > 1000)) false (!((x5.2.2.2 : ByteArray).toList == ((⟨#[]⟩ : ByteArray) : ByteArray).toList))) (
 j37_1 d ag2 b3 n4 r8 r9 (!r9) false (!r10) false (decide ((((x5.2.2.2 : ByteArray).size : Int) : Int) > 1000)) false false))))
noncomputable def l37_0_b (d : Nat) (l1 : List (Int × Int × Bool × ByteArray)) (kx37_0_0 : Bool → Option Bool) (ag2 : (Bool × Int) → Option Bool) (b3 : Bool) (n4 : Int) : Option Bool :=
 oif (decide ((n4 : Int) < ((l1.length : Nat) : Int))) (
 oif (decide (0 ≤ (n4 : Int))) (
 obind (l1[(n4 : Int).toNat]?) fun x5 =>
 oif (decide ((n4 : Int) > 0)) (
 oif (decide (0 ≤ ((IntKind.i64.wrap (n4 - 1)) : Int))) (
 obind (l1[((IntKind.i64.wrap (n4 - 1)) : Int).toNat]?) fun x6 =>
 oif (decide (0 ≤ ((IntKind.i64.wrap (n4 - 1)) : Int))) (
 obind (l1[((IntKind.i64.wrap (n4 - 1)) : Int).toNat]?) fun x7 =>
 oif x7.2.2.1 (
 j37_2 d ag2 b3 n4 x5 (IntKind.i64.wrap (x6.1 + 1)) true) (
 j37_2 d ag2 b3 n4 x5 x6.1 true)) none) none) (
 j37_2 d ag2 b3 n4 x5 1 false)) none) (
 kx37_0_0 b3)
noncomputable def l37_0 (d : Nat) (l1 : List (Int × Int × Bool × ByteArray)) (kx37_0_0 : Bool → Option Bool) (ag2 : (Bool × Int) → Option Bool) (s : (Bool × Int)) : Option Bool := l37_0_b d l1 kx37_0_0 ag2 s.1 s.2
theorem e37 (d : Nat) (l1 : List (Int × Int × Bool × ByteArray)) : g37 (d + 1) l1 =
 iterP (l37_0 d l1 (j37_0 d l1)) fuelN (false, 0) := by kernel_rfl

noncomputable def j77_0 (d : Nat) (x1 : ((ByteArray × (List (Int × Int × Int × Int × Int × Int × Int × Int)) × (List (Int × Int × Int × Int × Int)) × Int) × Int × Int × (List Int))) (x2 : (Int × Int × Bool × ByteArray)) (n3 : Int) (n4 : Int) (b5 : Bool) : Option (Bool × ((ByteArray × (List (Int × Int × Int × Int × Int × Int × Int × Int)) × (List (Int × Int × Int × Int × Int)) × Int) × Int × Int × (List Int))) :=
 oif ((x2.1 : Int) == n3) (
 oif ((x2.2.1 : Int) == n4) (
 some ((x2.2.2.1 == b5), x1)) (
 some (false, x1))) (
 some (false, x1))
theorem e77 (d : Nat) (x1 : ((ByteArray × (List (Int × Int × Int × Int × Int × Int × Int × Int)) × (List (Int × Int × Int × Int × Int)) × Int) × Int × Int × (List Int))) (x2 : (Int × Int × Bool × ByteArray)) : g77 (d + 1) x1 x2 =
 oif (decide ((x1.2.2.1 : Int) > 0)) (
 j77_0 d x1 x2 3 (IntKind.i64.wrap (((x1.2.2.2.length : Nat) : Int) + 1)) false) (
 oif ((x1.2.1 : Int) == 0) (
 j77_0 d x1 x2 1 1 true) (
 oif (decide ((x1.2.1 : Int) > 2)) (
 oif ((x2.2.1 : Int) != 5) (
 oif ((x2.2.1 : Int) != 4) (
 some (false, x1)) (
 oif (decide ((((x1.1.2.2.1.length : Nat) : Int) : Int) > 0)) (
 some (false, x1)) (
 j77_0 d x1 x2 2 x2.2.1 true))) (
 j77_0 d x1 x2 2 x2.2.1 true)) (
 j77_0 d x1 x2 2 (IntKind.i64.wrap (x1.2.1 + 1)) false))) := by kernel_rfl

noncomputable def j78_0 (d : Nat) (x1 : ((ByteArray × (List (Int × Int × Int × Int × Int × Int × Int × Int)) × (List (Int × Int × Int × Int × Int)) × Int) × Int × Int × (List Int))) (x2 : (Int × Int × Bool × ByteArray)) (b3 : Bool) : Option (Bool × ((ByteArray × (List (Int × Int × Int × Int × Int × Int × Int × Int)) × (List (Int × Int × Int × Int × Int)) × Int) × Int × Int × (List Int))) :=
 oif b3 (
 some (false, x1)) (
 oif ((x2.2.1 : Int) == 4) (
 oif ((((x1.1.2.1.length : Nat) : Int) : Int) == 24) (
 some (true, x1)) (
 oif ((x2.2.1 : Int) == 5) (
 some (((((x1.1.2.2.1.length : Nat) : Int) : Int) == 16), x1)) (
 some (false, x1)))) (
 oif ((x2.2.1 : Int) == 5) (
 some (((((x1.1.2.2.1.length : Nat) : Int) : Int) == 16), x1)) (
 some (false, x1))))
theorem e78 (d : Nat) (x1 : ((ByteArray × (List (Int × Int × Int × Int × Int × Int × Int × Int)) × (List (Int × Int × Int × Int × Int)) × Int) × Int × Int × (List Int))) (x2 : (Int × Int × Bool × ByteArray)) : g78 (d + 1) x1 x2 =
 oif (decide ((x1.2.2.1 : Int) > 0)) (
 j78_0 d x1 x2 true) (
 j78_0 d x1 x2 (decide ((x1.2.1 : Int) < 3))) := by kernel_rfl

noncomputable def j107_0 (d : Nat)  (b4 : Bool) : Option Bool :=
 some false
noncomputable def l107_0_b (d : Nat) (l1 : List ByteArray) (s2 : ByteArray) (kx107_0_0 : Bool → Option Bool) (ag3 : (Bool × Int) → Option Bool) (b4 : Bool) (n5 : Int) : Option Bool :=
 oif (decide ((n5 : Int) < ((l1.length : Nat) : Int))) (
 oif (decide (0 ≤ (n5 : Int))) (
 obind (l1[(n5 : Int).toNat]?) fun s6 =>
 oif ((s6 : ByteArray).toList == (s2 : ByteArray).toList) (
 some true) (
 ag3 (b4, (IntKind.i64.wrap (n5 + 1))))) none) (
 kx107_0_0 b4)
noncomputable def l107_0 (d : Nat) (l1 : List ByteArray) (s2 : ByteArray) (kx107_0_0 : Bool → Option Bool) (ag3 : (Bool × Int) → Option Bool) (s : (Bool × Int)) : Option Bool := l107_0_b d l1 s2 kx107_0_0 ag3 s.1 s.2
theorem e107 (d : Nat) (l1 : List ByteArray) (s2 : ByteArray) : g107 (d + 1) l1 s2 =
 iterP (l107_0 d l1 s2 (j107_0 d)) fuelN (false, 0) := by kernel_rfl

theorem e108 (d : Nat)  : g108 (d + 1) =
 some [(⟨#[113, 100, 105, 115, 99]⟩ : ByteArray), (⟨#[100, 101, 102, 97, 117, 108, 116]⟩ : ByteArray), (⟨#[99, 108, 97, 115, 115]⟩ : ByteArray), (⟨#[114, 97, 116, 101]⟩ : ByteArray), (⟨#[99, 101, 105, 108]⟩ : ByteArray), (⟨#[98, 117, 114, 115, 116]⟩ : ByteArray), (⟨#[99, 98, 117, 114, 115, 116]⟩ : ByteArray), (⟨#[112, 114, 105, 111]⟩ : ByteArray), (⟨#[108, 105, 109, 105, 116]⟩ : ByteArray), (⟨#[102, 105, 108, 116, 101, 114]⟩ : ByteArray), (⟨#[115, 111, 117, 114, 99, 101]⟩ : ByteArray), (⟨#[100, 101, 115, 116]⟩ : ByteArray), (⟨#[112, 111, 114, 116]⟩ : ByteArray), (⟨#[109, 97, 114, 107]⟩ : ByteArray)] := by kernel_rfl

theorem e94 (d : Nat) (s1 : ByteArray) : g94 (d + 1) s1 =
 obind (g108 d) fun r2 =>
 obind (g107 d r2 s1) fun r3 =>
 some r3 := by kernel_rfl

noncomputable def j79_0 (d : Nat) (s1 : ByteArray) (b3 : Bool) : Option Bool :=
 obind (g31 d ((s1 : ByteArray).size : Int) 1 8) fun r4 =>
 oif r4 (
 obind (g94 d s1) fun r5 =>
 some (!r5)) (
 some false)
noncomputable def l79_0_b (d : Nat) (s1 : ByteArray) (kx79_0_0 : Bool → Option Bool) (ag2 : (Bool × Int) → Option Bool) (b3 : Bool) (n4 : Int) : Option Bool :=
 oif (decide ((n4 : Int) < ((s1 : ByteArray).size : Int))) (
 oif (decide (0 ≤ (n4 : Int))) (
 obind ((s1 : ByteArray).data.toList[(n4 : Int).toNat]?) fun c5 =>
 oif (decide (((c5.toNat : Int) : Int) < 97)) (
 some false) (
 oif (decide (0 ≤ (n4 : Int))) (
 obind ((s1 : ByteArray).data.toList[(n4 : Int).toNat]?) fun c6 =>
 oif (decide (((c6.toNat : Int) : Int) > 122)) (
 some false) (
 ag2 (b3, (IntKind.i64.wrap (n4 + 1))))) none)) none) (
 kx79_0_0 b3)
noncomputable def l79_0 (d : Nat) (s1 : ByteArray) (kx79_0_0 : Bool → Option Bool) (ag2 : (Bool × Int) → Option Bool) (s : (Bool × Int)) : Option Bool := l79_0_b d s1 kx79_0_0 ag2 s.1 s.2
theorem e79 (d : Nat) (s1 : ByteArray) : g79 (d + 1) s1 =
 iterP (l79_0 d s1 (j79_0 d s1)) fuelN (false, 0) := by kernel_rfl

theorem e95 (d : Nat) (s1 : ByteArray) (n2 : Int) : g95 (d + 1) s1 n2 =
 oif (decide (0 ≤ (n2 : Int))) (
 obind ((s1 : ByteArray).data.toList[(n2 : Int).toNat]?) fun c3 =>
 oif (decide (0 ≤ ((IntKind.i64.wrap (n2 + 1)) : Int))) (
 obind ((s1 : ByteArray).data.toList[((IntKind.i64.wrap (n2 + 1)) : Int).toNat]?) fun c4 =>
 some (IntKind.i64.wrap ((IntKind.i64.wrap (c3.toNat : Int)) + (IntKind.i64.wrap ((256 : Int) * (IntKind.i64.wrap (c4.toNat : Int))))))) none) none := by kernel_rfl

theorem e96 (d : Nat) (n1 : Int) : g96 (d + 1) n1 =
 obind (g31 d n1 0 1000000000) fun r2 =>
 some r2 := by kernel_rfl

theorem e80 (d : Nat) (s1 : ByteArray) : g80 (d + 1) s1 =
 oif ((((s1 : ByteArray).size : Int) : Int) != 4) (
 some (-1)) (
 obind (g95 d s1 0) fun r2 =>
 obind (g95 d s1 2) fun r3 =>
 obind (g96 d (IntKind.i64.wrap (r2 + (IntKind.i64.wrap ((65536 : Int) * r3))))) fun r4 =>
 oif (!r4) (
 some (-1)) (
 some (IntKind.i64.wrap (r2 + (IntKind.i64.wrap ((65536 : Int) * r3)))))) := by kernel_rfl

noncomputable def j81_0 (d : Nat) (x1 : ((ByteArray × (List (Int × Int × Int × Int × Int × Int × Int × Int)) × (List (Int × Int × Int × Int × Int)) × Int) × Int × Int × (List Int))) (n2 : Int) (b12 : Bool) : Option ((ByteArray × (List (Int × Int × Int × Int × Int × Int × Int × Int)) × (List (Int × Int × Int × Int × Int)) × Int) × Int × Int × (List Int)) :=
 oif b12 (
 oif (Nat.blt 0 ((x1.2.2.2 ++ [n2]).length)) (
 obind ((x1.2.2.2 ++ [n2])[0]?) fun n13 =>
 oif (Nat.blt 1 ((x1.2.2.2 ++ [n2]).length)) (
 obind ((x1.2.2.2 ++ [n2])[1]?) fun n14 =>
 oif (Nat.blt 2 ((x1.2.2.2 ++ [n2]).length)) (
 obind ((x1.2.2.2 ++ [n2])[2]?) fun n15 =>
 oif (Nat.blt 3 ((x1.2.2.2 ++ [n2]).length)) (
 obind ((x1.2.2.2 ++ [n2])[3]?) fun n16 =>
 oif (Nat.blt 4 ((x1.2.2.2 ++ [n2]).length)) (
 obind ((x1.2.2.2 ++ [n2])[4]?) fun n17 =>
 oif (Nat.ble ((x1.1.2.2.1.length + [(n13, n14, n15, n16, n17)].length) * 40) roomMax) (
 some ((x1.1.1, x1.1.2.1, (x1.1.2.2.1 ++ [(n13, n14, n15, n16, n17)]), x1.1.2.2.2), x1.2.1, 0, (x1.2.2.2 ++ [n2]))) none) none) none) none) none) none) (
 some (x1.1, x1.2.1, x1.2.2.1, (x1.2.2.2 ++ [n2])))
noncomputable def j81_1 (d : Nat) (x1 : ((ByteArray × (List (Int × Int × Int × Int × Int × Int × Int × Int)) × (List (Int × Int × Int × Int × Int)) × Int) × Int × Int × (List Int))) (n2 : Int) (b3 : Bool) : Option ((ByteArray × (List (Int × Int × Int × Int × Int × Int × Int × Int)) × (List (Int × Int × Int × Int × Int)) × Int) × Int × Int × (List Int)) :=
 oif b3 (
 oif (Nat.blt 0 ((x1.2.2.2 ++ [n2]).length)) (
 obind ((x1.2.2.2 ++ [n2])[0]?) fun n4 =>
 oif (Nat.blt 1 ((x1.2.2.2 ++ [n2]).length)) (
 obind ((x1.2.2.2 ++ [n2])[1]?) fun n5 =>
 oif (Nat.blt 2 ((x1.2.2.2 ++ [n2]).length)) (
 obind ((x1.2.2.2 ++ [n2])[2]?) fun n6 =>
 oif (Nat.blt 3 ((x1.2.2.2 ++ [n2]).length)) (
 obind ((x1.2.2.2 ++ [n2])[3]?) fun n7 =>
 oif (Nat.blt 4 ((x1.2.2.2 ++ [n2]).length)) (
 obind ((x1.2.2.2 ++ [n2])[4]?) fun n8 =>
 oif (Nat.blt 5 ((x1.2.2.2 ++ [n2]).length)) (
 obind ((x1.2.2.2 ++ [n2])[5]?) fun n9 =>
 oif (Nat.blt 6 ((x1.2.2.2 ++ [n2]).length)) (
 obind ((x1.2.2.2 ++ [n2])[6]?) fun n10 =>
 oif (Nat.blt 7 ((x1.2.2.2 ++ [n2]).length)) (
 obind ((x1.2.2.2 ++ [n2])[7]?) fun n11 =>
 oif (Nat.ble ((x1.1.2.1.length + [(n4, n5, n6, n7, n8, n9, n10, n11)].length) * 64) roomMax) (
 some ((x1.1.1, (x1.1.2.1 ++ [(n4, n5, n6, n7, n8, n9, n10, n11)]), x1.1.2.2), x1.2.1, 0, (x1.2.2.2 ++ [n2]))) none) none) none) none) none) none) none) none) none) (
 oif ((x1.2.2.1 : Int) == 5) (
 j81_0 d x1 n2 (((((x1.2.2.2 ++ [n2]).length : Nat) : Int) : Int) == 5)) (
 j81_0 d x1 n2 false))
theorem e81 (d : Nat) (x1 : ((ByteArray × (List (Int × Int × Int × Int × Int × Int × Int × Int)) × (List (Int × Int × Int × Int × Int)) × Int) × Int × Int × (List Int))) (n2 : Int) : g81 (d + 1) x1 n2 =
 oif (Nat.ble ((x1.2.2.2.length + [n2].length) * 8) roomMax) (
 oif ((x1.2.2.1 : Int) == 4) (
 j81_1 d x1 n2 (((((x1.2.2.2 ++ [n2]).length : Nat) : Int) : Int) == 8)) (
 j81_1 d x1 n2 false)) none := by kernel_rfl

noncomputable def j65_0 (d : Nat) (x2 : (Int × Int × Bool × ByteArray)) (s3 : ByteArray) (n4 : Int) (n5 : Int) (n6 : Int) (l7 : List (Int × Int × Int × Int × Int × Int × Int × Int)) (l8 : List (Int × Int × Int × Int × Int)) (l9 : List Int) : Option (Int × ((ByteArray × (List (Int × Int × Int × Int × Int × Int × Int × Int)) × (List (Int × Int × Int × Int × Int)) × Int) × Int × Int × (List Int))) :=
 obind (g80 d x2.2.2.2) fun r10 =>
 oif (decide ((r10 : Int) < 0)) (
 some (3, ((s3, l7, l8, n4), n5, n6, l9))) (
 oif (decide ((n6 : Int) > 0)) (
 obind (g81 d ((s3, l7, l8, n4), n5, n6, l9) r10) fun r11 =>
 some (0, r11)) (
 some (0, ((s3, l7, l8, r10), (IntKind.i64.wrap (n5 + 1)), n6, l9))))
noncomputable def j65_1 (d : Nat) (x2 : (Int × Int × Bool × ByteArray)) (r4 : (Bool × ((ByteArray × (List (Int × Int × Int × Int × Int × Int × Int × Int)) × (List (Int × Int × Int × Int × Int)) × Int) × Int × Int × (List Int)))) (b5 : Bool) : Option (Int × ((ByteArray × (List (Int × Int × Int × Int × Int × Int × Int × Int)) × (List (Int × Int × Int × Int × Int)) × Int) × Int × Int × (List Int))) :=
 oif b5 (
 some (0, (r4.2.1, r4.2.2.1, x2.2.1, []))) (
 oif ((r4.2.2.1 : Int) == 1) (
 obind (g79 d x2.2.2.2) fun r6 =>
 oif (!r6) (
 some (7, ((x2.2.2.2, r4.2.1.2), (IntKind.i64.wrap (r4.2.2.1 + 1)), r4.2.2.2))) (
 some (0, ((x2.2.2.2, r4.2.1.2), (IntKind.i64.wrap (r4.2.2.1 + 1)), r4.2.2.2)))) (
 oif ((r4.2.2.1 : Int) == 0) (
 some (0, (r4.2.1, (IntKind.i64.wrap (r4.2.2.1 + 1)), r4.2.2.2))) (
 j65_0 d x2 r4.2.1.1 r4.2.1.2.2.2 r4.2.2.1 r4.2.2.2.1 r4.2.1.2.1 r4.2.1.2.2.1 r4.2.2.2.2)))
theorem e65 (d : Nat) (x1 : ((ByteArray × (List (Int × Int × Int × Int × Int × Int × Int × Int)) × (List (Int × Int × Int × Int × Int)) × Int) × Int × Int × (List Int))) (x2 : (Int × Int × Bool × ByteArray)) : g65 (d + 1) x1 x2 =
 obind (g77 d x1 x2) fun r3 =>
 oif (!r3.1) (
 some (2, r3.2)) (
 obind (g78 d r3.2 x2) fun r4 =>
 oif r4.1 (
 some (5, r4.2)) (
 oif ((r4.2.2.2.1 : Int) == 0) (
 j65_1 d x2 r4 (decide ((r4.2.2.1 : Int) > 2))) (
 j65_1 d x2 r4 false))) := by kernel_rfl

noncomputable def j38_0 (d : Nat) (l1 : List (Int × Int × Bool × ByteArray)) (n3 : Int) (n4 : Int) (s5 : ByteArray) (n6 : Int) (n7 : Int) (n8 : Int) (l9 : List (Int × Int × Int × Int × Int × Int × Int × Int)) (l10 : List (Int × Int × Int × Int × Int)) (l11 : List Int) : Option ((ByteArray × (List (Int × Int × Int × Int × Int × Int × Int × Int)) × (List (Int × Int × Int × Int × Int)) × Int) × Int × Int) :=
 oif (decide ((n7 : Int) < 3)) (
 some (((⟨#[]⟩ : ByteArray), [], [], 0), ((l1.length : Nat) : Int), 6)) (
 oif (decide ((n8 : Int) > 0)) (
 some (((⟨#[]⟩ : ByteArray), [], [], 0), ((l1.length : Nat) : Int), 6)) (
 some ((s5, l9, l10, n6), 0, 0)))
noncomputable def l38_0_b (d : Nat) (l1 : List (Int × Int × Bool × ByteArray)) (kx38_0_0 : Int → Int → ByteArray → Int → Int → Int → (List (Int × Int × Int × Int × Int × Int × Int × Int)) → (List (Int × Int × Int × Int × Int)) → (List Int) → Option ((ByteArray × (List (Int × Int × Int × Int × Int × Int × Int × Int)) × (List (Int × Int × Int × Int × Int)) × Int) × Int × Int)) (ag2 : (Int × Int × Int × ((ByteArray × (List (Int × Int × Int × Int × Int × Int × Int × Int)) × (List (Int × Int × Int × Int × Int)) × Int) × Int × Int × (List Int))) → Option ((ByteArray × (List (Int × Int × Int × Int × Int × Int × Int × Int)) × (List (Int × Int × Int × Int × Int)) × Int) × Int × Int)) (n3 : Int) (n4 : Int) (n5 : Int) (x6 : ((ByteArray × (List (Int × Int × Int × Int × Int × Int × Int × Int)) × (List (Int × Int × Int × Int × Int)) × Int) × Int × Int × (List Int))) : Option ((ByteArray × (List (Int × Int × Int × Int × Int × Int × Int × Int)) × (List (Int × Int × Int × Int × Int)) × Int) × Int × Int) :=
 oif (decide ((n5 : Int) < ((l1.length : Nat) : Int))) (
 oif (decide (0 ≤ (n5 : Int))) (
 obind (l1[(n5 : Int).toNat]?) fun x7 =>
 obind (g65 d x6 x7) fun r8 =>
 oif (decide ((r8.1 : Int) > 0)) (
 some (((⟨#[]⟩ : ByteArray), [], [], 0), n5, r8.1)) (
 ag2 (n3, n4, (IntKind.i64.wrap (n5 + 1)), r8.2))) none) (
 kx38_0_0 n3 n4 x6.1.1 x6.1.2.2.2 x6.2.1 x6.2.2.1 x6.1.2.1 x6.1.2.2.1 x6.2.2.2)
noncomputable def l38_0 (d : Nat) (l1 : List (Int × Int × Bool × ByteArray)) (kx38_0_0 : Int → Int → ByteArray → Int → Int → Int → (List (Int × Int × Int × Int × Int × Int × Int × Int)) → (List (Int × Int × Int × Int × Int)) → (List Int) → Option ((ByteArray × (List (Int × Int × Int × Int × Int × Int × Int × Int)) × (List (Int × Int × Int × Int × Int)) × Int) × Int × Int)) (ag2 : (Int × Int × Int × ((ByteArray × (List (Int × Int × Int × Int × Int × Int × Int × Int)) × (List (Int × Int × Int × Int × Int)) × Int) × Int × Int × (List Int))) → Option ((ByteArray × (List (Int × Int × Int × Int × Int × Int × Int × Int)) × (List (Int × Int × Int × Int × Int)) × Int) × Int × Int)) (s : (Int × Int × Int × ((ByteArray × (List (Int × Int × Int × Int × Int × Int × Int × Int)) × (List (Int × Int × Int × Int × Int)) × Int) × Int × Int × (List Int)))) : Option ((ByteArray × (List (Int × Int × Int × Int × Int × Int × Int × Int)) × (List (Int × Int × Int × Int × Int)) × Int) × Int × Int) := l38_0_b d l1 kx38_0_0 ag2 s.1 s.2.1 s.2.2.1 s.2.2.2
theorem e38 (d : Nat) (l1 : List (Int × Int × Bool × ByteArray)) : g38 (d + 1) l1 =
 iterP (l38_0 d l1 (j38_0 d l1)) fuelN (0, 0, 0, (((⟨#[]⟩ : ByteArray), [], [], 0), 0, 0, [])) := by kernel_rfl

theorem e14 (d : Nat) (l1 : List (Int × Int × Bool × ByteArray)) : g14 (d + 1) l1 =
 obind (g37 d l1) fun r2 =>
 oif (!r2) (
 some (((⟨#[]⟩ : ByteArray), [], [], 0), false)) (
 obind (g38 d l1) fun r3 =>
 some (r3.1, ((r3.2.2 : Int) == 0))) := by kernel_rfl

theorem e39 (d : Nat) (x1 : (Int × Int × Bool × ByteArray)) : g39 (d + 1) x1 =
 some x1 := by kernel_rfl

noncomputable def j15_0 (d : Nat)  (l3 : List (Int × Int × Bool × ByteArray)) : Option (List (Int × Int × Bool × ByteArray)) :=
 some l3
noncomputable def l15_0_b (d : Nat) (l1 : List (Int × Int × Bool × ByteArray)) (kx15_0_0 : (List (Int × Int × Bool × ByteArray)) → Option (List (Int × Int × Bool × ByteArray))) (ag2 : (Int × (List (Int × Int × Bool × ByteArray))) → Option (List (Int × Int × Bool × ByteArray))) (n3 : Int) (l4 : List (Int × Int × Bool × ByteArray)) : Option (List (Int × Int × Bool × ByteArray)) :=
 oif (decide ((n3 : Int) < ((l1.length : Nat) : Int))) (
 oif (decide (0 ≤ (n3 : Int))) (
 obind (l1[(n3 : Int).toNat]?) fun x5 =>
 obind (g39 d x5) fun r6 =>
 oif (decide (0 ≤ (n3 : Int))) (
 oif (Nat.blt ((n3 : Int).toNat) l4.length) (
 obind (l4[(n3 : Int).toNat]?) fun x7 =>
 ag2 ((IntKind.i64.wrap (n3 + 1)), (l4.set ((n3 : Int).toNat) r6))) none) none) none) (
 kx15_0_0 l4)
noncomputable def l15_0 (d : Nat) (l1 : List (Int × Int × Bool × ByteArray)) (kx15_0_0 : (List (Int × Int × Bool × ByteArray)) → Option (List (Int × Int × Bool × ByteArray))) (ag2 : (Int × (List (Int × Int × Bool × ByteArray))) → Option (List (Int × Int × Bool × ByteArray))) (s : (Int × (List (Int × Int × Bool × ByteArray)))) : Option (List (Int × Int × Bool × ByteArray)) := l15_0_b d l1 kx15_0_0 ag2 s.1 s.2
theorem e15 (d : Nat) (l1 : List (Int × Int × Bool × ByteArray)) : g15 (d + 1) l1 =
 oif (decide (0 ≤ (((l1.length : Nat) : Int) : Int))) (
 oif (decide (0 ≤ (((l1.length : Nat) : Int) : Int))) (
 oif (Nat.ble ((((l1.length : Nat) : Int) : Int).toNat) ((((l1.length : Nat) : Int) : Int).toNat) && Nat.ble (((((l1.length : Nat) : Int) : Int).toNat) * 40) roomMax) (
 iterP (l15_0 d l1 (j15_0 d)) fuelN (0, (List.replicate ((((l1.length : Nat) : Int) : Int).toNat) ((0, 0, false, (⟨#[]⟩ : ByteArray)) : (Int × Int × Bool × ByteArray))))) none) none) none := by kernel_rfl

noncomputable def j40_0 (d : Nat)  (b3 : Bool) : Option Bool :=
 some true
noncomputable def j40_1 (d : Nat) (ag2 : (Bool × Int) → Option Bool) (b3 : Bool) (n4 : Int) (x5 : (Int × Int × Bool × ByteArray)) (n16 : Int) (b17 : Bool) : Option Bool :=
 oif (decide ((x5.1 : Int) > n16)) (
 some false) (
 ag2 (b3, (IntKind.i64.wrap (n4 + 1))))
noncomputable def j40_2 (d : Nat) (l1 : List (Int × Int × Bool × ByteArray)) (ag2 : (Bool × Int) → Option Bool) (b3 : Bool) (n4 : Int) (x5 : (Int × Int × Bool × ByteArray)) (b6 : Bool) (b7 : Bool) (b8 : Bool) (b9 : Bool) (b10 : Bool) (b11 : Bool) (b12 : Bool) (b13 : Bool) (b14 : Bool) (b15 : Bool) : Option Bool :=
 oif b15 (
 some false) (
 oif (decide ((n4 : Int) > 0)) (
 oif (decide (0 ≤ ((IntKind.i64.wrap (n4 - 1)) : Int))) (
 obind (l1[((IntKind.i64.wrap (n4 - 1)) : Int).toNat]?) fun x16 =>
 oif (decide (0 ≤ ((IntKind.i64.wrap (n4 - 1)) : Int))) (
 obind (l1[((IntKind.i64.wrap (n4 - 1)) : Int).toNat]?) fun x17 =>
 oif x17.2.2.1 (
 j40_1 d ag2 b3 n4 x5 (IntKind.i64.wrap (x16.1 + 1)) true) (
 j40_1 d ag2 b3 n4 x5 x16.1 true)) none) none) (
 j40_1 d ag2 b3 n4 x5 1 false))
noncomputable def l40_0_b (d : Nat) (l1 : List (Int × Int × Bool × ByteArray)) (kx40_0_0 : Bool → Option Bool) (ag2 : (Bool × Int) → Option Bool) (b3 : Bool) (n4 : Int) : Option Bool :=
 oif (decide ((n4 : Int) < ((l1.length : Nat) : Int))) (
 oif (decide (0 ≤ (n4 : Int))) (
 obind (l1[(n4 : Int).toNat]?) fun x5 =>
 oif (decide ((x5.1 : Int) < 1)) (
 j40_2 d l1 ag2 b3 n4 x5 true true true true true true true true true true) (
 oif (decide ((x5.1 : Int) > 8)) (
 j40_2 d l1 ag2 b3 n4 x5 false (decide ((x5.1 : Int) > 8)) true true true true true true true true) (
 oif (decide ((x5.2.1 : Int) < 0)) (
 j40_2 d l1 ag2 b3 n4 x5 false (decide ((x5.1 : Int) > 8)) false (decide ((x5.2.1 : Int) < 0)) true true true true true true) (
 oif (decide ((x5.2.1 : Int) > 32767)) (
 j40_2 d l1 ag2 b3 n4 x5 false (decide ((x5.1 : Int) > 8)) false (decide ((x5.2.1 : Int) < 0)) false (decide ((x5.2.1 : Int) > 32767)) true true true true) (
 oif (decide ((((x5.2.2.2 : ByteArray).size : Int) : Int) > 1000)) (
 j40_2 d l1 ag2 b3 n4 x5 false (decide ((x5.1 : Int) > 8)) false (decide ((x5.2.1 : Int) < 0)) false (decide ((x5.2.1 : Int) > 32767)) false (decide ((((x5.2.2.2 : ByteArray).size : Int) : Int) > 1000)) true true) (
 oif x5.2.2.1 (
 j40_2 d l1 ag2 b3 n4 x5 false (decide ((x5.1 : Int) > 8)) false (decide ((x5.2.1 : Int) < 0)) false (decide ((x5.2.1 : Int) > 32767)) false (decide ((((x5.2.2.2 : ByteArray).size : Int) : Int) > 1000)) false (!((x5.2.2.2 : ByteArray).toList == ((⟨#[]⟩ : ByteArray) : ByteArray).toList))) (
 j40_2 d l1 ag2 b3 n4 x5 false (decide ((x5.1 : Int) > 8)) false (decide ((x5.2.1 : Int) < 0)) false (decide ((x5.2.1 : Int) > 32767)) false (decide ((((x5.2.2.2 : ByteArray).size : Int) : Int) > 1000)) false false))))))) none) (
 kx40_0_0 b3)
noncomputable def l40_0 (d : Nat) (l1 : List (Int × Int × Bool × ByteArray)) (kx40_0_0 : Bool → Option Bool) (ag2 : (Bool × Int) → Option Bool) (s : (Bool × Int)) : Option Bool := l40_0_b d l1 kx40_0_0 ag2 s.1 s.2
theorem e40 (d : Nat) (l1 : List (Int × Int × Bool × ByteArray)) : g40 (d + 1) l1 =
 oif (decide ((((l1.length : Nat) : Int) : Int) > 400)) (
 some false) (
 iterP (l40_0 d l1 (j40_0 d)) fuelN (false, 0)) := by kernel_rfl

theorem e68 (d : Nat) (x1 : ((List (Int × Int × Bool × ByteArray)) × Int × Int)) (n2 : Int) : g68 (d + 1) x1 n2 =
 oif ((x1.2.2 : Int) == 0) (
 some (x1.1, x1.2.1, n2)) (
 some x1) := by kernel_rfl

theorem e66 (d : Nat) (x1 : ((List (Int × Int × Bool × ByteArray)) × Int × Int)) (n2 : Int) (n3 : Int) (b4 : Bool) : g66 (d + 1) x1 n2 n3 b4 =
 oif ((x1.2.2 : Int) != 0) (
 some ((⟨#[]⟩ : ByteArray), x1)) (
 oif ((x1.2.1 : Int) == ((x1.1.length : Nat) : Int)) (
 obind (g68 d x1 6) fun r5 =>
 some ((⟨#[]⟩ : ByteArray), r5)) (
 oif (decide (0 ≤ (x1.2.1 : Int))) (
 obind (x1.1[(x1.2.1 : Int).toNat]?) fun x6 =>
 oif ((x6.1 : Int) != n2) (
 obind (g68 d x1 2) fun r7 =>
 some ((⟨#[]⟩ : ByteArray), r7)) (
 oif ((x6.2.1 : Int) != n3) (
 obind (g68 d x1 2) fun r8 =>
 some ((⟨#[]⟩ : ByteArray), r8)) (
 oif (!(x6.2.2.1 == b4)) (
 obind (g68 d x1 2) fun r9 =>
 some ((⟨#[]⟩ : ByteArray), r9)) (
 some (x6.2.2.2, (x1.1, (IntKind.i64.wrap (x1.2.1 + 1)), x1.2.2)))))) none)) := by kernel_rfl

theorem e82 (d : Nat) (n1 : Int) : g82 (d + 1) n1 =
 oif (decide ((n1 : Int) ≥ 97)) (
 some (decide ((n1 : Int) ≤ 122))) (
 some false) := by kernel_rfl

noncomputable def j83_0 (d : Nat)  (b3 : Bool) : Option Bool :=
 some false
noncomputable def l83_0_b (d : Nat) (s1 : ByteArray) (kx83_0_0 : Bool → Option Bool) (ag2 : (Bool × Int) → Option Bool) (b3 : Bool) (n4 : Int) : Option Bool :=
 oif (decide ((n4 : Int) < 14)) (
 oif (decide (0 ≤ (n4 : Int))) (
 obind (([(⟨#[113, 100, 105, 115, 99]⟩ : ByteArray), (⟨#[100, 101, 102, 97, 117, 108, 116]⟩ : ByteArray), (⟨#[99, 108, 97, 115, 115]⟩ : ByteArray), (⟨#[114, 97, 116, 101]⟩ : ByteArray), (⟨#[99, 101, 105, 108]⟩ : ByteArray), (⟨#[98, 117, 114, 115, 116]⟩ : ByteArray), (⟨#[99, 98, 117, 114, 115, 116]⟩ : ByteArray), (⟨#[112, 114, 105, 111]⟩ : ByteArray), (⟨#[108, 105, 109, 105, 116]⟩ : ByteArray), (⟨#[102, 105, 108, 116, 101, 114]⟩ : ByteArray), (⟨#[115, 111, 117, 114, 99, 101]⟩ : ByteArray), (⟨#[100, 101, 115, 116]⟩ : ByteArray), (⟨#[112, 111, 114, 116]⟩ : ByteArray), (⟨#[109, 97, 114, 107]⟩ : ByteArray)] : List ByteArray)[(n4 : Int).toNat]?) fun s5 =>
 oif ((s5 : ByteArray).toList == (s1 : ByteArray).toList) (
 some true) (
 ag2 (b3, (IntKind.i64.wrap (n4 + 1))))) none) (
 kx83_0_0 b3)
noncomputable def l83_0 (d : Nat) (s1 : ByteArray) (kx83_0_0 : Bool → Option Bool) (ag2 : (Bool × Int) → Option Bool) (s : (Bool × Int)) : Option Bool := l83_0_b d s1 kx83_0_0 ag2 s.1 s.2
theorem e83 (d : Nat) (s1 : ByteArray) : g83 (d + 1) s1 =
 iterP (l83_0 d s1 (j83_0 d)) fuelN (false, 0) := by kernel_rfl

noncomputable def j67_0 (d : Nat) (s1 : ByteArray) (b4 : Bool) : Option Bool :=
 obind (g83 d s1) fun r5 =>
 some (!r5)
noncomputable def l67_0_b (d : Nat) (s1 : ByteArray) (kx67_0_0 : Bool → Option Bool) (ag3 : (Bool × Int) → Option Bool) (b4 : Bool) (n5 : Int) : Option Bool :=
 oif (decide ((n5 : Int) < ((s1 : ByteArray).size : Int))) (
 oif (decide (0 ≤ (n5 : Int))) (
 obind ((s1 : ByteArray).data.toList[(n5 : Int).toNat]?) fun c6 =>
 obind (g82 d (c6.toNat : Int)) fun r7 =>
 oif (!r7) (
 some false) (
 ag3 (b4, (IntKind.i64.wrap (n5 + 1))))) none) (
 kx67_0_0 b4)
noncomputable def l67_0 (d : Nat) (s1 : ByteArray) (kx67_0_0 : Bool → Option Bool) (ag3 : (Bool × Int) → Option Bool) (s : (Bool × Int)) : Option Bool := l67_0_b d s1 kx67_0_0 ag3 s.1 s.2
noncomputable def j67_1 (d : Nat) (s1 : ByteArray) (b2 : Bool) : Option Bool :=
 oif b2 (
 some false) (
 iterP (l67_0 d s1 (j67_0 d s1)) fuelN (false, 0))
theorem e67 (d : Nat) (s1 : ByteArray) : g67 (d + 1) s1 =
 oif (decide ((((s1 : ByteArray).size : Int) : Int) < 1)) (
 j67_1 d s1 true) (
 j67_1 d s1 (decide ((((s1 : ByteArray).size : Int) : Int) > 8))) := by kernel_rfl

theorem e84 (d : Nat) (s1 : ByteArray) : g84 (d + 1) s1 =
 oif ((((s1 : ByteArray).size : Int) : Int) != 4) (
 some (0, false)) (
 obind ((s1 : ByteArray).data.toList[0]?) fun c2 =>
 obind ((s1 : ByteArray).data.toList[1]?) fun c3 =>
 obind ((s1 : ByteArray).data.toList[2]?) fun c4 =>
 obind ((s1 : ByteArray).data.toList[3]?) fun c5 =>
 oif (decide (((IntKind.i64.wrap ((BitVec.ofInt IntKind.i64.bits (IntKind.i64.wrap ((BitVec.ofInt IntKind.i64.bits (IntKind.i64.wrap ((BitVec.ofInt IntKind.i64.bits (IntKind.i64.wrap (c2.toNat : Int)) ||| BitVec.ofInt IntKind.i64.bits (IntKind.i64.wrap ((IntKind.i64.wrap (c3.toNat : Int)) * 2 ^ (min (8 : Int).toNat IntKind.i64.bits)))).toNat : Int)) ||| BitVec.ofInt IntKind.i64.bits (IntKind.i64.wrap ((IntKind.i64.wrap (c4.toNat : Int)) * 2 ^ (min (16 : Int).toNat IntKind.i64.bits)))).toNat : Int)) ||| BitVec.ofInt IntKind.i64.bits (IntKind.i64.wrap ((IntKind.i64.wrap (c5.toNat : Int)) * 2 ^ (min (24 : Int).toNat IntKind.i64.bits)))).toNat : Int)) : Int) > 1000000000)) (
 some (0, false)) (
 some ((IntKind.i64.wrap ((BitVec.ofInt IntKind.i64.bits (IntKind.i64.wrap ((BitVec.ofInt IntKind.i64.bits (IntKind.i64.wrap ((BitVec.ofInt IntKind.i64.bits (IntKind.i64.wrap (c2.toNat : Int)) ||| BitVec.ofInt IntKind.i64.bits (IntKind.i64.wrap ((IntKind.i64.wrap (c3.toNat : Int)) * 2 ^ (min (8 : Int).toNat IntKind.i64.bits)))).toNat : Int)) ||| BitVec.ofInt IntKind.i64.bits (IntKind.i64.wrap ((IntKind.i64.wrap (c4.toNat : Int)) * 2 ^ (min (16 : Int).toNat IntKind.i64.bits)))).toNat : Int)) ||| BitVec.ofInt IntKind.i64.bits (IntKind.i64.wrap ((IntKind.i64.wrap (c5.toNat : Int)) * 2 ^ (min (24 : Int).toNat IntKind.i64.bits)))).toNat : Int)), true))) := by kernel_rfl

theorem e69 (d : Nat) (x1 : ((List (Int × Int × Bool × ByteArray)) × Int × Int)) (n2 : Int) (n3 : Int) : g69 (d + 1) x1 n2 n3 =
 obind (g66 d x1 n2 n3 false) fun r4 =>
 oif ((r4.2.2.2 : Int) != 0) (
 some (0, r4.2)) (
 obind (g84 d r4.1) fun r5 =>
 oif (!r5.2) (
 obind (g68 d (r4.2.1, (IntKind.i64.wrap (r4.2.2.1 - 1)), r4.2.2.2) 3) fun r6 =>
 some (r5.1, r6)) (
 some (r5.1, r4.2))) := by kernel_rfl

noncomputable def j70_0 (d : Nat) (x1 : ((List (Int × Int × Bool × ByteArray)) × Int × Int)) (n3 : Int) (n4 : Int) (b7 : Bool) : Option (Bool × ((List (Int × Int × Bool × ByteArray)) × Int × Int)) :=
 oif b7 (
 some (false, x1)) (
 oif ((n3 : Int) == n4) (
 obind (g68 d x1 5) fun r8 =>
 some (false, r8)) (
 some (true, (x1.1, (IntKind.i64.wrap (x1.2.1 + 1)), x1.2.2))))
noncomputable def j70_1 (d : Nat) (x1 : ((List (Int × Int × Bool × ByteArray)) × Int × Int)) (n2 : Int) (n3 : Int) (n4 : Int) (b5 : Bool) : Option (Bool × ((List (Int × Int × Bool × ByteArray)) × Int × Int)) :=
 oif b5 (
 some (false, x1)) (
 oif (decide (0 ≤ (x1.2.1 : Int))) (
 obind (x1.1[(x1.2.1 : Int).toNat]?) fun x6 =>
 oif ((x6.1 : Int) != 2) (
 j70_0 d x1 n3 n4 true) (
 oif ((x6.2.1 : Int) != n2) (
 j70_0 d x1 n3 n4 true) (
 j70_0 d x1 n3 n4 (!x6.2.2.1)))) none)
theorem e70 (d : Nat) (x1 : ((List (Int × Int × Bool × ByteArray)) × Int × Int)) (n2 : Int) (n3 : Int) (n4 : Int) : g70 (d + 1) x1 n2 n3 n4 =
 oif ((x1.2.2 : Int) != 0) (
 j70_1 d x1 n2 n3 n4 true) (
 j70_1 d x1 n2 n3 n4 ((x1.2.1 : Int) == ((x1.1.length : Nat) : Int))) := by kernel_rfl

theorem e71 (d : Nat) (l1 : List Int) : g71 (d + 1) l1 =
 obind (l1[0]?) fun n2 =>
 obind (l1[1]?) fun n3 =>
 obind (l1[2]?) fun n4 =>
 obind (l1[3]?) fun n5 =>
 obind (l1[4]?) fun n6 =>
 obind (l1[5]?) fun n7 =>
 obind (l1[6]?) fun n8 =>
 obind (l1[7]?) fun n9 =>
 some (n2, n3, n4, n5, n6, n7, n8, n9) := by kernel_rfl

noncomputable def j72_0 (d : Nat)  (l4 : List Int) (l5 : List (Int × Int × Bool × ByteArray)) (n6 : Int) (n7 : Int) : Option ((List Int) × ((List (Int × Int × Bool × ByteArray)) × Int × Int)) :=
 some (l4, (l5, n6, n7))
noncomputable def l72_0_b (d : Nat) (n2 : Int) (kx72_0_0 : (List Int) → (List (Int × Int × Bool × ByteArray)) → Int → Int → Option ((List Int) × ((List (Int × Int × Bool × ByteArray)) × Int × Int))) (ag3 : (Int × ((List (Int × Int × Bool × ByteArray)) × Int × Int) × (List Int)) → Option ((List Int) × ((List (Int × Int × Bool × ByteArray)) × Int × Int))) (n4 : Int) (x5 : ((List (Int × Int × Bool × ByteArray)) × Int × Int)) (l6 : List Int) : Option ((List Int) × ((List (Int × Int × Bool × ByteArray)) × Int × Int)) :=
 oif (decide ((n4 : Int) < (((List.replicate ((n2 : Int).toNat) (0 : Int)).length : Nat) : Int))) (
 obind (g69 d x5 3 (IntKind.i64.wrap (n4 + 1))) fun r7 =>
 oif (decide (0 ≤ (n4 : Int))) (
 oif (Nat.blt ((n4 : Int).toNat) l6.length) (
 obind (l6[(n4 : Int).toNat]?) fun n8 =>
 ag3 ((IntKind.i64.wrap (n4 + 1)), r7.2, (l6.set ((n4 : Int).toNat) r7.1))) none) none) (
 kx72_0_0 l6 x5.1 x5.2.1 x5.2.2)
noncomputable def l72_0 (d : Nat) (n2 : Int) (kx72_0_0 : (List Int) → (List (Int × Int × Bool × ByteArray)) → Int → Int → Option ((List Int) × ((List (Int × Int × Bool × ByteArray)) × Int × Int))) (ag3 : (Int × ((List (Int × Int × Bool × ByteArray)) × Int × Int) × (List Int)) → Option ((List Int) × ((List (Int × Int × Bool × ByteArray)) × Int × Int))) (s : (Int × ((List (Int × Int × Bool × ByteArray)) × Int × Int) × (List Int))) : Option ((List Int) × ((List (Int × Int × Bool × ByteArray)) × Int × Int)) := l72_0_b d n2 kx72_0_0 ag3 s.1 s.2.1 s.2.2
theorem e72 (d : Nat) (x1 : ((List (Int × Int × Bool × ByteArray)) × Int × Int)) (n2 : Int) : g72 (d + 1) x1 n2 =
 oif (decide (0 ≤ (n2 : Int))) (
 oif (decide (0 ≤ (n2 : Int))) (
 oif (Nat.ble ((n2 : Int).toNat) ((n2 : Int).toNat) && Nat.ble (((n2 : Int).toNat) * 8) roomMax) (
 iterP (l72_0 d n2 (j72_0 d)) fuelN (0, x1, (List.replicate ((n2 : Int).toNat) (0 : Int)))) none) none) none := by kernel_rfl

theorem e73 (d : Nat) (l1 : List Int) : g73 (d + 1) l1 =
 obind (l1[0]?) fun n2 =>
 obind (l1[1]?) fun n3 =>
 obind (l1[2]?) fun n4 =>
 obind (l1[3]?) fun n5 =>
 obind (l1[4]?) fun n6 =>
 some (n2, n3, n4, n5, n6) := by kernel_rfl

noncomputable def j41_0 (d : Nat)  (l18 : List (Int × Int × Bool × ByteArray)) (n19 : Int) (n20 : Int) (s21 : ByteArray) (n22 : Int) (l23 : List (Int × Int × Int × Int × Int × Int × Int × Int)) (l24 : List (Int × Int × Int × Int × Int)) : Option ((ByteArray × (List (Int × Int × Int × Int × Int × Int × Int × Int)) × (List (Int × Int × Int × Int × Int)) × Int) × ((List (Int × Int × Bool × ByteArray)) × Int × Int)) :=
 oif (decide ((n19 : Int) < ((l18.length : Nat) : Int))) (
 obind (g68 d (l18, n19, n20) 2) fun r25 =>
 some ((s21, l23, l24, n22), r25)) (
 some ((s21, l23, l24, n22), (l18, n19, n20)))
noncomputable def l41_1_b (d : Nat)  (kx41_1_0 : (List (Int × Int × Bool × ByteArray)) → Int → Int → ByteArray → Int → (List (Int × Int × Int × Int × Int × Int × Int × Int)) → (List (Int × Int × Int × Int × Int)) → Option ((ByteArray × (List (Int × Int × Int × Int × Int × Int × Int × Int)) × (List (Int × Int × Int × Int × Int)) × Int) × ((List (Int × Int × Bool × ByteArray)) × Int × Int))) (ag17 : (((List (Int × Int × Bool × ByteArray)) × Int × Int) × (ByteArray × (List (Int × Int × Int × Int × Int × Int × Int × Int)) × (List (Int × Int × Int × Int × Int)) × Int)) → Option ((ByteArray × (List (Int × Int × Int × Int × Int × Int × Int × Int)) × (List (Int × Int × Int × Int × Int)) × Int) × ((List (Int × Int × Bool × ByteArray)) × Int × Int))) (x18 : ((List (Int × Int × Bool × ByteArray)) × Int × Int)) (x19 : (ByteArray × (List (Int × Int × Int × Int × Int × Int × Int × Int)) × (List (Int × Int × Int × Int × Int)) × Int)) : Option ((ByteArray × (List (Int × Int × Int × Int × Int × Int × Int × Int)) × (List (Int × Int × Int × Int × Int)) × Int) × ((List (Int × Int × Bool × ByteArray)) × Int × Int)) :=
 obind (g70 d x18 5 ((x19.2.2.1.length : Nat) : Int) 16) fun r20 =>
 oif r20.1 (
 obind (g72 d r20.2 5) fun r21 =>
 obind (g73 d r21.1) fun r22 =>
 oif (Nat.ble ((x19.2.2.1.length + [r22].length) * 40) roomMax) (
 ag17 (r21.2, (x19.1, x19.2.1, (x19.2.2.1 ++ [r22]), x19.2.2.2))) none) (
 kx41_1_0 r20.2.1 r20.2.2.1 r20.2.2.2 x19.1 x19.2.2.2 x19.2.1 x19.2.2.1)
noncomputable def l41_1 (d : Nat)  (kx41_1_0 : (List (Int × Int × Bool × ByteArray)) → Int → Int → ByteArray → Int → (List (Int × Int × Int × Int × Int × Int × Int × Int)) → (List (Int × Int × Int × Int × Int)) → Option ((ByteArray × (List (Int × Int × Int × Int × Int × Int × Int × Int)) × (List (Int × Int × Int × Int × Int)) × Int) × ((List (Int × Int × Bool × ByteArray)) × Int × Int))) (ag17 : (((List (Int × Int × Bool × ByteArray)) × Int × Int) × (ByteArray × (List (Int × Int × Int × Int × Int × Int × Int × Int)) × (List (Int × Int × Int × Int × Int)) × Int)) → Option ((ByteArray × (List (Int × Int × Int × Int × Int × Int × Int × Int)) × (List (Int × Int × Int × Int × Int)) × Int) × ((List (Int × Int × Bool × ByteArray)) × Int × Int))) (s : (((List (Int × Int × Bool × ByteArray)) × Int × Int) × (ByteArray × (List (Int × Int × Int × Int × Int × Int × Int × Int)) × (List (Int × Int × Int × Int × Int)) × Int))) : Option ((ByteArray × (List (Int × Int × Int × Int × Int × Int × Int × Int)) × (List (Int × Int × Int × Int × Int)) × Int) × ((List (Int × Int × Bool × ByteArray)) × Int × Int)) := l41_1_b d kx41_1_0 ag17 s.1 s.2
noncomputable def j41_1 (d : Nat)  (l10 : List (Int × Int × Bool × ByteArray)) (n11 : Int) (n12 : Int) (s13 : ByteArray) (n14 : Int) (l15 : List (Int × Int × Int × Int × Int × Int × Int × Int)) (l16 : List (Int × Int × Int × Int × Int)) : Option ((ByteArray × (List (Int × Int × Int × Int × Int × Int × Int × Int)) × (List (Int × Int × Int × Int × Int)) × Int) × ((List (Int × Int × Bool × ByteArray)) × Int × Int)) :=
 iterP (l41_1 d (j41_0 d)) fuelN ((l10, n11, n12), (s13, l15, l16, n14))
noncomputable def l41_0_b (d : Nat)  (kx41_0_0 : (List (Int × Int × Bool × ByteArray)) → Int → Int → ByteArray → Int → (List (Int × Int × Int × Int × Int × Int × Int × Int)) → (List (Int × Int × Int × Int × Int)) → Option ((ByteArray × (List (Int × Int × Int × Int × Int × Int × Int × Int)) × (List (Int × Int × Int × Int × Int)) × Int) × ((List (Int × Int × Bool × ByteArray)) × Int × Int))) (ag9 : (((List (Int × Int × Bool × ByteArray)) × Int × Int) × (ByteArray × (List (Int × Int × Int × Int × Int × Int × Int × Int)) × (List (Int × Int × Int × Int × Int)) × Int)) → Option ((ByteArray × (List (Int × Int × Int × Int × Int × Int × Int × Int)) × (List (Int × Int × Int × Int × Int)) × Int) × ((List (Int × Int × Bool × ByteArray)) × Int × Int))) (x10 : ((List (Int × Int × Bool × ByteArray)) × Int × Int)) (x11 : (ByteArray × (List (Int × Int × Int × Int × Int × Int × Int × Int)) × (List (Int × Int × Int × Int × Int)) × Int)) : Option ((ByteArray × (List (Int × Int × Int × Int × Int × Int × Int × Int)) × (List (Int × Int × Int × Int × Int)) × Int) × ((List (Int × Int × Bool × ByteArray)) × Int × Int)) :=
 obind (g70 d x10 4 ((x11.2.1.length : Nat) : Int) 24) fun r12 =>
 oif r12.1 (
 obind (g72 d r12.2 8) fun r13 =>
 obind (g71 d r13.1) fun r14 =>
 oif (Nat.ble ((x11.2.1.length + [r14].length) * 64) roomMax) (
 ag9 (r13.2, (x11.1, (x11.2.1 ++ [r14]), x11.2.2))) none) (
 kx41_0_0 r12.2.1 r12.2.2.1 r12.2.2.2 x11.1 x11.2.2.2 x11.2.1 x11.2.2.1)
noncomputable def l41_0 (d : Nat)  (kx41_0_0 : (List (Int × Int × Bool × ByteArray)) → Int → Int → ByteArray → Int → (List (Int × Int × Int × Int × Int × Int × Int × Int)) → (List (Int × Int × Int × Int × Int)) → Option ((ByteArray × (List (Int × Int × Int × Int × Int × Int × Int × Int)) × (List (Int × Int × Int × Int × Int)) × Int) × ((List (Int × Int × Bool × ByteArray)) × Int × Int))) (ag9 : (((List (Int × Int × Bool × ByteArray)) × Int × Int) × (ByteArray × (List (Int × Int × Int × Int × Int × Int × Int × Int)) × (List (Int × Int × Int × Int × Int)) × Int)) → Option ((ByteArray × (List (Int × Int × Int × Int × Int × Int × Int × Int)) × (List (Int × Int × Int × Int × Int)) × Int) × ((List (Int × Int × Bool × ByteArray)) × Int × Int))) (s : (((List (Int × Int × Bool × ByteArray)) × Int × Int) × (ByteArray × (List (Int × Int × Int × Int × Int × Int × Int × Int)) × (List (Int × Int × Int × Int × Int)) × Int))) : Option ((ByteArray × (List (Int × Int × Int × Int × Int × Int × Int × Int)) × (List (Int × Int × Int × Int × Int)) × Int) × ((List (Int × Int × Bool × ByteArray)) × Int × Int)) := l41_0_b d kx41_0_0 ag9 s.1 s.2
noncomputable def j41_2 (d : Nat) (r3 : (ByteArray × ((List (Int × Int × Bool × ByteArray)) × Int × Int))) (l5 : List (Int × Int × Bool × ByteArray)) (n6 : Int) (n7 : Int) : Option ((ByteArray × (List (Int × Int × Int × Int × Int × Int × Int × Int)) × (List (Int × Int × Int × Int × Int)) × Int) × ((List (Int × Int × Bool × ByteArray)) × Int × Int)) :=
 obind (g69 d (l5, n6, n7) 2 3) fun r8 =>
 iterP (l41_0 d (j41_1 d)) fuelN (r8.2, (r3.1, [], [], r8.1))
noncomputable def j41_3 (d : Nat) (r3 : (ByteArray × ((List (Int × Int × Bool × ByteArray)) × Int × Int))) (b4 : Bool) : Option ((ByteArray × (List (Int × Int × Int × Int × Int × Int × Int × Int)) × (List (Int × Int × Int × Int × Int)) × Int) × ((List (Int × Int × Bool × ByteArray)) × Int × Int)) :=
 oif b4 (
 obind (g68 d (r3.2.1, (IntKind.i64.wrap (r3.2.2.1 - 1)), r3.2.2.2) 7) fun r5 =>
 j41_2 d r3 r5.1 r5.2.1 r5.2.2) (
 j41_2 d r3 r3.2.1 r3.2.2.1 r3.2.2.2)
theorem e41 (d : Nat) (x1 : ((List (Int × Int × Bool × ByteArray)) × Int × Int)) : g41 (d + 1) x1 =
 obind (g66 d x1 1 1 true) fun r2 =>
 obind (g66 d r2.2 2 2 false) fun r3 =>
 oif ((r3.2.2.2 : Int) == 0) (
 obind (g67 d r3.1) fun r4 =>
 j41_3 d r3 (!r4)) (
 j41_3 d r3 false) := by kernel_rfl

theorem e16 (d : Nat) (l1 : List (Int × Int × Bool × ByteArray)) : g16 (d + 1) l1 =
 obind (g40 d l1) fun r2 =>
 oif (!r2) (
 some (((⟨#[]⟩ : ByteArray), [], [], 0), false)) (
 obind (g41 d (l1, 0, 0)) fun r3 =>
 oif ((r3.2.2.2 : Int) != 0) (
 some (((⟨#[]⟩ : ByteArray), [], [], 0), false)) (
 some (r3.1, true))) := by kernel_rfl

theorem e12 (d : Nat) (x1 : (Int × Int × Int × Int × Int × Int × Int × Int)) (x2 : (Int × Int × Int × Int × Int × Int × Int × Int)) : g12 (d + 1) x1 x2 =
 oif ((x1.1 : Int) != x2.1) (
 some false) (
 oif ((x1.2.1 : Int) != x2.2.1) (
 some false) (
 oif ((x1.2.2.1 : Int) != x2.2.2.1) (
 some false) (
 oif ((x1.2.2.2.1 : Int) != x2.2.2.2.1) (
 some false) (
 oif ((x1.2.2.2.2.1 : Int) != x2.2.2.2.2.1) (
 some false) (
 oif ((x1.2.2.2.2.2.1 : Int) != x2.2.2.2.2.2.1) (
 some false) (
 oif ((x1.2.2.2.2.2.2.1 : Int) != x2.2.2.2.2.2.2.1) (
 some false) (
 oif ((x1.2.2.2.2.2.2.2 : Int) != x2.2.2.2.2.2.2.2) (
 some false) (
 some true)))))))) := by kernel_rfl

noncomputable def j42_0 (d : Nat)  (b4 : Bool) : Option Bool :=
 some true
noncomputable def l42_0_b (d : Nat) (l1 : List (Int × Int × Int × Int × Int × Int × Int × Int)) (l2 : List (Int × Int × Int × Int × Int × Int × Int × Int)) (kx42_0_0 : Bool → Option Bool) (ag3 : (Bool × Int) → Option Bool) (b4 : Bool) (n5 : Int) : Option Bool :=
 oif (decide ((n5 : Int) < ((l1.length : Nat) : Int))) (
 oif (decide (0 ≤ (n5 : Int))) (
 obind (l1[(n5 : Int).toNat]?) fun x6 =>
 oif (decide (0 ≤ (n5 : Int))) (
 obind (l2[(n5 : Int).toNat]?) fun x7 =>
 obind (g12 d x6 x7) fun r8 =>
 oif (!r8) (
 some false) (
 ag3 (b4, (IntKind.i64.wrap (n5 + 1))))) none) none) (
 kx42_0_0 b4)
noncomputable def l42_0 (d : Nat) (l1 : List (Int × Int × Int × Int × Int × Int × Int × Int)) (l2 : List (Int × Int × Int × Int × Int × Int × Int × Int)) (kx42_0_0 : Bool → Option Bool) (ag3 : (Bool × Int) → Option Bool) (s : (Bool × Int)) : Option Bool := l42_0_b d l1 l2 kx42_0_0 ag3 s.1 s.2
theorem e42 (d : Nat) (l1 : List (Int × Int × Int × Int × Int × Int × Int × Int)) (l2 : List (Int × Int × Int × Int × Int × Int × Int × Int)) : g42 (d + 1) l1 l2 =
 oif ((((l1.length : Nat) : Int) : Int) != ((l2.length : Nat) : Int)) (
 some false) (
 iterP (l42_0 d l1 l2 (j42_0 d)) fuelN (false, 0)) := by kernel_rfl

theorem e8 (d : Nat) (x1 : (Int × Int × Int × Int × Int)) (x2 : (Int × Int × Int × Int × Int)) : g8 (d + 1) x1 x2 =
 oif ((x1.1 : Int) != x2.1) (
 some false) (
 oif ((x1.2.1 : Int) != x2.2.1) (
 some false) (
 oif ((x1.2.2.1 : Int) != x2.2.2.1) (
 some false) (
 oif ((x1.2.2.2.1 : Int) != x2.2.2.2.1) (
 some false) (
 oif ((x1.2.2.2.2 : Int) != x2.2.2.2.2) (
 some false) (
 some true))))) := by kernel_rfl

noncomputable def j43_0 (d : Nat)  (b4 : Bool) : Option Bool :=
 some true
noncomputable def l43_0_b (d : Nat) (l1 : List (Int × Int × Int × Int × Int)) (l2 : List (Int × Int × Int × Int × Int)) (kx43_0_0 : Bool → Option Bool) (ag3 : (Bool × Int) → Option Bool) (b4 : Bool) (n5 : Int) : Option Bool :=
 oif (decide ((n5 : Int) < ((l1.length : Nat) : Int))) (
 oif (decide (0 ≤ (n5 : Int))) (
 obind (l1[(n5 : Int).toNat]?) fun x6 =>
 oif (decide (0 ≤ (n5 : Int))) (
 obind (l2[(n5 : Int).toNat]?) fun x7 =>
 obind (g8 d x6 x7) fun r8 =>
 oif (!r8) (
 some false) (
 ag3 (b4, (IntKind.i64.wrap (n5 + 1))))) none) none) (
 kx43_0_0 b4)
noncomputable def l43_0 (d : Nat) (l1 : List (Int × Int × Int × Int × Int)) (l2 : List (Int × Int × Int × Int × Int)) (kx43_0_0 : Bool → Option Bool) (ag3 : (Bool × Int) → Option Bool) (s : (Bool × Int)) : Option Bool := l43_0_b d l1 l2 kx43_0_0 ag3 s.1 s.2
theorem e43 (d : Nat) (l1 : List (Int × Int × Int × Int × Int)) (l2 : List (Int × Int × Int × Int × Int)) : g43 (d + 1) l1 l2 =
 oif ((((l1.length : Nat) : Int) : Int) != ((l2.length : Nat) : Int)) (
 some false) (
 iterP (l43_0 d l1 l2 (j43_0 d)) fuelN (false, 0)) := by kernel_rfl

theorem e17 (d : Nat) (x1 : (ByteArray × (List (Int × Int × Int × Int × Int × Int × Int × Int)) × (List (Int × Int × Int × Int × Int)) × Int)) (x2 : (ByteArray × (List (Int × Int × Int × Int × Int × Int × Int × Int)) × (List (Int × Int × Int × Int × Int)) × Int)) : g17 (d + 1) x1 x2 =
 oif (!((x1.1 : ByteArray).toList == (x2.1 : ByteArray).toList)) (
 some false) (
 obind (g42 d x1.2.1 x2.2.1) fun r3 =>
 oif (!r3) (
 some false) (
 obind (g43 d x1.2.2.1 x2.2.2.1) fun r4 =>
 oif (!r4) (
 some false) (
 oif ((x1.2.2.2 : Int) != x2.2.2.2) (
 some false) (
 some true)))) := by kernel_rfl

theorem e44 (d : Nat) (x1 : (Int × Int × Bool × ByteArray)) (x2 : (Int × Int × Bool × ByteArray)) : g44 (d + 1) x1 x2 =
 oif ((x1.1 : Int) != x2.1) (
 some false) (
 oif ((x1.2.1 : Int) != x2.2.1) (
 some false) (
 oif (!(x1.2.2.1 == x2.2.2.1)) (
 some false) (
 oif (!((x1.2.2.2 : ByteArray).toList == (x2.2.2.2 : ByteArray).toList)) (
 some false) (
 some true)))) := by kernel_rfl

noncomputable def j18_0 (d : Nat)  (b4 : Bool) : Option Bool :=
 some true
noncomputable def l18_0_b (d : Nat) (l1 : List (Int × Int × Bool × ByteArray)) (l2 : List (Int × Int × Bool × ByteArray)) (kx18_0_0 : Bool → Option Bool) (ag3 : (Bool × Int) → Option Bool) (b4 : Bool) (n5 : Int) : Option Bool :=
 oif (decide ((n5 : Int) < ((l1.length : Nat) : Int))) (
 oif (decide (0 ≤ (n5 : Int))) (
 obind (l1[(n5 : Int).toNat]?) fun x6 =>
 oif (decide (0 ≤ (n5 : Int))) (
 obind (l2[(n5 : Int).toNat]?) fun x7 =>
 obind (g44 d x6 x7) fun r8 =>
 oif (!r8) (
 some false) (
 ag3 (b4, (IntKind.i64.wrap (n5 + 1))))) none) none) (
 kx18_0_0 b4)
noncomputable def l18_0 (d : Nat) (l1 : List (Int × Int × Bool × ByteArray)) (l2 : List (Int × Int × Bool × ByteArray)) (kx18_0_0 : Bool → Option Bool) (ag3 : (Bool × Int) → Option Bool) (s : (Bool × Int)) : Option Bool := l18_0_b d l1 l2 kx18_0_0 ag3 s.1 s.2
theorem e18 (d : Nat) (l1 : List (Int × Int × Bool × ByteArray)) (l2 : List (Int × Int × Bool × ByteArray)) : g18 (d + 1) l1 l2 =
 oif ((((l1.length : Nat) : Int) : Int) != ((l2.length : Nat) : Int)) (
 some false) (
 iterP (l18_0 d l1 l2 (j18_0 d)) fuelN (false, 0)) := by kernel_rfl

noncomputable def j45_0 (d : Nat)  (s3 : ByteArray) : Option ByteArray :=
 oif (Nat.ble (((⟨#[109]⟩ : ByteArray) : ByteArray).size + (s3 : ByteArray).size) 9223372036854775807) (
 some (((⟨#[109]⟩ : ByteArray) : ByteArray) ++ (s3 : ByteArray))) none
noncomputable def l45_0_b (d : Nat)  (kx45_0_0 : ByteArray → Option ByteArray) (ag2 : (Int × ByteArray) → Option ByteArray) (n3 : Int) (s4 : ByteArray) : Option ByteArray :=
 oif (decide ((n3 : Int) > 0)) (
 oif (Nat.ble (((strL [(IntKind.u8.wrap (IntKind.i64.wrap ((48 : Int) + (n3.tmod 10))))]) : ByteArray).size + (s4 : ByteArray).size) 9223372036854775807) (
 ag2 ((IntKind.i64.wrap (n3.tdiv 10)), (((strL [(IntKind.u8.wrap (IntKind.i64.wrap ((48 : Int) + (n3.tmod 10))))]) : ByteArray) ++ (s4 : ByteArray)))) none) (
 kx45_0_0 s4)
noncomputable def l45_0 (d : Nat)  (kx45_0_0 : ByteArray → Option ByteArray) (ag2 : (Int × ByteArray) → Option ByteArray) (s : (Int × ByteArray)) : Option ByteArray := l45_0_b d kx45_0_0 ag2 s.1 s.2
theorem e45 (d : Nat) (n1 : Int) : g45 (d + 1) n1 =
 oif (decide ((n1 : Int) ≤ 0)) (
 some (⟨#[109, 48]⟩ : ByteArray)) (
 iterP (l45_0 d (j45_0 d)) fuelN (n1, (⟨#[]⟩ : ByteArray))) := by kernel_rfl

noncomputable def j19_0 (d : Nat)  (n4 : Int) (l5 : List (Int × Int × Bool × ByteArray)) : Option (Int × (List (Int × Int × Bool × ByteArray))) :=
 some (n4, l5)
noncomputable def l19_0_b (d : Nat)  (kx19_0_0 : Int → (List (Int × Int × Bool × ByteArray)) → Option (Int × (List (Int × Int × Bool × ByteArray)))) (ag3 : (Int × Int × (List (Int × Int × Bool × ByteArray))) → Option (Int × (List (Int × Int × Bool × ByteArray)))) (n4 : Int) (n5 : Int) (l6 : List (Int × Int × Bool × ByteArray)) : Option (Int × (List (Int × Int × Bool × ByteArray))) :=
 oif (decide ((n5 : Int) < ((l6.length : Nat) : Int))) (
 oif (decide (0 ≤ (n5 : Int))) (
 oif (Nat.blt ((n5 : Int).toNat) l6.length) (
 obind (l6[(n5 : Int).toNat]?) fun x7 =>
 oif (decide (0 ≤ (n5 : Int))) (
 oif (Nat.blt ((n5 : Int).toNat) ((l6.set ((n5 : Int).toNat) (n4, x7.2)).length)) (
 obind ((l6.set ((n5 : Int).toNat) (n4, x7.2))[(n5 : Int).toNat]?) fun x8 =>
 oif (decide (0 ≤ (n5 : Int))) (
 oif (Nat.blt ((n5 : Int).toNat) (((l6.set ((n5 : Int).toNat) (n4, x7.2)).set ((n5 : Int).toNat) (x8.1, (IntKind.i64.wrap (n4 + 1)), x8.2.2)).length)) (
 obind (((l6.set ((n5 : Int).toNat) (n4, x7.2)).set ((n5 : Int).toNat) (x8.1, (IntKind.i64.wrap (n4 + 1)), x8.2.2))[(n5 : Int).toNat]?) fun x9 =>
 obind (g45 d (IntKind.i64.wrap ((IntKind.i64.wrap ((IntKind.i64.wrap (n4 + 1)) + 1)) + 1))) fun r10 =>
 oif (decide (0 ≤ (n5 : Int))) (
 oif (Nat.blt ((n5 : Int).toNat) ((((l6.set ((n5 : Int).toNat) (n4, x7.2)).set ((n5 : Int).toNat) (x8.1, (IntKind.i64.wrap (n4 + 1)), x8.2.2)).set ((n5 : Int).toNat) (x9.1, x9.2.1, ((((IntKind.i64.wrap ((IntKind.i64.wrap (n4 + 1)) + 1)).tmod 3) : Int) == 0), x9.2.2.2)).length)) (
 obind ((((l6.set ((n5 : Int).toNat) (n4, x7.2)).set ((n5 : Int).toNat) (x8.1, (IntKind.i64.wrap (n4 + 1)), x8.2.2)).set ((n5 : Int).toNat) (x9.1, x9.2.1, ((((IntKind.i64.wrap ((IntKind.i64.wrap (n4 + 1)) + 1)).tmod 3) : Int) == 0), x9.2.2.2))[(n5 : Int).toNat]?) fun x11 =>
 ag3 ((IntKind.i64.wrap ((IntKind.i64.wrap ((IntKind.i64.wrap ((IntKind.i64.wrap (n4 + 1)) + 1)) + 1)) + 1)), (IntKind.i64.wrap (n5 + 1)), ((((l6.set ((n5 : Int).toNat) (n4, x7.2)).set ((n5 : Int).toNat) (x8.1, (IntKind.i64.wrap (n4 + 1)), x8.2.2)).set ((n5 : Int).toNat) (x9.1, x9.2.1, ((((IntKind.i64.wrap ((IntKind.i64.wrap (n4 + 1)) + 1)).tmod 3) : Int) == 0), x9.2.2.2)).set ((n5 : Int).toNat) (x11.1, x11.2.1, x11.2.2.1, r10)))) none) none) none) none) none) none) none) none) (
 kx19_0_0 n4 l6)
noncomputable def l19_0 (d : Nat)  (kx19_0_0 : Int → (List (Int × Int × Bool × ByteArray)) → Option (Int × (List (Int × Int × Bool × ByteArray)))) (ag3 : (Int × Int × (List (Int × Int × Bool × ByteArray))) → Option (Int × (List (Int × Int × Bool × ByteArray)))) (s : (Int × Int × (List (Int × Int × Bool × ByteArray)))) : Option (Int × (List (Int × Int × Bool × ByteArray))) := l19_0_b d kx19_0_0 ag3 s.1 s.2.1 s.2.2
theorem e19 (d : Nat) (l1 : List (Int × Int × Bool × ByteArray)) (n2 : Int) : g19 (d + 1) l1 n2 =
 iterP (l19_0 d (j19_0 d)) fuelN (n2, 0, l1) := by kernel_rfl

noncomputable def j48_0 (d : Nat)  (n4 : Int) (n5 : Int) : Option Int :=
 some n4
noncomputable def l48_0_b (d : Nat) (l1 : List (Int × Int × Int × Int × Int × Int × Int × Int)) (kx48_0_0 : Int → Int → Option Int) (ag3 : (Int × Int × Int) → Option Int) (n4 : Int) (n5 : Int) (n6 : Int) : Option Int :=
 oif (decide ((n6 : Int) < ((l1.length : Nat) : Int))) (
 oif (decide (0 ≤ (n6 : Int))) (
 obind (l1[(n6 : Int).toNat]?) fun x7 =>
 oif ((x7.1 : Int) != n4) (
 some (-1)) (
 oif (decide (0 ≤ (n6 : Int))) (
 obind (l1[(n6 : Int).toNat]?) fun x8 =>
 oif ((x8.2.1 : Int) != (IntKind.i64.wrap (n4 + 1))) (
 some (-1)) (
 oif (decide (0 ≤ (n6 : Int))) (
 obind (l1[(n6 : Int).toNat]?) fun x9 =>
 oif ((x9.2.2.1 : Int) != (IntKind.i64.wrap ((IntKind.i64.wrap (n4 + 1)) + 1))) (
 some (-1)) (
 oif (decide (0 ≤ (n6 : Int))) (
 obind (l1[(n6 : Int).toNat]?) fun x10 =>
 oif ((x10.2.2.2.1 : Int) != (IntKind.i64.wrap ((IntKind.i64.wrap ((IntKind.i64.wrap (n4 + 1)) + 1)) + 1))) (
 some (-1)) (
 oif (decide (0 ≤ (n6 : Int))) (
 obind (l1[(n6 : Int).toNat]?) fun x11 =>
 oif ((x11.2.2.2.2.1 : Int) != (IntKind.i64.wrap ((IntKind.i64.wrap ((IntKind.i64.wrap ((IntKind.i64.wrap (n4 + 1)) + 1)) + 1)) + 1))) (
 some (-1)) (
 oif (decide (0 ≤ (n6 : Int))) (
 obind (l1[(n6 : Int).toNat]?) fun x12 =>
 oif ((x12.2.2.2.2.2.1 : Int) != (IntKind.i64.wrap ((IntKind.i64.wrap ((IntKind.i64.wrap ((IntKind.i64.wrap ((IntKind.i64.wrap (n4 + 1)) + 1)) + 1)) + 1)) + 1))) (
 some (-1)) (
 oif (decide (0 ≤ (n6 : Int))) (
 obind (l1[(n6 : Int).toNat]?) fun x13 =>
 oif ((x13.2.2.2.2.2.2.1 : Int) != (IntKind.i64.wrap ((IntKind.i64.wrap ((IntKind.i64.wrap ((IntKind.i64.wrap ((IntKind.i64.wrap ((IntKind.i64.wrap (n4 + 1)) + 1)) + 1)) + 1)) + 1)) + 1))) (
 some (-1)) (
 oif (decide (0 ≤ (n6 : Int))) (
 obind (l1[(n6 : Int).toNat]?) fun x14 =>
 oif ((x14.2.2.2.2.2.2.2 : Int) != (IntKind.i64.wrap ((IntKind.i64.wrap ((IntKind.i64.wrap ((IntKind.i64.wrap ((IntKind.i64.wrap ((IntKind.i64.wrap ((IntKind.i64.wrap (n4 + 1)) + 1)) + 1)) + 1)) + 1)) + 1)) + 1))) (
 some (-1)) (
 ag3 ((IntKind.i64.wrap ((IntKind.i64.wrap ((IntKind.i64.wrap ((IntKind.i64.wrap ((IntKind.i64.wrap ((IntKind.i64.wrap ((IntKind.i64.wrap ((IntKind.i64.wrap (n4 + 1)) + 1)) + 1)) + 1)) + 1)) + 1)) + 1)) + 1)), n5, (IntKind.i64.wrap (n6 + 1))))) none)) none)) none)) none)) none)) none)) none)) none) (
 kx48_0_0 n4 n5)
noncomputable def l48_0 (d : Nat) (l1 : List (Int × Int × Int × Int × Int × Int × Int × Int)) (kx48_0_0 : Int → Int → Option Int) (ag3 : (Int × Int × Int) → Option Int) (s : (Int × Int × Int)) : Option Int := l48_0_b d l1 kx48_0_0 ag3 s.1 s.2.1 s.2.2
theorem e48 (d : Nat) (l1 : List (Int × Int × Int × Int × Int × Int × Int × Int)) (n2 : Int) : g48 (d + 1) l1 n2 =
 iterP (l48_0 d l1 (j48_0 d)) fuelN (n2, 0, 0) := by kernel_rfl

noncomputable def j49_0 (d : Nat)  (n4 : Int) (n5 : Int) : Option Int :=
 some n4
noncomputable def l49_0_b (d : Nat) (l1 : List (Int × Int × Int × Int × Int)) (kx49_0_0 : Int → Int → Option Int) (ag3 : (Int × Int × Int) → Option Int) (n4 : Int) (n5 : Int) (n6 : Int) : Option Int :=
 oif (decide ((n6 : Int) < ((l1.length : Nat) : Int))) (
 oif (decide (0 ≤ (n6 : Int))) (
 obind (l1[(n6 : Int).toNat]?) fun x7 =>
 oif ((x7.1 : Int) != n4) (
 some (-1)) (
 oif (decide (0 ≤ (n6 : Int))) (
 obind (l1[(n6 : Int).toNat]?) fun x8 =>
 oif ((x8.2.1 : Int) != (IntKind.i64.wrap (n4 + 1))) (
 some (-1)) (
 oif (decide (0 ≤ (n6 : Int))) (
 obind (l1[(n6 : Int).toNat]?) fun x9 =>
 oif ((x9.2.2.1 : Int) != (IntKind.i64.wrap ((IntKind.i64.wrap (n4 + 1)) + 1))) (
 some (-1)) (
 oif (decide (0 ≤ (n6 : Int))) (
 obind (l1[(n6 : Int).toNat]?) fun x10 =>
 oif ((x10.2.2.2.1 : Int) != (IntKind.i64.wrap ((IntKind.i64.wrap ((IntKind.i64.wrap (n4 + 1)) + 1)) + 1))) (
 some (-1)) (
 oif (decide (0 ≤ (n6 : Int))) (
 obind (l1[(n6 : Int).toNat]?) fun x11 =>
 oif ((x11.2.2.2.2 : Int) != (IntKind.i64.wrap ((IntKind.i64.wrap ((IntKind.i64.wrap ((IntKind.i64.wrap (n4 + 1)) + 1)) + 1)) + 1))) (
 some (-1)) (
 ag3 ((IntKind.i64.wrap ((IntKind.i64.wrap ((IntKind.i64.wrap ((IntKind.i64.wrap ((IntKind.i64.wrap (n4 + 1)) + 1)) + 1)) + 1)) + 1)), n5, (IntKind.i64.wrap (n6 + 1))))) none)) none)) none)) none)) none) (
 kx49_0_0 n4 n5)
noncomputable def l49_0 (d : Nat) (l1 : List (Int × Int × Int × Int × Int)) (kx49_0_0 : Int → Int → Option Int) (ag3 : (Int × Int × Int) → Option Int) (s : (Int × Int × Int)) : Option Int := l49_0_b d l1 kx49_0_0 ag3 s.1 s.2.1 s.2.2
theorem e49 (d : Nat) (l1 : List (Int × Int × Int × Int × Int)) (n2 : Int) : g49 (d + 1) l1 n2 =
 iterP (l49_0 d l1 (j49_0 d)) fuelN (n2, 0, 0) := by kernel_rfl

theorem e21 (d : Nat) (x1 : (ByteArray × (List (Int × Int × Int × Int × Int × Int × Int × Int)) × (List (Int × Int × Int × Int × Int)) × Int)) (n2 : Int) : g21 (d + 1) x1 n2 =
 obind (g48 d x1.2.1 n2) fun r3 =>
 oif (decide ((r3 : Int) < 0)) (
 some (-1)) (
 obind (g49 d x1.2.2.1 r3) fun r4 =>
 oif (decide ((r4 : Int) < 0)) (
 some (-1)) (
 some r4)) := by kernel_rfl

noncomputable def j46_0 (d : Nat)  (n4 : Int) (l5 : List (Int × Int × Int × Int × Int × Int × Int × Int)) : Option (Int × (List (Int × Int × Int × Int × Int × Int × Int × Int))) :=
 some (n4, l5)
noncomputable def l46_0_b (d : Nat)  (kx46_0_0 : Int → (List (Int × Int × Int × Int × Int × Int × Int × Int)) → Option (Int × (List (Int × Int × Int × Int × Int × Int × Int × Int)))) (ag3 : (Int × Int × (List (Int × Int × Int × Int × Int × Int × Int × Int))) → Option (Int × (List (Int × Int × Int × Int × Int × Int × Int × Int)))) (n4 : Int) (n5 : Int) (l6 : List (Int × Int × Int × Int × Int × Int × Int × Int)) : Option (Int × (List (Int × Int × Int × Int × Int × Int × Int × Int))) :=
 oif (decide ((n5 : Int) < ((l6.length : Nat) : Int))) (
 oif (decide (0 ≤ (n5 : Int))) (
 oif (Nat.blt ((n5 : Int).toNat) l6.length) (
 obind (l6[(n5 : Int).toNat]?) fun x7 =>
 oif (decide (0 ≤ (n5 : Int))) (
 oif (Nat.blt ((n5 : Int).toNat) ((l6.set ((n5 : Int).toNat) (n4, x7.2)).length)) (
 obind ((l6.set ((n5 : Int).toNat) (n4, x7.2))[(n5 : Int).toNat]?) fun x8 =>
 oif (decide (0 ≤ (n5 : Int))) (
 oif (Nat.blt ((n5 : Int).toNat) (((l6.set ((n5 : Int).toNat) (n4, x7.2)).set ((n5 : Int).toNat) (x8.1, (IntKind.i64.wrap (n4 + 1)), x8.2.2)).length)) (
 obind (((l6.set ((n5 : Int).toNat) (n4, x7.2)).set ((n5 : Int).toNat) (x8.1, (IntKind.i64.wrap (n4 + 1)), x8.2.2))[(n5 : Int).toNat]?) fun x9 =>
 oif (decide (0 ≤ (n5 : Int))) (
 oif (Nat.blt ((n5 : Int).toNat) ((((l6.set ((n5 : Int).toNat) (n4, x7.2)).set ((n5 : Int).toNat) (x8.1, (IntKind.i64.wrap (n4 + 1)), x8.2.2)).set ((n5 : Int).toNat) (x9.1, x9.2.1, (IntKind.i64.wrap ((IntKind.i64.wrap (n4 + 1)) + 1)), x9.2.2.2)).length)) (
 obind ((((l6.set ((n5 : Int).toNat) (n4, x7.2)).set ((n5 : Int).toNat) (x8.1, (IntKind.i64.wrap (n4 + 1)), x8.2.2)).set ((n5 : Int).toNat) (x9.1, x9.2.1, (IntKind.i64.wrap ((IntKind.i64.wrap (n4 + 1)) + 1)), x9.2.2.2))[(n5 : Int).toNat]?) fun x10 =>
 oif (decide (0 ≤ (n5 : Int))) (
 oif (Nat.blt ((n5 : Int).toNat) (((((l6.set ((n5 : Int).toNat) (n4, x7.2)).set ((n5 : Int).toNat) (x8.1, (IntKind.i64.wrap (n4 + 1)), x8.2.2)).set ((n5 : Int).toNat) (x9.1, x9.2.1, (IntKind.i64.wrap ((IntKind.i64.wrap (n4 + 1)) + 1)), x9.2.2.2)).set ((n5 : Int).toNat) (x10.1, x10.2.1, x10.2.2.1, (IntKind.i64.wrap ((IntKind.i64.wrap ((IntKind.i64.wrap (n4 + 1)) + 1)) + 1)), x10.2.2.2.2)).length)) (
 obind (((((l6.set ((n5 : Int).toNat) (n4, x7.2)).set ((n5 : Int).toNat) (x8.1, (IntKind.i64.wrap (n4 + 1)), x8.2.2)).set ((n5 : Int).toNat) (x9.1, x9.2.1, (IntKind.i64.wrap ((IntKind.i64.wrap (n4 + 1)) + 1)), x9.2.2.2)).set ((n5 : Int).toNat) (x10.1, x10.2.1, x10.2.2.1, (IntKind.i64.wrap ((IntKind.i64.wrap ((IntKind.i64.wrap (n4 + 1)) + 1)) + 1)), x10.2.2.2.2))[(n5 : Int).toNat]?) fun x11 =>
 oif (decide (0 ≤ (n5 : Int))) (
 oif (Nat.blt ((n5 : Int).toNat) ((((((l6.set ((n5 : Int).toNat) (n4, x7.2)).set ((n5 : Int).toNat) (x8.1, (IntKind.i64.wrap (n4 + 1)), x8.2.2)).set ((n5 : Int).toNat) (x9.1, x9.2.1, (IntKind.i64.wrap ((IntKind.i64.wrap (n4 + 1)) + 1)), x9.2.2.2)).set ((n5 : Int).toNat) (x10.1, x10.2.1, x10.2.2.1, (IntKind.i64.wrap ((IntKind.i64.wrap ((IntKind.i64.wrap (n4 + 1)) + 1)) + 1)), x10.2.2.2.2)).set ((n5 : Int).toNat) (x11.1, x11.2.1, x11.2.2.1, x11.2.2.2.1, (IntKind.i64.wrap ((IntKind.i64.wrap ((IntKind.i64.wrap ((IntKind.i64.wrap (n4 + 1)) + 1)) + 1)) + 1)), x11.2.2.2.2.2)).length)) (
 obind ((((((l6.set ((n5 : Int).toNat) (n4, x7.2)).set ((n5 : Int).toNat) (x8.1, (IntKind.i64.wrap (n4 + 1)), x8.2.2)).set ((n5 : Int).toNat) (x9.1, x9.2.1, (IntKind.i64.wrap ((IntKind.i64.wrap (n4 + 1)) + 1)), x9.2.2.2)).set ((n5 : Int).toNat) (x10.1, x10.2.1, x10.2.2.1, (IntKind.i64.wrap ((IntKind.i64.wrap ((IntKind.i64.wrap (n4 + 1)) + 1)) + 1)), x10.2.2.2.2)).set ((n5 : Int).toNat) (x11.1, x11.2.1, x11.2.2.1, x11.2.2.2.1, (IntKind.i64.wrap ((IntKind.i64.wrap ((IntKind.i64.wrap ((IntKind.i64.wrap (n4 + 1)) + 1)) + 1)) + 1)), x11.2.2.2.2.2))[(n5 : Int).toNat]?) fun x12 =>
 oif (decide (0 ≤ (n5 : Int))) (
 oif (Nat.blt ((n5 : Int).toNat) (((((((l6.set ((n5 : Int).toNat) (n4, x7.2)).set ((n5 : Int).toNat) (x8.1, (IntKind.i64.wrap (n4 + 1)), x8.2.2)).set ((n5 : Int).toNat) (x9.1, x9.2.1, (IntKind.i64.wrap ((IntKind.i64.wrap (n4 + 1)) + 1)), x9.2.2.2)).set ((n5 : Int).toNat) (x10.1, x10.2.1, x10.2.2.1, (IntKind.i64.wrap ((IntKind.i64.wrap ((IntKind.i64.wrap (n4 + 1)) + 1)) + 1)), x10.2.2.2.2)).set ((n5 : Int).toNat) (x11.1, x11.2.1, x11.2.2.1, x11.2.2.2.1, (IntKind.i64.wrap ((IntKind.i64.wrap ((IntKind.i64.wrap ((IntKind.i64.wrap (n4 + 1)) + 1)) + 1)) + 1)), x11.2.2.2.2.2)).set ((n5 : Int).toNat) (x12.1, x12.2.1, x12.2.2.1, x12.2.2.2.1, x12.2.2.2.2.1, (IntKind.i64.wrap ((IntKind.i64.wrap ((IntKind.i64.wrap ((IntKind.i64.wrap ((IntKind.i64.wrap (n4 + 1)) + 1)) + 1)) + 1)) + 1)), x12.2.2.2.2.2.2)).length)) (
 obind (((((((l6.set ((n5 : Int).toNat) (n4, x7.2)).set ((n5 : Int).toNat) (x8.1, (IntKind.i64.wrap (n4 + 1)), x8.2.2)).set ((n5 : Int).toNat) (x9.1, x9.2.1, (IntKind.i64.wrap ((IntKind.i64.wrap (n4 + 1)) + 1)), x9.2.2.2)).set ((n5 : Int).toNat) (x10.1, x10.2.1, x10.2.2.1, (IntKind.i64.wrap ((IntKind.i64.wrap ((IntKind.i64.wrap (n4 + 1)) + 1)) + 1)), x10.2.2.2.2)).set ((n5 : Int).toNat) (x11.1, x11.2.1, x11.2.2.1, x11.2.2.2.1, (IntKind.i64.wrap ((IntKind.i64.wrap ((IntKind.i64.wrap ((IntKind.i64.wrap (n4 + 1)) + 1)) + 1)) + 1)), x11.2.2.2.2.2)).set ((n5 : Int).toNat) (x12.1, x12.2.1, x12.2.2.1, x12.2.2.2.1, x12.2.2.2.2.1, (IntKind.i64.wrap ((IntKind.i64.wrap ((IntKind.i64.wrap ((IntKind.i64.wrap ((IntKind.i64.wrap (n4 + 1)) + 1)) + 1)) + 1)) + 1)), x12.2.2.2.2.2.2))[(n5 : Int).toNat]?) fun x13 =>
 oif (decide (0 ≤ (n5 : Int))) (
 oif (Nat.blt ((n5 : Int).toNat) ((((((((l6.set ((n5 : Int).toNat) (n4, x7.2)).set ((n5 : Int).toNat) (x8.1, (IntKind.i64.wrap (n4 + 1)), x8.2.2)).set ((n5 : Int).toNat) (x9.1, x9.2.1, (IntKind.i64.wrap ((IntKind.i64.wrap (n4 + 1)) + 1)), x9.2.2.2)).set ((n5 : Int).toNat) (x10.1, x10.2.1, x10.2.2.1, (IntKind.i64.wrap ((IntKind.i64.wrap ((IntKind.i64.wrap (n4 + 1)) + 1)) + 1)), x10.2.2.2.2)).set ((n5 : Int).toNat) (x11.1, x11.2.1, x11.2.2.1, x11.2.2.2.1, (IntKind.i64.wrap ((IntKind.i64.wrap ((IntKind.i64.wrap ((IntKind.i64.wrap (n4 + 1)) + 1)) + 1)) + 1)), x11.2.2.2.2.2)).set ((n5 : Int).toNat) (x12.1, x12.2.1, x12.2.2.1, x12.2.2.2.1, x12.2.2.2.2.1, (IntKind.i64.wrap ((IntKind.i64.wrap ((IntKind.i64.wrap ((IntKind.i64.wrap ((IntKind.i64.wrap (n4 + 1)) + 1)) + 1)) + 1)) + 1)), x12.2.2.2.2.2.2)).set ((n5 : Int).toNat) (x13.1, x13.2.1, x13.2.2.1, x13.2.2.2.1, x13.2.2.2.2.1, x13.2.2.2.2.2.1, (IntKind.i64.wrap ((IntKind.i64.wrap ((IntKind.i64.wrap ((IntKind.i64.wrap ((IntKind.i64.wrap ((IntKind.i64.wrap (n4 + 1)) + 1)) + 1)) + 1)) + 1)) + 1)), x13.2.2.2.2.2.2.2)).length)) (
 obind ((((((((l6.set ((n5 : Int).toNat) (n4, x7.2)).set ((n5 : Int).toNat) (x8.1, (IntKind.i64.wrap (n4 + 1)), x8.2.2)).set ((n5 : Int).toNat) (x9.1, x9.2.1, (IntKind.i64.wrap ((IntKind.i64.wrap (n4 + 1)) + 1)), x9.2.2.2)).set ((n5 : Int).toNat) (x10.1, x10.2.1, x10.2.2.1, (IntKind.i64.wrap ((IntKind.i64.wrap ((IntKind.i64.wrap (n4 + 1)) + 1)) + 1)), x10.2.2.2.2)).set ((n5 : Int).toNat) (x11.1, x11.2.1, x11.2.2.1, x11.2.2.2.1, (IntKind.i64.wrap ((IntKind.i64.wrap ((IntKind.i64.wrap ((IntKind.i64.wrap (n4 + 1)) + 1)) + 1)) + 1)), x11.2.2.2.2.2)).set ((n5 : Int).toNat) (x12.1, x12.2.1, x12.2.2.1, x12.2.2.2.1, x12.2.2.2.2.1, (IntKind.i64.wrap ((IntKind.i64.wrap ((IntKind.i64.wrap ((IntKind.i64.wrap ((IntKind.i64.wrap (n4 + 1)) + 1)) + 1)) + 1)) + 1)), x12.2.2.2.2.2.2)).set ((n5 : Int).toNat) (x13.1, x13.2.1, x13.2.2.1, x13.2.2.2.1, x13.2.2.2.2.1, x13.2.2.2.2.2.1, (IntKind.i64.wrap ((IntKind.i64.wrap ((IntKind.i64.wrap ((IntKind.i64.wrap ((IntKind.i64.wrap ((IntKind.i64.wrap (n4 + 1)) + 1)) + 1)) + 1)) + 1)) + 1)), x13.2.2.2.2.2.2.2))[(n5 : Int).toNat]?) fun x14 =>
 ag3 ((IntKind.i64.wrap ((IntKind.i64.wrap ((IntKind.i64.wrap ((IntKind.i64.wrap ((IntKind.i64.wrap ((IntKind.i64.wrap ((IntKind.i64.wrap ((IntKind.i64.wrap (n4 + 1)) + 1)) + 1)) + 1)) + 1)) + 1)) + 1)) + 1)), (IntKind.i64.wrap (n5 + 1)), ((((((((l6.set ((n5 : Int).toNat) (n4, x7.2)).set ((n5 : Int).toNat) (x8.1, (IntKind.i64.wrap (n4 + 1)), x8.2.2)).set ((n5 : Int).toNat) (x9.1, x9.2.1, (IntKind.i64.wrap ((IntKind.i64.wrap (n4 + 1)) + 1)), x9.2.2.2)).set ((n5 : Int).toNat) (x10.1, x10.2.1, x10.2.2.1, (IntKind.i64.wrap ((IntKind.i64.wrap ((IntKind.i64.wrap (n4 + 1)) + 1)) + 1)), x10.2.2.2.2)).set ((n5 : Int).toNat) (x11.1, x11.2.1, x11.2.2.1, x11.2.2.2.1, (IntKind.i64.wrap ((IntKind.i64.wrap ((IntKind.i64.wrap ((IntKind.i64.wrap (n4 + 1)) + 1)) + 1)) + 1)), x11.2.2.2.2.2)).set ((n5 : Int).toNat) (x12.1, x12.2.1, x12.2.2.1, x12.2.2.2.1, x12.2.2.2.2.1, (IntKind.i64.wrap ((IntKind.i64.wrap ((IntKind.i64.wrap ((IntKind.i64.wrap ((IntKind.i64.wrap (n4 + 1)) + 1)) + 1)) + 1)) + 1)), x12.2.2.2.2.2.2)).set ((n5 : Int).toNat) (x13.1, x13.2.1, x13.2.2.1, x13.2.2.2.1, x13.2.2.2.2.1, x13.2.2.2.2.2.1, (IntKind.i64.wrap ((IntKind.i64.wrap ((IntKind.i64.wrap ((IntKind.i64.wrap ((IntKind.i64.wrap ((IntKind.i64.wrap (n4 + 1)) + 1)) + 1)) + 1)) + 1)) + 1)), x13.2.2.2.2.2.2.2)).set ((n5 : Int).toNat) (x14.1, x14.2.1, x14.2.2.1, x14.2.2.2.1, x14.2.2.2.2.1, x14.2.2.2.2.2.1, x14.2.2.2.2.2.2.1, (IntKind.i64.wrap ((IntKind.i64.wrap ((IntKind.i64.wrap ((IntKind.i64.wrap ((IntKind.i64.wrap ((IntKind.i64.wrap ((IntKind.i64.wrap (n4 + 1)) + 1)) + 1)) + 1)) + 1)) + 1)) + 1)))))) none) none) none) none) none) none) none) none) none) none) none) none) none) none) none) none) (
 kx46_0_0 n4 l6)
noncomputable def l46_0 (d : Nat)  (kx46_0_0 : Int → (List (Int × Int × Int × Int × Int × Int × Int × Int)) → Option (Int × (List (Int × Int × Int × Int × Int × Int × Int × Int)))) (ag3 : (Int × Int × (List (Int × Int × Int × Int × Int × Int × Int × Int))) → Option (Int × (List (Int × Int × Int × Int × Int × Int × Int × Int)))) (s : (Int × Int × (List (Int × Int × Int × Int × Int × Int × Int × Int)))) : Option (Int × (List (Int × Int × Int × Int × Int × Int × Int × Int))) := l46_0_b d kx46_0_0 ag3 s.1 s.2.1 s.2.2
theorem e46 (d : Nat) (l1 : List (Int × Int × Int × Int × Int × Int × Int × Int)) (n2 : Int) : g46 (d + 1) l1 n2 =
 iterP (l46_0 d (j46_0 d)) fuelN (n2, 0, l1) := by kernel_rfl

noncomputable def j47_0 (d : Nat)  (n4 : Int) (l5 : List (Int × Int × Int × Int × Int)) : Option (Int × (List (Int × Int × Int × Int × Int))) :=
 some (n4, l5)
noncomputable def l47_0_b (d : Nat)  (kx47_0_0 : Int → (List (Int × Int × Int × Int × Int)) → Option (Int × (List (Int × Int × Int × Int × Int)))) (ag3 : (Int × Int × (List (Int × Int × Int × Int × Int))) → Option (Int × (List (Int × Int × Int × Int × Int)))) (n4 : Int) (n5 : Int) (l6 : List (Int × Int × Int × Int × Int)) : Option (Int × (List (Int × Int × Int × Int × Int))) :=
 oif (decide ((n5 : Int) < ((l6.length : Nat) : Int))) (
 oif (decide (0 ≤ (n5 : Int))) (
 oif (Nat.blt ((n5 : Int).toNat) l6.length) (
 obind (l6[(n5 : Int).toNat]?) fun x7 =>
 oif (decide (0 ≤ (n5 : Int))) (
 oif (Nat.blt ((n5 : Int).toNat) ((l6.set ((n5 : Int).toNat) (n4, x7.2)).length)) (
 obind ((l6.set ((n5 : Int).toNat) (n4, x7.2))[(n5 : Int).toNat]?) fun x8 =>
 oif (decide (0 ≤ (n5 : Int))) (
 oif (Nat.blt ((n5 : Int).toNat) (((l6.set ((n5 : Int).toNat) (n4, x7.2)).set ((n5 : Int).toNat) (x8.1, (IntKind.i64.wrap (n4 + 1)), x8.2.2)).length)) (
 obind (((l6.set ((n5 : Int).toNat) (n4, x7.2)).set ((n5 : Int).toNat) (x8.1, (IntKind.i64.wrap (n4 + 1)), x8.2.2))[(n5 : Int).toNat]?) fun x9 =>
 oif (decide (0 ≤ (n5 : Int))) (
 oif (Nat.blt ((n5 : Int).toNat) ((((l6.set ((n5 : Int).toNat) (n4, x7.2)).set ((n5 : Int).toNat) (x8.1, (IntKind.i64.wrap (n4 + 1)), x8.2.2)).set ((n5 : Int).toNat) (x9.1, x9.2.1, (IntKind.i64.wrap ((IntKind.i64.wrap (n4 + 1)) + 1)), x9.2.2.2)).length)) (
 obind ((((l6.set ((n5 : Int).toNat) (n4, x7.2)).set ((n5 : Int).toNat) (x8.1, (IntKind.i64.wrap (n4 + 1)), x8.2.2)).set ((n5 : Int).toNat) (x9.1, x9.2.1, (IntKind.i64.wrap ((IntKind.i64.wrap (n4 + 1)) + 1)), x9.2.2.2))[(n5 : Int).toNat]?) fun x10 =>
 oif (decide (0 ≤ (n5 : Int))) (
 oif (Nat.blt ((n5 : Int).toNat) (((((l6.set ((n5 : Int).toNat) (n4, x7.2)).set ((n5 : Int).toNat) (x8.1, (IntKind.i64.wrap (n4 + 1)), x8.2.2)).set ((n5 : Int).toNat) (x9.1, x9.2.1, (IntKind.i64.wrap ((IntKind.i64.wrap (n4 + 1)) + 1)), x9.2.2.2)).set ((n5 : Int).toNat) (x10.1, x10.2.1, x10.2.2.1, (IntKind.i64.wrap ((IntKind.i64.wrap ((IntKind.i64.wrap (n4 + 1)) + 1)) + 1)), x10.2.2.2.2)).length)) (
 obind (((((l6.set ((n5 : Int).toNat) (n4, x7.2)).set ((n5 : Int).toNat) (x8.1, (IntKind.i64.wrap (n4 + 1)), x8.2.2)).set ((n5 : Int).toNat) (x9.1, x9.2.1, (IntKind.i64.wrap ((IntKind.i64.wrap (n4 + 1)) + 1)), x9.2.2.2)).set ((n5 : Int).toNat) (x10.1, x10.2.1, x10.2.2.1, (IntKind.i64.wrap ((IntKind.i64.wrap ((IntKind.i64.wrap (n4 + 1)) + 1)) + 1)), x10.2.2.2.2))[(n5 : Int).toNat]?) fun x11 =>
 ag3 ((IntKind.i64.wrap ((IntKind.i64.wrap ((IntKind.i64.wrap ((IntKind.i64.wrap ((IntKind.i64.wrap (n4 + 1)) + 1)) + 1)) + 1)) + 1)), (IntKind.i64.wrap (n5 + 1)), (((((l6.set ((n5 : Int).toNat) (n4, x7.2)).set ((n5 : Int).toNat) (x8.1, (IntKind.i64.wrap (n4 + 1)), x8.2.2)).set ((n5 : Int).toNat) (x9.1, x9.2.1, (IntKind.i64.wrap ((IntKind.i64.wrap (n4 + 1)) + 1)), x9.2.2.2)).set ((n5 : Int).toNat) (x10.1, x10.2.1, x10.2.2.1, (IntKind.i64.wrap ((IntKind.i64.wrap ((IntKind.i64.wrap (n4 + 1)) + 1)) + 1)), x10.2.2.2.2)).set ((n5 : Int).toNat) (x11.1, x11.2.1, x11.2.2.1, x11.2.2.2.1, (IntKind.i64.wrap ((IntKind.i64.wrap ((IntKind.i64.wrap ((IntKind.i64.wrap (n4 + 1)) + 1)) + 1)) + 1)))))) none) none) none) none) none) none) none) none) none) none) (
 kx47_0_0 n4 l6)
noncomputable def l47_0 (d : Nat)  (kx47_0_0 : Int → (List (Int × Int × Int × Int × Int)) → Option (Int × (List (Int × Int × Int × Int × Int)))) (ag3 : (Int × Int × (List (Int × Int × Int × Int × Int))) → Option (Int × (List (Int × Int × Int × Int × Int)))) (s : (Int × Int × (List (Int × Int × Int × Int × Int)))) : Option (Int × (List (Int × Int × Int × Int × Int))) := l47_0_b d kx47_0_0 ag3 s.1 s.2.1 s.2.2
theorem e47 (d : Nat) (l1 : List (Int × Int × Int × Int × Int)) (n2 : Int) : g47 (d + 1) l1 n2 =
 iterP (l47_0 d (j47_0 d)) fuelN (n2, 0, l1) := by kernel_rfl

noncomputable def j5_0 (d : Nat) (r6 : ((ByteArray × (List (Int × Int × Int × Int × Int × Int × Int × Int)) × (List (Int × Int × Int × Int × Int)) × Int) × Bool)) (r12 : (Int × (List (Int × Int × Int × Int × Int × Int × Int × Int)))) (r13 : (Int × (List (Int × Int × Int × Int × Int)))) (b17 : Bool) : Option Bool :=
 oif b17 (
 some false) (
 obind (g21 (d + 1) (r6.1.1, r12.2, r13.2, r6.1.2.2.2) 1) fun r18 =>
 oif (decide ((r18 : Int) < 0)) (
 some false) (
 oif ((r18 : Int) != r13.1) (
 some false) (
 some true)))
noncomputable def j5_1 (d : Nat) (l1 : List (Int × Int × Bool × ByteArray)) (r4 : ((ByteArray × (List (Int × Int × Int × Int × Int × Int × Int × Int)) × (List (Int × Int × Int × Int × Int)) × Int) × Bool)) (r6 : ((ByteArray × (List (Int × Int × Int × Int × Int × Int × Int × Int)) × (List (Int × Int × Int × Int × Int)) × Int) × Bool)) (b11 : Bool) : Option Bool :=
 oif b11 (
 some false) (
 obind (g46 d r6.1.2.1 1) fun r12 =>
 obind (g47 d r6.1.2.2.1 r12.1) fun r13 =>
 obind (g21 (d + 1) (r6.1.1, r12.2, r13.2, r6.1.2.2.2) 1) fun r14 =>
 oif (decide ((r14 : Int) < 0)) (
 some false) (
 oif ((r14 : Int) != r13.1) (
 some false) (
 obind (g15 (d + 1) l1) fun r15 =>
 obind (g16 (d + 1) r15) fun r16 =>
 obind (g17 (d + 1) r16.1 r4.1) fun r17 =>
 oif (!r17) (
 j5_0 d r6 r12 r13 true) (
 j5_0 d r6 r12 r13 (!(r16.2 == r4.2))))))
noncomputable def j5_2 (d : Nat) (l1 : List (Int × Int × Bool × ByteArray)) (r4 : ((ByteArray × (List (Int × Int × Int × Int × Int × Int × Int × Int)) × (List (Int × Int × Int × Int × Int)) × Int) × Bool)) (r5 : List (Int × Int × Bool × ByteArray)) (r6 : ((ByteArray × (List (Int × Int × Int × Int × Int × Int × Int × Int)) × (List (Int × Int × Int × Int × Int)) × Int) × Bool)) (b7 : Bool) : Option Bool :=
 oif b7 (
 some false) (
 obind (g15 (d + 1) l1) fun r8 =>
 obind (g18 (d + 1) r5 r8) fun r9 =>
 oif (!r9) (
 some false) (
 obind (g19 (d + 1) r5 1) fun r10 =>
 oif (decide ((r10.1 : Int) < 0)) (
 j5_1 d l1 r4 r6 true) (
 obind (g17 (d + 1) r6.1 r4.1) fun r11 =>
 oif (!r11) (
 j5_1 d l1 r4 r6 true) (
 j5_1 d l1 r4 r6 (!(r6.2 == r4.2))))))
theorem e5 (d : Nat) (l1 : List (Int × Int × Bool × ByteArray)) : g5 (d + 2) l1 =
 obind (g13 (d + 1) l1 1048576) fun r2 =>
 oif (decide ((r2 : Int) < 0)) (
 some true) (
 obind (g15 (d + 1) l1) fun r3 =>
 obind (g14 (d + 1) r3) fun r4 =>
 obind (g15 (d + 1) l1) fun r5 =>
 obind (g16 (d + 1) r5) fun r6 =>
 obind (g17 (d + 1) r6.1 r4.1) fun r7 =>
 oif (!r7) (
 j5_2 d l1 r4 r5 r6 true) (
 j5_2 d l1 r4 r5 r6 (!(r6.2 == r4.2)))) := by kernel_rfl

end Go.Proofs.YtpjlbjkeekobnaaDoor
