/-
  The residual forms of the program's functions under the interpreter by value, printed by program (wip/pv/gen2.py); each equation is checked by the kernel.
  Conditions: none.
-/
import Derived.Test.YtmjhgkmiafemfaaVDef
import Derived.Test.YtmjhgkmiafemfaaProg
import Derived.KernelRfl
set_option linter.all false
set_option maxRecDepth 1000000
namespace Go.Proofs.Ytmjhgkmiafemfaa
open Go.Ev Go.Pv

theorem fuel_is : ∃ n : Nat, n = 4194304 := ⟨_, rfl⟩
noncomputable def fuelN : Nat := Classical.choose fuel_is
theorem fuelN_eq : fuelN = 4194304 := Classical.choose_spec fuel_is
def pvSig : FuncId → Sig
  | 9 => ⟨[(.ro, (.sl (.int .u8))), (.ro, (.sl (.int .u8)))], [(false, .bool)]⟩
  | 104 => ⟨[(.ro, (.sl (.int .u8)))], [(false, .str)]⟩
  | 105 => ⟨[(.ro, .str)], [(true, (.sl (.int .u8))), (false, .bool)]⟩
  | 106 => ⟨[(.ro, .str)], [(true, (.sl (.int .u8))), (false, .bool)]⟩
  | 107 => ⟨[(.ro, (.sl (.int .u8)))], [(false, .str), (false, (.int .i64))]⟩
  | 108 => ⟨[(.ro, .str), (.ro, (.int .i64))], [(false, (.int .i64)), (false, (.int .i64)), (false, .bool)]⟩
  | 109 => ⟨[(.ro, .str), (.ro, (.int .i64))], [(false, (.int .i64)), (false, (.int .i64)), (false, .bool)]⟩
  | 110 => ⟨[(.ro, (.sl (.int .u8)))], [(false, .str), (false, (.int .i64))]⟩
  | 111 => ⟨[(.ro, .str), (.ro, (.int .i64))], [(false, (.int .i64)), (false, (.int .i64)), (false, .bool)]⟩
  | 112 => ⟨[(.ro, .str), (.ro, (.int .i64))], [(false, (.int .i64)), (false, (.int .i64)), (false, .bool)]⟩
  | 113 => ⟨[(.ro, (.sl (.int .u8)))], [(false, .str)]⟩
  | 114 => ⟨[(.ro, .str)], [(false, (.int .i64)), (false, .bool)]⟩
  | 115 => ⟨[(.ro, .str)], [(false, (.int .i64)), (false, .bool)]⟩
  | 116 => ⟨[(.ro, (.sl (.int .u8)))], [(false, (.int .i64))]⟩
  | 117 => ⟨[(.ro, (.int .i64))], [(false, .str), (false, .bool)]⟩
  | 118 => ⟨[(.ro, (.int .i64))], [(false, .str), (false, .bool)]⟩
  | 119 => ⟨[(.ro, (.sl (.int .u8)))], [(true, (.sl (.int .u8))), (false, (.int .i64)), (false, (.int .i64))]⟩
  | 120 => ⟨[(.ro, (.sl (.int .u8))), (.ro, (.int .i64)), (.ro, (.int .i64))], [(false, .bool), (false, .bool)]⟩
  | 121 => ⟨[(.ro, (.sl (.int .u8))), (.ro, (.int .i64)), (.ro, (.int .i64))], [(false, .bool), (false, .bool)]⟩
  | 122 => ⟨[(.ro, (.sl (.int .u8))), (.ro, (.sl (.int .u8)))], [(false, .bool)]⟩
  | 123 => ⟨[(.ro, (.sl (.int .u8)))], [(false, .str), (false, .bool)]⟩
  | 124 => ⟨[(.ro, (.sl (.int .u8)))], [(true, (.sl (.int .u8)))]⟩
  | 125 => ⟨[(.ro, (.sl (.int .u8)))], [(false, (.int .i64)), (false, .bool)]⟩
  | 126 => ⟨[(.ro, (.sl (.int .u8)))], [(false, (.int .i64)), (false, .bool)]⟩
  | 158 => ⟨[(.ps, (.pair (.sl (.int .u8)) (.pair (.int .i64) (.int .u64)))), (.ro, (.sl (.int .i64)))], [(false, (.int .i64))]⟩
  | 177 => ⟨[(.ps, (.pair (.sl (.int .u8)) (.pair (.int .i64) (.int .u64)))), (.ro, (.int .i64))], [(false, (.int .i64))]⟩
  | 179 => ⟨[(.ro, (.int .i64)), (.ro, (.int .i64)), (.ro, (.int .i64))], [(false, .bool)]⟩
  | 211 => ⟨[(.ps, (.pair (.sl (.int .u8)) (.pair (.int .i64) (.int .u64)))), (.ro, (.int .i64))], [(false, .bool)]⟩
  | 229 => ⟨[(.ps, (.pair (.sl (.int .u8)) (.pair (.int .i64) (.int .u64)))), (.ro, (.sl .str))], [(false, .str)]⟩
  | 245 => ⟨[(.ro, (.sl (.int .u8)))], [(false, .str)]⟩
  | 246 => ⟨[(.ps, (.pair (.sl (.int .u8)) (.pair (.int .i64) (.int .u64))))], [(true, (.sl (.int .u8)))]⟩
  | 247 => ⟨[(.ps, (.pair (.sl (.int .u8)) (.pair (.int .i64) (.int .u64)))), (.ro, .str), (.ro, .str)], [(false, .str)]⟩
  | 248 => ⟨[(.ro, (.int .u8))], [(false, (.int .i64))]⟩
  | 249 => ⟨[(.ro, .str)], [(true, (.sl (.int .u8))), (false, .bool)]⟩
  | 250 => ⟨[(.ps, (.pair (.sl (.int .u8)) (.pair (.int .i64) (.int .u64))))], [(false, .str)]⟩
  | 251 => ⟨[(.ro, (.int .u8))], [(false, .bool)]⟩
  | 252 => ⟨[(.ro, .str), (.ro, (.int .i64))], [(false, .bool)]⟩
  | 253 => ⟨[(.ro, .str), (.ro, (.int .i64))], [(false, (.int .i64)), (false, (.int .i64))]⟩
  | 254 => ⟨[(.ro, .str), (.ro, (.int .i64))], [(false, (.int .i64)), (false, (.int .i64))]⟩
  | 255 => ⟨[(.ro, (.int .u8))], [(false, .bool)]⟩
  | 256 => ⟨[(.ro, (.int .i64))], [(false, .bool)]⟩
  | 257 => ⟨[(.ro, .str)], [(false, (.int .i64))]⟩
  | 258 => ⟨[(.ro, (.int .i64))], [(false, .str)]⟩
  | 259 => ⟨[(.ro, (.sl (.int .u8)))], [(false, .bool)]⟩
  | 260 => ⟨[(.ro, (.sl (.int .u8)))], [(false, (.int .i64))]⟩
  | 289 => ⟨[(.ps, (.pair (.sl (.int .u8)) (.pair (.int .i64) (.int .u64))))], [(false, (.int .i64))]⟩
  | 307 => ⟨[(.ro, (.int .u8)), (.ro, (.int .i64))], [(false, (.int .i64))]⟩
  | 308 => ⟨[(.ro, .str), (.ro, (.int .i64)), (.ro, (.int .i64)), (.ro, (.int .i64))], [(false, (.int .i64)), (false, (.int .i64))]⟩
  | 309 => ⟨[(.ro, (.int .u8))], [(false, .bool)]⟩
  | _ => ⟨[], []⟩
def pvLoops : FuncId → Nat → LoopA
  | 105, 0 => ⟨[(2, true, (.sl (.int .u8))), (3, false, .bool), (4, true, (.sl (.int .u8))), (5, false, (.int .i64))], [], [], []⟩
  | 108, 0 => ⟨[(4, false, (.int .i64)), (5, false, (.int .i64)), (6, false, .bool), (7, false, (.int .i64)), (8, false, (.int .i64))], [], [], []⟩
  | 111, 0 => ⟨[(4, false, (.int .i64)), (5, false, (.int .i64)), (6, false, .bool), (7, false, (.int .i64)), (8, false, (.int .i64))], [], [], []⟩
  | 114, 0 => ⟨[(2, false, (.int .i64)), (3, false, .bool), (4, false, (.int .i64))], [], [], []⟩
  | 117, 0 => ⟨[(0, false, (.int .i64)), (4, false, .str)], [], [], []⟩
  | 120, 0 => ⟨[(6, false, .bool), (7, false, .bool), (33, false, (.int .i64))], [], [], []⟩
  | 122, 0 => ⟨[(4, false, .bool), (13, false, (.int .i64))], [], [], []⟩
  | 123, 0 => ⟨[(4, true, (.sl (.int .u8))), (16, false, (.int .i64))], [], [], []⟩
  | 125, 0 => ⟨[(4, false, (.int .i64)), (5, false, (.int .i64))], [], [], []⟩
  | 245, 0 => ⟨[(3, false, .str), (9, false, (.int .i64))], [], [], []⟩
  | 246, 0 => ⟨[(3, true, (.sl (.int .u8))), (4, false, (.int .i64))], [(0, (.pair (.sl (.int .u8)) (.pair (.int .i64) (.int .u64))))], [], []⟩
  | 247, 0 => ⟨[(1, false, .str), (7, false, (.int .i64))], [(0, (.pair (.sl (.int .u8)) (.pair (.int .i64) (.int .u64))))], [], []⟩
  | 249, 0 => ⟨[(2, true, (.sl (.int .u8))), (3, false, .bool), (4, true, (.sl (.int .u8))), (5, false, (.int .i64))], [], [], []⟩
  | 250, 0 => ⟨[(3, false, .str), (4, false, (.int .i64))], [(0, (.pair (.sl (.int .u8)) (.pair (.int .i64) (.int .u64))))], [], []⟩
  | 250, 1 => ⟨[(3, false, .str)], [], [], []⟩
  | 257, 0 => ⟨[(3, false, (.int .i64))], [], [], []⟩
  | 258, 0 => ⟨[(0, false, (.int .i64)), (3, false, .str)], [], [], []⟩
  | 259, 0 => ⟨[(2, false, .bool), (7, false, (.int .i64))], [], [], []⟩
  | 260, 0 => ⟨[(3, false, (.int .i64)), (9, false, (.int .i64))], [], [], []⟩
  | 308, 0 => ⟨[(1, false, (.int .i64)), (10, false, (.int .i64))], [], [], []⟩
  | _, _ => ⟨[], [], [], []⟩
def pvEloops : FuncId → Nat → List (Nat × Value)
  | 105, 0 => [(0, (.string ⟨#[]⟩)), (2, (.slice none 0 0)), (3, (.bool false)), (4, (.slice none 0 0)), (5, (.int .i64 0))]
  | 108, 0 => [(0, (.string ⟨#[]⟩)), (1, (.int .i64 0)), (4, (.int .i64 0)), (5, (.int .i64 0)), (6, (.bool false)), (7, (.int .i64 0)), (8, (.int .i64 0))]
  | 111, 0 => [(0, (.string ⟨#[]⟩)), (1, (.int .i64 0)), (4, (.int .i64 0)), (5, (.int .i64 0)), (6, (.bool false)), (7, (.int .i64 0)), (8, (.int .i64 0))]
  | 114, 0 => [(0, (.string ⟨#[]⟩)), (2, (.int .i64 0)), (3, (.bool false)), (4, (.int .i64 0))]
  | 117, 0 => [(0, (.int .i64 0)), (2, (.string ⟨#[]⟩)), (3, (.bool false)), (4, (.string ⟨#[]⟩))]
  | 120, 0 => [(6, (.bool false)), (7, (.bool false)), (31, (.slice none 0 0)), (32, (.int .i64 0)), (33, (.int .i64 0))]
  | 122, 0 => [(0, (.slice none 0 0)), (1, (.slice none 0 0)), (4, (.bool false)), (12, (.int .i64 0)), (13, (.int .i64 0))]
  | 123, 0 => [(2, (.string ⟨#[]⟩)), (3, (.bool false)), (4, (.slice none 0 0)), (14, (.slice none 0 0)), (15, (.int .i64 0)), (16, (.int .i64 0))]
  | 125, 0 => [(0, (.slice none 0 0)), (2, (.int .i64 0)), (3, (.bool false)), (4, (.int .i64 0)), (5, (.int .i64 0))]
  | 245, 0 => [(2, (.string ⟨#[]⟩)), (3, (.string ⟨#[]⟩)), (7, (.slice none 0 0)), (8, (.int .i64 0)), (9, (.int .i64 0))]
  | 246, 0 => [(0, (.pointer (some ⟨0, 0, none⟩))), (2, (.slice none 0 0)), (3, (.slice none 0 0)), (4, (.int .i64 0))]
  | 247, 0 => [(0, (.pointer (some ⟨0, 0, none⟩))), (1, (.string ⟨#[]⟩)), (2, (.string ⟨#[]⟩)), (6, (.string ⟨#[]⟩)), (7, (.int .i64 0))]
  | 249, 0 => [(0, (.string ⟨#[]⟩)), (2, (.slice none 0 0)), (3, (.bool false)), (4, (.slice none 0 0)), (5, (.int .i64 0))]
  | 250, 0 => [(0, (.pointer (some ⟨0, 0, none⟩))), (2, (.string ⟨#[]⟩)), (3, (.string ⟨#[]⟩)), (4, (.int .i64 0))]
  | 250, 1 => [(2, (.string ⟨#[]⟩)), (3, (.string ⟨#[]⟩)), (5, (.int .i64 0))]
  | 257, 0 => [(0, (.string ⟨#[]⟩)), (2, (.int .i64 0)), (3, (.int .i64 0))]
  | 258, 0 => [(0, (.int .i64 0)), (2, (.string ⟨#[]⟩)), (3, (.string ⟨#[]⟩))]
  | 259, 0 => [(2, (.bool false)), (5, (.slice none 0 0)), (6, (.int .i64 0)), (7, (.int .i64 0))]
  | 260, 0 => [(2, (.int .i64 0)), (3, (.int .i64 0)), (7, (.slice none 0 0)), (8, (.int .i64 0)), (9, (.int .i64 0))]
  | 308, 0 => [(0, (.string ⟨#[]⟩)), (1, (.int .i64 0)), (2, (.int .i64 0)), (3, (.int .i64 0)), (8, (.int .i64 0)), (9, (.int .i64 0)), (10, (.int .i64 0))]
  | _, _ => []
def pvInline : FuncId → Bool
  | 216 => true
  | 217 => true
  | 294 => true
  | 310 => true
  | 317 => true
  | 318 => true
  | 333 => true
  | 342 => true
  | _ => false
noncomputable def pvAnn : AnnV := ⟨fuelN, pvSig, pvLoops, pvEloops, pvInline⟩

/-- (*loop.example/g00838/spec.l1Cur).next -/
noncomputable def g289 (d : Nat) (x1 : ((List Int) × Int × Int)) : Option (Int × ((List Int) × Int × Int)) := (lev Try.prog pvAnn d).call 289 (x1)
/-- (*loop.example/g00838/spec.l1Cur).pick -/
noncomputable def g177 (d : Nat) (x1 : ((List Int) × Int × Int)) (n2 : Int) : Option (Int × ((List Int) × Int × Int)) := (lev Try.prog pvAnn d).call 177 (x1, n2)
/-- (*loop.example/g00838/spec.l1Cur).one -/
noncomputable def g211 (d : Nat) (x1 : ((List Int) × Int × Int)) (n2 : Int) : Option (Bool × ((List Int) × Int × Int)) := (lev Try.prog pvAnn d).call 211 (x1, n2)
/-- loop.example/g00838/spec.scBytesText -/
noncomputable def g245 (d : Nat) (l1 : List Int) : Option ByteArray := (lev Try.prog pvAnn d).call 245 (l1)
/-- (*loop.example/g00838/spec.l1Cur).among -/
noncomputable def g158 (d : Nat) (x1 : ((List Int) × Int × Int)) (l2 : List Int) : Option (Int × ((List Int) × Int × Int)) := (lev Try.prog pvAnn d).call 158 (x1, l2)
/-- (*loop.example/g00838/spec.l1Cur).bytes -/
noncomputable def g246 (d : Nat) (x1 : ((List Int) × Int × Int)) : Option ((List Int) × ((List Int) × Int × Int)) := (lev Try.prog pvAnn d).call 246 (x1)
/-- (*loop.example/g00838/spec.l1Cur).spoilt -/
noncomputable def g247 (d : Nat) (x1 : ((List Int) × Int × Int)) (s2 : ByteArray) (s3 : ByteArray) : Option (ByteArray × ((List Int) × Int × Int)) := (lev Try.prog pvAnn d).call 247 (x1, s2, s3)
/-- loop.example/g00838/spec.DrawParseBytes -/
noncomputable def g104 (d : Nat) (l1 : List Int) : Option ByteArray := (lev Try.prog pvAnn d).call 104 (l1)
/-- loop.example/g00838/impl.isDigit -/
noncomputable def g251 (d : Nat) (n1 : Int) : Option Bool := (lev Try.prog pvAnn d).call 251 (n1)
/-- loop.example/g00838/impl.hexDigit -/
noncomputable def g248 (d : Nat) (n1 : Int) : Option Int := (lev Try.prog pvAnn d).call 248 (n1)
/-- loop.example/g00838/impl.ParseBytes -/
noncomputable def g105 (d : Nat) (s1 : ByteArray) : Option ((List Int) × Bool) := (lev Try.prog pvAnn d).call 105 (s1)
/-- loop.example/g00838/spec.scBytes -/
noncomputable def g256 (d : Nat) (n1 : Int) : Option Bool := (lev Try.prog pvAnn d).call 256 (n1)
/-- loop.example/g00838/spec.scDigit -/
noncomputable def g307 (d : Nat) (n1 : Int) (n2 : Int) : Option Int := (lev Try.prog pvAnn d).call 307 (n1, n2)
/-- loop.example/g00838/spec.scParseBytes -/
noncomputable def g249 (d : Nat) (s1 : ByteArray) : Option ((List Int) × Bool) := (lev Try.prog pvAnn d).call 249 (s1)
/-- loop.example/g00838/spec.ParseBytes -/
noncomputable def g106 (d : Nat) (s1 : ByteArray) : Option ((List Int) × Bool) := (lev Try.prog pvAnn d).call 106 (s1)
/-- (*loop.example/g00838/spec.l1Cur).of -/
noncomputable def g229 (d : Nat) (x1 : ((List Int) × Int × Int)) (l2 : List ByteArray) : Option (ByteArray × ((List Int) × Int × Int)) := (lev Try.prog pvAnn d).call 229 (x1, l2)
/-- (*loop.example/g00838/spec.l1Cur).words -/
noncomputable def g250 (d : Nat) (x1 : ((List Int) × Int × Int)) : Option (ByteArray × ((List Int) × Int × Int)) := (lev Try.prog pvAnn d).call 250 (x1)
/-- loop.example/g00838/spec.DrawDecimalAt -/
noncomputable def g107 (d : Nat) (l1 : List Int) : Option (ByteArray × Int) := (lev Try.prog pvAnn d).call 107 (l1)
/-- loop.example/g00838/impl.DecimalAt -/
noncomputable def g108 (d : Nat) (s1 : ByteArray) (n2 : Int) : Option (Int × Int × Bool) := (lev Try.prog pvAnn d).call 108 (s1, n2)
/-- loop.example/g00838/spec.l1In -/
noncomputable def g179 (d : Nat) (n1 : Int) (n2 : Int) (n3 : Int) : Option Bool := (lev Try.prog pvAnn d).call 179 (n1, n2, n3)
/-- loop.example/g00838/spec.scIndex -/
noncomputable def g252 (d : Nat) (s1 : ByteArray) (n2 : Int) : Option Bool := (lev Try.prog pvAnn d).call 252 (s1, n2)
/-- loop.example/g00838/spec.scNumber -/
noncomputable def g308 (d : Nat) (s1 : ByteArray) (n2 : Int) (n3 : Int) (n4 : Int) : Option (Int × Int) := (lev Try.prog pvAnn d).call 308 (s1, n2, n3, n4)
/-- loop.example/g00838/spec.scDecimal -/
noncomputable def g253 (d : Nat) (s1 : ByteArray) (n2 : Int) : Option (Int × Int) := (lev Try.prog pvAnn d).call 253 (s1, n2)
/-- loop.example/g00838/spec.DecimalAt -/
noncomputable def g109 (d : Nat) (s1 : ByteArray) (n2 : Int) : Option (Int × Int × Bool) := (lev Try.prog pvAnn d).call 109 (s1, n2)
/-- loop.example/g00838/spec.DrawHexAt -/
noncomputable def g110 (d : Nat) (l1 : List Int) : Option (ByteArray × Int) := (lev Try.prog pvAnn d).call 110 (l1)
/-- loop.example/g00838/impl.HexAt -/
noncomputable def g111 (d : Nat) (s1 : ByteArray) (n2 : Int) : Option (Int × Int × Bool) := (lev Try.prog pvAnn d).call 111 (s1, n2)
/-- loop.example/g00838/spec.scHex -/
noncomputable def g254 (d : Nat) (s1 : ByteArray) (n2 : Int) : Option (Int × Int) := (lev Try.prog pvAnn d).call 254 (s1, n2)
/-- loop.example/g00838/spec.HexAt -/
noncomputable def g112 (d : Nat) (s1 : ByteArray) (n2 : Int) : Option (Int × Int × Bool) := (lev Try.prog pvAnn d).call 112 (s1, n2)
/-- loop.example/g00838/spec.DrawFirstBad -/
noncomputable def g113 (d : Nat) (l1 : List Int) : Option ByteArray := (lev Try.prog pvAnn d).call 113 (l1)
/-- loop.example/g00838/impl.isPlain -/
noncomputable def g255 (d : Nat) (n1 : Int) : Option Bool := (lev Try.prog pvAnn d).call 255 (n1)
/-- loop.example/g00838/impl.FirstBad -/
noncomputable def g114 (d : Nat) (s1 : ByteArray) : Option (Int × Bool) := (lev Try.prog pvAnn d).call 114 (s1)
/-- loop.example/g00838/spec.scPlain -/
noncomputable def g309 (d : Nat) (n1 : Int) : Option Bool := (lev Try.prog pvAnn d).call 309 (n1)
/-- loop.example/g00838/spec.scBad -/
noncomputable def g257 (d : Nat) (s1 : ByteArray) : Option Int := (lev Try.prog pvAnn d).call 257 (s1)
/-- loop.example/g00838/spec.FirstBad -/
noncomputable def g115 (d : Nat) (s1 : ByteArray) : Option (Int × Bool) := (lev Try.prog pvAnn d).call 115 (s1)
/-- loop.example/g00838/spec.DrawHexOf -/
noncomputable def g116 (d : Nat) (l1 : List Int) : Option Int := (lev Try.prog pvAnn d).call 116 (l1)
/-- loop.example/g00838/impl.HexOf -/
noncomputable def g117 (d : Nat) (n1 : Int) : Option (ByteArray × Bool) := (lev Try.prog pvAnn d).call 117 (n1)
/-- loop.example/g00838/spec.scHexText -/
noncomputable def g258 (d : Nat) (n1 : Int) : Option ByteArray := (lev Try.prog pvAnn d).call 258 (n1)
/-- loop.example/g00838/spec.HexOf -/
noncomputable def g118 (d : Nat) (n1 : Int) : Option (ByteArray × Bool) := (lev Try.prog pvAnn d).call 118 (n1)
/-- loop.example/g00838/spec.DrawIsPadded -/
noncomputable def g119 (d : Nat) (l1 : List Int) : Option ((List Int) × Int × Int) := (lev Try.prog pvAnn d).call 119 (l1)
/-- loop.example/g00838/impl.IsPadded -/
noncomputable def g120 (d : Nat) (l1 : List Int) (n2 : Int) (n3 : Int) : Option (Bool × Bool) := (lev Try.prog pvAnn d).call 120 (l1, n2, n3)
/-- loop.example/g00838/spec.scZero -/
noncomputable def g259 (d : Nat) (l1 : List Int) : Option Bool := (lev Try.prog pvAnn d).call 259 (l1)
/-- loop.example/g00838/spec.IsPadded -/
noncomputable def g121 (d : Nat) (l1 : List Int) (n2 : Int) (n3 : Int) : Option (Bool × Bool) := (lev Try.prog pvAnn d).call 121 (l1, n2, n3)
/-- loop.example/g00838/laws.qBytes -/
noncomputable def g122 (d : Nat) (l1 : List Int) (l2 : List Int) : Option Bool := (lev Try.prog pvAnn d).call 122 (l1, l2)
/-- loop.example/g00838/impl.BytesText -/
noncomputable def g123 (d : Nat) (l1 : List Int) : Option (ByteArray × Bool) := (lev Try.prog pvAnn d).call 123 (l1)
/-- loop.example/g00838/spec.DrawChecksumOf -/
noncomputable def g124 (d : Nat) (l1 : List Int) : Option (List Int) := (lev Try.prog pvAnn d).call 124 (l1)
/-- loop.example/g00838/impl.ChecksumOf -/
noncomputable def g125 (d : Nat) (l1 : List Int) : Option (Int × Bool) := (lev Try.prog pvAnn d).call 125 (l1)
/-- loop.example/g00838/spec.scSum -/
noncomputable def g260 (d : Nat) (l1 : List Int) : Option Int := (lev Try.prog pvAnn d).call 260 (l1)
/-- loop.example/g00838/spec.ChecksumOf -/
noncomputable def g126 (d : Nat) (l1 : List Int) : Option (Int × Bool) := (lev Try.prog pvAnn d).call 126 (l1)
/-- loop.example/g00838/laws.FnWritten -/
noncomputable def g9 (d : Nat) (l1 : List Int) (l2 : List Int) : Option Bool := (lev Try.prog pvAnn d).call 9 (l1, l2)

noncomputable def j289_0 (d : Nat) (x1 : ((List Int) × Int × Int)) (n2 : Int) : Option (Int × ((List Int) × Int × Int)) :=
 oif (decide (((IntKind.i64.wrap (x1.2.1 + 1)) : Int) ≤ ((x1.1.length : Nat) : Int))) (
 some (n2, (x1.1, (IntKind.i64.wrap (x1.2.1 + 1)), (IntKind.u64.wrap ((IntKind.u64.wrap ((IntKind.u64.wrap (x1.2.2 * 6364136223846793005)) + (IntKind.u64.wrap n2))) + 1442695040888963407))))) (
 some ((IntKind.i64.wrap (IntKind.u64.wrap ((BitVec.ofInt IntKind.u64.bits ((IntKind.u64.wrap ((IntKind.u64.wrap ((IntKind.u64.wrap (x1.2.2 * 6364136223846793005)) + (IntKind.u64.wrap n2))) + 1442695040888963407)).fdiv (2 ^ (min (40 : Int).toNat IntKind.u64.bits))) &&& BitVec.ofInt IntKind.u64.bits 255).toNat : Int))), (x1.1, (IntKind.i64.wrap (x1.2.1 + 1)), (IntKind.u64.wrap ((IntKind.u64.wrap ((IntKind.u64.wrap (x1.2.2 * 6364136223846793005)) + (IntKind.u64.wrap n2))) + 1442695040888963407)))))
theorem e289 (d : Nat) (x1 : ((List Int) × Int × Int)) : g289 (d + 1) x1 =
 oif (decide ((x1.2.1 : Int) < ((x1.1.length : Nat) : Int))) (
 oif (decide (0 ≤ (x1.2.1 : Int))) (
 obind (x1.1[(x1.2.1 : Int).toNat]?) fun n2 =>
 j289_0 d x1 (IntKind.i64.wrap n2)) none) (
 j289_0 d x1 0) := by kernel_rfl

theorem e177 (d : Nat) (x1 : ((List Int) × Int × Int)) (n2 : Int) : g177 (d + 1) x1 n2 =
 oif (decide ((n2 : Int) ≤ 1)) (
 some (0, x1)) (
 obind (g289 d x1) fun r3 =>
 oif (decide ((n2 : Int) > 200)) (
 obind (g289 d r3.2) fun r4 =>
 oif ((n2 : Int) == 0) none (
 some (((IntKind.i64.wrap ((IntKind.i64.wrap (r3.1 * 256)) + r4.1)).tmod n2), r4.2))) (
 oif ((n2 : Int) == 0) none (
 some ((r3.1.tmod n2), r3.2)))) := by kernel_rfl

theorem e211 (d : Nat) (x1 : ((List Int) × Int × Int)) (n2 : Int) : g211 (d + 1) x1 n2 =
 obind (g177 d x1 n2) fun r3 =>
 some (((r3.1 : Int) == 0), r3.2) := by kernel_rfl

noncomputable def j245_0 (d : Nat)  (s3 : ByteArray) : Option ByteArray :=
 some s3
noncomputable def l245_0_b (d : Nat) (l1 : List Int) (kx245_0_0 : ByteArray → Option ByteArray) (ag2 : (ByteArray × Int) → Option ByteArray) (s3 : ByteArray) (n4 : Int) : Option ByteArray :=
 oif (decide ((n4 : Int) < ((l1.length : Nat) : Int))) (
 oif (decide (0 ≤ (n4 : Int))) (
 obind (l1[(n4 : Int).toNat]?) fun n5 =>
 oif (decide (0 ≤ ((IntKind.i64.wrap ((IntKind.i64.wrap ((IntKind.i64.wrap n5).tdiv 16)) + 1)) : Int))) (
 oif (decide (0 ≤ ((IntKind.i64.wrap ((IntKind.i64.wrap n5).tdiv 16)) : Int))) (
 oif (Nat.ble (((IntKind.i64.wrap ((IntKind.i64.wrap n5).tdiv 16)) : Int).toNat) (((IntKind.i64.wrap ((IntKind.i64.wrap ((IntKind.i64.wrap n5).tdiv 16)) + 1)) : Int).toNat) && Nat.ble (((IntKind.i64.wrap ((IntKind.i64.wrap ((IntKind.i64.wrap n5).tdiv 16)) + 1)) : Int).toNat) ((⟨#[48, 49, 50, 51, 52, 53, 54, 55, 56, 57, 97, 98, 99, 100, 101, 102]⟩ : ByteArray) : ByteArray).size) (
 oif (decide (0 ≤ ((IntKind.i64.wrap (((IntKind.i64.wrap n5).tmod 16) + 1)) : Int))) (
 oif (decide (0 ≤ (((IntKind.i64.wrap n5).tmod 16) : Int))) (
 oif (Nat.ble ((((IntKind.i64.wrap n5).tmod 16) : Int).toNat) (((IntKind.i64.wrap (((IntKind.i64.wrap n5).tmod 16) + 1)) : Int).toNat) && Nat.ble (((IntKind.i64.wrap (((IntKind.i64.wrap n5).tmod 16) + 1)) : Int).toNat) ((⟨#[48, 49, 50, 51, 52, 53, 54, 55, 56, 57, 97, 98, 99, 100, 101, 102]⟩ : ByteArray) : ByteArray).size) (
 oif (Nat.ble (((((⟨#[48, 49, 50, 51, 52, 53, 54, 55, 56, 57, 97, 98, 99, 100, 101, 102]⟩ : ByteArray) : ByteArray).extract (((IntKind.i64.wrap ((IntKind.i64.wrap n5).tdiv 16)) : Int).toNat) (((IntKind.i64.wrap ((IntKind.i64.wrap ((IntKind.i64.wrap n5).tdiv 16)) + 1)) : Int).toNat)) : ByteArray).size + ((((⟨#[48, 49, 50, 51, 52, 53, 54, 55, 56, 57, 97, 98, 99, 100, 101, 102]⟩ : ByteArray) : ByteArray).extract ((((IntKind.i64.wrap n5).tmod 16) : Int).toNat) (((IntKind.i64.wrap (((IntKind.i64.wrap n5).tmod 16) + 1)) : Int).toNat)) : ByteArray).size) 9223372036854775807) (
 oif (Nat.ble ((s3 : ByteArray).size + ((((((⟨#[48, 49, 50, 51, 52, 53, 54, 55, 56, 57, 97, 98, 99, 100, 101, 102]⟩ : ByteArray) : ByteArray).extract (((IntKind.i64.wrap ((IntKind.i64.wrap n5).tdiv 16)) : Int).toNat) (((IntKind.i64.wrap ((IntKind.i64.wrap ((IntKind.i64.wrap n5).tdiv 16)) + 1)) : Int).toNat)) : ByteArray) ++ ((((⟨#[48, 49, 50, 51, 52, 53, 54, 55, 56, 57, 97, 98, 99, 100, 101, 102]⟩ : ByteArray) : ByteArray).extract ((((IntKind.i64.wrap n5).tmod 16) : Int).toNat) (((IntKind.i64.wrap (((IntKind.i64.wrap n5).tmod 16) + 1)) : Int).toNat)) : ByteArray)) : ByteArray).size) 9223372036854775807) (
 ag2 (((s3 : ByteArray) ++ ((((((⟨#[48, 49, 50, 51, 52, 53, 54, 55, 56, 57, 97, 98, 99, 100, 101, 102]⟩ : ByteArray) : ByteArray).extract (((IntKind.i64.wrap ((IntKind.i64.wrap n5).tdiv 16)) : Int).toNat) (((IntKind.i64.wrap ((IntKind.i64.wrap ((IntKind.i64.wrap n5).tdiv 16)) + 1)) : Int).toNat)) : ByteArray) ++ ((((⟨#[48, 49, 50, 51, 52, 53, 54, 55, 56, 57, 97, 98, 99, 100, 101, 102]⟩ : ByteArray) : ByteArray).extract ((((IntKind.i64.wrap n5).tmod 16) : Int).toNat) (((IntKind.i64.wrap (((IntKind.i64.wrap n5).tmod 16) + 1)) : Int).toNat)) : ByteArray)) : ByteArray)), (IntKind.i64.wrap (n4 + 1)))) none) none) none) none) none) none) none) none) none) (
 kx245_0_0 s3)
noncomputable def l245_0 (d : Nat) (l1 : List Int) (kx245_0_0 : ByteArray → Option ByteArray) (ag2 : (ByteArray × Int) → Option ByteArray) (s : (ByteArray × Int)) : Option ByteArray := l245_0_b d l1 kx245_0_0 ag2 s.1 s.2
theorem e245 (d : Nat) (l1 : List Int) : g245 (d + 1) l1 =
 iterP (l245_0 d l1 (j245_0 d)) fuelN ((⟨#[]⟩ : ByteArray), 0) := by kernel_rfl

theorem e158 (d : Nat) (x1 : ((List Int) × Int × Int)) (l2 : List Int) : g158 (d + 1) x1 l2 =
 obind (g177 d x1 ((l2.length : Nat) : Int)) fun r3 =>
 oif (decide (0 ≤ (r3.1 : Int))) (
 obind (l2[(r3.1 : Int).toNat]?) fun n4 =>
 some (n4, r3.2)) none := by kernel_rfl

noncomputable def j246_0 (d : Nat)  (l6 : List Int) (l7 : List Int) (n8 : Int) (n9 : Int) : Option ((List Int) × ((List Int) × Int × Int)) :=
 some (l6, (l7, n8, n9))
noncomputable def l246_0_b (d : Nat)  (kx246_0_0 : (List Int) → (List Int) → Int → Int → Option ((List Int) × ((List Int) × Int × Int))) (ag5 : ((List Int) × Int × ((List Int) × Int × Int)) → Option ((List Int) × ((List Int) × Int × Int))) (l6 : List Int) (n7 : Int) (x8 : ((List Int) × Int × Int)) : Option ((List Int) × ((List Int) × Int × Int)) :=
 oif (decide ((n7 : Int) > 0)) (
 obind (g177 d x8 256) fun r9 =>
 obind (g158 d r9.2 [0, 0, 1, 2, 255, r9.1]) fun r10 =>
 oif (Nat.ble ((l6.length + [(IntKind.u8.wrap r10.1)].length) * 1) roomMax) (
 ag5 ((l6 ++ [(IntKind.u8.wrap r10.1)]), (IntKind.i64.wrap (n7 - 1)), r10.2)) none) (
 kx246_0_0 l6 x8.1 x8.2.1 x8.2.2)
noncomputable def l246_0 (d : Nat)  (kx246_0_0 : (List Int) → (List Int) → Int → Int → Option ((List Int) × ((List Int) × Int × Int))) (ag5 : ((List Int) × Int × ((List Int) × Int × Int)) → Option ((List Int) × ((List Int) × Int × Int))) (s : ((List Int) × Int × ((List Int) × Int × Int))) : Option ((List Int) × ((List Int) × Int × Int)) := l246_0_b d kx246_0_0 ag5 s.1 s.2.1 s.2.2
theorem e246 (d : Nat) (x1 : ((List Int) × Int × Int)) : g246 (d + 1) x1 =
 obind (g211 d x1 40) fun r2 =>
 oif r2.1 (
 obind (g177 d r2.2 2) fun r3 =>
 oif (decide (0 ≤ ((IntKind.i64.wrap ((4000 : Int) + r3.1)) : Int))) (
 oif (decide (0 ≤ ((IntKind.i64.wrap ((4000 : Int) + r3.1)) : Int))) (
 oif (Nat.ble (((IntKind.i64.wrap ((4000 : Int) + r3.1)) : Int).toNat) (((IntKind.i64.wrap ((4000 : Int) + r3.1)) : Int).toNat) && Nat.ble ((((IntKind.i64.wrap ((4000 : Int) + r3.1)) : Int).toNat) * 1) roomMax) (
 some ((List.replicate (((IntKind.i64.wrap ((4000 : Int) + r3.1)) : Int).toNat) (0 : Int)), r3.2)) none) none) none) (
 obind (g177 d r2.2 14) fun r4 =>
 iterP (l246_0 d (j246_0 d)) fuelN ([], r4.1, r4.2)) := by kernel_rfl

noncomputable def j247_0 (d : Nat)  (s6 : ByteArray) (l7 : List Int) (n8 : Int) (n9 : Int) : Option (ByteArray × ((List Int) × Int × Int)) :=
 some (s6, (l7, n8, n9))
noncomputable def j247_1 (d : Nat) (kx247_0_0 : ByteArray → (List Int) → Int → Int → Option (ByteArray × ((List Int) × Int × Int))) (s3 : ByteArray) (ag5 : (ByteArray × Int × ((List Int) × Int × Int)) → Option (ByteArray × ((List Int) × Int × Int))) (s6 : ByteArray) (n7 : Int) (x8 : ((List Int) × Int × Int)) (b9 : Bool) (b10 : Bool) : Option (ByteArray × ((List Int) × Int × Int)) :=
 oif b10 (
 obind (g177 d x8 ((s6 : ByteArray).size : Int)) fun r11 =>
 obind (g177 d r11.2 ((s3 : ByteArray).size : Int)) fun r12 =>
 oif (decide (0 ≤ (r12.1 : Int))) (
 obind ((s3 : ByteArray).data.toList[(r12.1 : Int).toNat]?) fun c13 =>
 obind (g177 d r12.2 3) fun r14 =>
 oif ((r14.1 : Int) == 0) (
 oif (decide (0 ≤ (r11.1 : Int))) (
 oif (Nat.ble 0 ((r11.1 : Int).toNat) && Nat.ble ((r11.1 : Int).toNat) (s6 : ByteArray).size) (
 oif (Nat.ble ((((s6 : ByteArray).extract 0 ((r11.1 : Int).toNat)) : ByteArray).size + ((strL [(c13.toNat : Int)]) : ByteArray).size) 9223372036854775807) (
 oif (decide (0 ≤ (r11.1 : Int))) (
 oif (Nat.ble ((r11.1 : Int).toNat) ((s6 : ByteArray).size) && Nat.ble ((s6 : ByteArray).size) (s6 : ByteArray).size) (
 oif (Nat.ble ((((((s6 : ByteArray).extract 0 ((r11.1 : Int).toNat)) : ByteArray) ++ ((strL [(c13.toNat : Int)]) : ByteArray)) : ByteArray).size + (((s6 : ByteArray).extract ((r11.1 : Int).toNat) ((s6 : ByteArray).size)) : ByteArray).size) 9223372036854775807) (
 ag5 (((((((s6 : ByteArray).extract 0 ((r11.1 : Int).toNat)) : ByteArray) ++ ((strL [(c13.toNat : Int)]) : ByteArray)) : ByteArray) ++ (((s6 : ByteArray).extract ((r11.1 : Int).toNat) ((s6 : ByteArray).size)) : ByteArray)), (IntKind.i64.wrap (n7 - 1)), r14.2)) none) none) none) none) none) none) (
 oif ((r14.1 : Int) == 1) (
 oif (decide (0 ≤ (r11.1 : Int))) (
 oif (Nat.ble 0 ((r11.1 : Int).toNat) && Nat.ble ((r11.1 : Int).toNat) (s6 : ByteArray).size) (
 oif (Nat.ble ((((s6 : ByteArray).extract 0 ((r11.1 : Int).toNat)) : ByteArray).size + ((strL [(c13.toNat : Int)]) : ByteArray).size) 9223372036854775807) (
 oif (decide (0 ≤ ((IntKind.i64.wrap (r11.1 + 1)) : Int))) (
 oif (Nat.ble (((IntKind.i64.wrap (r11.1 + 1)) : Int).toNat) ((s6 : ByteArray).size) && Nat.ble ((s6 : ByteArray).size) (s6 : ByteArray).size) (
 oif (Nat.ble ((((((s6 : ByteArray).extract 0 ((r11.1 : Int).toNat)) : ByteArray) ++ ((strL [(c13.toNat : Int)]) : ByteArray)) : ByteArray).size + (((s6 : ByteArray).extract (((IntKind.i64.wrap (r11.1 + 1)) : Int).toNat) ((s6 : ByteArray).size)) : ByteArray).size) 9223372036854775807) (
 ag5 (((((((s6 : ByteArray).extract 0 ((r11.1 : Int).toNat)) : ByteArray) ++ ((strL [(c13.toNat : Int)]) : ByteArray)) : ByteArray) ++ (((s6 : ByteArray).extract (((IntKind.i64.wrap (r11.1 + 1)) : Int).toNat) ((s6 : ByteArray).size)) : ByteArray)), (IntKind.i64.wrap (n7 - 1)), r14.2)) none) none) none) none) none) none) (
 oif (decide (0 ≤ (r11.1 : Int))) (
 oif (Nat.ble 0 ((r11.1 : Int).toNat) && Nat.ble ((r11.1 : Int).toNat) (s6 : ByteArray).size) (
 oif (decide (0 ≤ ((IntKind.i64.wrap (r11.1 + 1)) : Int))) (
 oif (Nat.ble (((IntKind.i64.wrap (r11.1 + 1)) : Int).toNat) ((s6 : ByteArray).size) && Nat.ble ((s6 : ByteArray).size) (s6 : ByteArray).size) (
 oif (Nat.ble ((((s6 : ByteArray).extract 0 ((r11.1 : Int).toNat)) : ByteArray).size + (((s6 : ByteArray).extract (((IntKind.i64.wrap (r11.1 + 1)) : Int).toNat) ((s6 : ByteArray).size)) : ByteArray).size) 9223372036854775807) (
 ag5 (((((s6 : ByteArray).extract 0 ((r11.1 : Int).toNat)) : ByteArray) ++ (((s6 : ByteArray).extract (((IntKind.i64.wrap (r11.1 + 1)) : Int).toNat) ((s6 : ByteArray).size)) : ByteArray)), (IntKind.i64.wrap (n7 - 1)), r14.2)) none) none) none) none) none))) none) (
 kx247_0_0 s6 x8.1 x8.2.1 x8.2.2)
noncomputable def l247_0_b (d : Nat) (s3 : ByteArray) (kx247_0_0 : ByteArray → (List Int) → Int → Int → Option (ByteArray × ((List Int) × Int × Int))) (ag5 : (ByteArray × Int × ((List Int) × Int × Int)) → Option (ByteArray × ((List Int) × Int × Int))) (s6 : ByteArray) (n7 : Int) (x8 : ((List Int) × Int × Int)) : Option (ByteArray × ((List Int) × Int × Int)) :=
 oif (decide ((n7 : Int) > 0)) (
 j247_1 d kx247_0_0 s3 ag5 s6 n7 x8 true (decide ((((s6 : ByteArray).size : Int) : Int) > 0))) (
 j247_1 d kx247_0_0 s3 ag5 s6 n7 x8 false false)
noncomputable def l247_0 (d : Nat) (s3 : ByteArray) (kx247_0_0 : ByteArray → (List Int) → Int → Int → Option (ByteArray × ((List Int) × Int × Int))) (ag5 : (ByteArray × Int × ((List Int) × Int × Int)) → Option (ByteArray × ((List Int) × Int × Int))) (s : (ByteArray × Int × ((List Int) × Int × Int))) : Option (ByteArray × ((List Int) × Int × Int)) := l247_0_b d s3 kx247_0_0 ag5 s.1 s.2.1 s.2.2
theorem e247 (d : Nat) (x1 : ((List Int) × Int × Int)) (s2 : ByteArray) (s3 : ByteArray) : g247 (d + 1) x1 s2 s3 =
 obind (g177 d x1 2) fun r4 =>
 iterP (l247_0 d s3 (j247_0 d)) fuelN (s2, (IntKind.i64.wrap ((1 : Int) + r4.1)), r4.2) := by kernel_rfl

theorem e104 (d : Nat) (l1 : List Int) : g104 (d + 1) l1 =
 obind (g246 d (l1, 0, 0)) fun r2 =>
 obind (g245 d r2.1) fun r3 =>
 obind (g211 d r2.2 3) fun r4 =>
 oif r4.1 (
 obind (g247 d r4.2 r3 (⟨#[48, 102, 103, 65]⟩ : ByteArray)) fun r5 =>
 some r5.1) (
 some r3) := by kernel_rfl

theorem e251 (d : Nat) (n1 : Int) : g251 (d + 1) n1 =
 oif (decide ((n1 : Int) ≥ 48)) (
 some (decide ((n1 : Int) ≤ 57))) (
 some false) := by kernel_rfl

theorem e248 (d : Nat) (n1 : Int) : g248 (d + 1) n1 =
 obind (g251 d n1) fun r2 =>
 oif r2 (
 some (IntKind.i64.wrap (IntKind.u8.wrap (n1 - 48)))) (
 oif (decide ((n1 : Int) ≥ 97)) (
 oif (decide ((n1 : Int) ≤ 102)) (
 some (IntKind.i64.wrap ((IntKind.i64.wrap (IntKind.u8.wrap (n1 - 97))) + 10))) (
 some (-1))) (
 some (-1))) := by kernel_rfl

noncomputable def j105_0 (d : Nat)  (b4 : Bool) (l5 : List Int) (l6 : List Int) : Option ((List Int) × Bool) :=
 some (l6, true)
noncomputable def j105_1 (d : Nat) (ag3 : ((List Int) × Bool × (List Int) × Int) → Option ((List Int) × Bool)) (l4 : List Int) (b5 : Bool) (l6 : List Int) (n7 : Int) (r9 : Int) (r11 : Int) (b12 : Bool) (b13 : Bool) : Option ((List Int) × Bool) :=
 oif b13 (
 some ([], false)) (
 oif (Nat.ble ((l6.length + [(IntKind.u8.wrap (IntKind.i64.wrap ((BitVec.ofInt IntKind.i64.bits (IntKind.i64.wrap (r9 * 2 ^ (min (4 : Int).toNat IntKind.i64.bits))) ||| BitVec.ofInt IntKind.i64.bits r11).toNat : Int)))].length) * 1) roomMax) (
 ag3 (l4, b5, (l6 ++ [(IntKind.u8.wrap (IntKind.i64.wrap ((BitVec.ofInt IntKind.i64.bits (IntKind.i64.wrap (r9 * 2 ^ (min (4 : Int).toNat IntKind.i64.bits))) ||| BitVec.ofInt IntKind.i64.bits r11).toNat : Int)))]), (IntKind.i64.wrap (n7 + 2)))) none)
noncomputable def l105_0_b (d : Nat) (s1 : ByteArray) (kx105_0_0 : Bool → (List Int) → (List Int) → Option ((List Int) × Bool)) (ag3 : ((List Int) × Bool × (List Int) × Int) → Option ((List Int) × Bool)) (l4 : List Int) (b5 : Bool) (l6 : List Int) (n7 : Int) : Option ((List Int) × Bool) :=
 oif (decide ((n7 : Int) < ((s1 : ByteArray).size : Int))) (
 oif (decide (0 ≤ (n7 : Int))) (
 obind ((s1 : ByteArray).data.toList[(n7 : Int).toNat]?) fun c8 =>
 obind (g248 d (c8.toNat : Int)) fun r9 =>
 oif (decide (0 ≤ ((IntKind.i64.wrap (n7 + 1)) : Int))) (
 obind ((s1 : ByteArray).data.toList[((IntKind.i64.wrap (n7 + 1)) : Int).toNat]?) fun c10 =>
 obind (g248 d (c10.toNat : Int)) fun r11 =>
 oif (decide ((r9 : Int) < 0)) (
 j105_1 d ag3 l4 b5 l6 n7 r9 r11 true true) (
 j105_1 d ag3 l4 b5 l6 n7 r9 r11 false (decide ((r11 : Int) < 0)))) none) none) (
 kx105_0_0 b5 l4 l6)
noncomputable def l105_0 (d : Nat) (s1 : ByteArray) (kx105_0_0 : Bool → (List Int) → (List Int) → Option ((List Int) × Bool)) (ag3 : ((List Int) × Bool × (List Int) × Int) → Option ((List Int) × Bool)) (s : ((List Int) × Bool × (List Int) × Int)) : Option ((List Int) × Bool) := l105_0_b d s1 kx105_0_0 ag3 s.1 s.2.1 s.2.2.1 s.2.2.2
noncomputable def j105_2 (d : Nat) (s1 : ByteArray) (b2 : Bool) : Option ((List Int) × Bool) :=
 oif b2 (
 some ([], false)) (
 oif (decide (0 ≤ ((IntKind.i64.wrap (((s1 : ByteArray).size : Int).tdiv 2)) : Int))) (
 oif (Nat.ble 0 (((IntKind.i64.wrap (((s1 : ByteArray).size : Int).tdiv 2)) : Int).toNat) && Nat.ble ((((IntKind.i64.wrap (((s1 : ByteArray).size : Int).tdiv 2)) : Int).toNat) * 1) roomMax) (
 iterP (l105_0 d s1 (j105_0 d)) fuelN ([], false, (List.replicate 0 (0 : Int)), 0)) none) none)
theorem e105 (d : Nat) (s1 : ByteArray) : g105 (d + 1) s1 =
 oif (decide ((((s1 : ByteArray).size : Int) : Int) > 8000)) (
 j105_2 d s1 true) (
 j105_2 d s1 (((((s1 : ByteArray).size : Int).tmod 2) : Int) != 0)) := by kernel_rfl

theorem e256 (d : Nat) (n1 : Int) : g256 (d + 1) n1 =
 some (decide ((n1 : Int) ≤ 4000)) := by kernel_rfl

noncomputable def j307_0 (d : Nat) (n1 : Int) (n2 : Int) (b4 : Bool) : Option Int :=
 oif b4 (
 oif (decide (((IntKind.i64.wrap ((IntKind.i64.wrap (IntKind.u8.wrap (n1 - 97))) + 10)) : Int) ≥ n2)) (
 some (-1)) (
 some (IntKind.i64.wrap ((IntKind.i64.wrap (IntKind.u8.wrap (n1 - 97))) + 10)))) (
 oif (decide (((-1) : Int) ≥ n2)) (
 some (-1)) (
 some (-1)))
noncomputable def j307_1 (d : Nat) (n1 : Int) (n2 : Int) (b3 : Bool) : Option Int :=
 oif b3 (
 oif (decide (((IntKind.i64.wrap (IntKind.u8.wrap (n1 - 48))) : Int) ≥ n2)) (
 some (-1)) (
 some (IntKind.i64.wrap (IntKind.u8.wrap (n1 - 48))))) (
 oif (decide ((n1 : Int) ≥ 97)) (
 j307_0 d n1 n2 (decide ((n1 : Int) ≤ 102))) (
 j307_0 d n1 n2 false))
theorem e307 (d : Nat) (n1 : Int) (n2 : Int) : g307 (d + 1) n1 n2 =
 oif (decide ((n1 : Int) ≥ 48)) (
 j307_1 d n1 n2 (decide ((n1 : Int) ≤ 57))) (
 j307_1 d n1 n2 false) := by kernel_rfl

noncomputable def j249_0 (d : Nat)  (b4 : Bool) (l5 : List Int) (l6 : List Int) : Option ((List Int) × Bool) :=
 some (l6, true)
noncomputable def j249_1 (d : Nat) (ag3 : ((List Int) × Bool × (List Int) × Int) → Option ((List Int) × Bool)) (l4 : List Int) (b5 : Bool) (l6 : List Int) (n7 : Int) (r9 : Int) (r11 : Int) (b12 : Bool) (b13 : Bool) : Option ((List Int) × Bool) :=
 oif b13 (
 some ([], false)) (
 oif (Nat.ble ((l6.length + [(IntKind.u8.wrap (IntKind.i64.wrap ((IntKind.i64.wrap ((16 : Int) * r9)) + r11)))].length) * 1) roomMax) (
 ag3 (l4, b5, (l6 ++ [(IntKind.u8.wrap (IntKind.i64.wrap ((IntKind.i64.wrap ((16 : Int) * r9)) + r11)))]), (IntKind.i64.wrap (n7 + 2)))) none)
noncomputable def l249_0_b (d : Nat) (s1 : ByteArray) (kx249_0_0 : Bool → (List Int) → (List Int) → Option ((List Int) × Bool)) (ag3 : ((List Int) × Bool × (List Int) × Int) → Option ((List Int) × Bool)) (l4 : List Int) (b5 : Bool) (l6 : List Int) (n7 : Int) : Option ((List Int) × Bool) :=
 oif (decide ((n7 : Int) < ((s1 : ByteArray).size : Int))) (
 oif (decide (0 ≤ (n7 : Int))) (
 obind ((s1 : ByteArray).data.toList[(n7 : Int).toNat]?) fun c8 =>
 obind (g307 d (c8.toNat : Int) 16) fun r9 =>
 oif (decide (0 ≤ ((IntKind.i64.wrap (n7 + 1)) : Int))) (
 obind ((s1 : ByteArray).data.toList[((IntKind.i64.wrap (n7 + 1)) : Int).toNat]?) fun c10 =>
 obind (g307 d (c10.toNat : Int) 16) fun r11 =>
 oif (decide ((r9 : Int) < 0)) (
 j249_1 d ag3 l4 b5 l6 n7 r9 r11 true true) (
 j249_1 d ag3 l4 b5 l6 n7 r9 r11 false (decide ((r11 : Int) < 0)))) none) none) (
 kx249_0_0 b5 l4 l6)
noncomputable def l249_0 (d : Nat) (s1 : ByteArray) (kx249_0_0 : Bool → (List Int) → (List Int) → Option ((List Int) × Bool)) (ag3 : ((List Int) × Bool × (List Int) × Int) → Option ((List Int) × Bool)) (s : ((List Int) × Bool × (List Int) × Int)) : Option ((List Int) × Bool) := l249_0_b d s1 kx249_0_0 ag3 s.1 s.2.1 s.2.2.1 s.2.2.2
noncomputable def j249_2 (d : Nat) (s1 : ByteArray) (b2 : Bool) : Option ((List Int) × Bool) :=
 oif b2 (
 some ([], false)) (
 iterP (l249_0 d s1 (j249_0 d)) fuelN ([], false, [], 0))
theorem e249 (d : Nat) (s1 : ByteArray) : g249 (d + 1) s1 =
 oif (((((s1 : ByteArray).size : Int).tmod 2) : Int) != 0) (
 j249_2 d s1 true) (
 obind (g256 d (IntKind.i64.wrap (((s1 : ByteArray).size : Int).tdiv 2))) fun r2 =>
 j249_2 d s1 (!r2)) := by kernel_rfl

theorem e106 (d : Nat) (s1 : ByteArray) : g106 (d + 1) s1 =
 obind (g249 d s1) fun r2 =>
 some (r2.1, r2.2) := by kernel_rfl

theorem e229 (d : Nat) (x1 : ((List Int) × Int × Int)) (l2 : List ByteArray) : g229 (d + 1) x1 l2 =
 obind (g177 d x1 ((l2.length : Nat) : Int)) fun r3 =>
 oif (decide (0 ≤ (r3.1 : Int))) (
 obind (l2[(r3.1 : Int).toNat]?) fun s4 =>
 some (s4, r3.2)) none := by kernel_rfl

noncomputable def j250_0 (d : Nat) (r9 : (Int × ((List Int) × Int × Int))) (s11 : ByteArray) : Option (ByteArray × ((List Int) × Int × Int)) :=
 some (s11, r9.2)
noncomputable def l250_1_b (d : Nat) (r9 : (Int × ((List Int) × Int × Int))) (kx250_1_0 : ByteArray → Option (ByteArray × ((List Int) × Int × Int))) (ag10 : ByteArray → Option (ByteArray × ((List Int) × Int × Int))) (s11 : ByteArray) : Option (ByteArray × ((List Int) × Int × Int)) :=
 oif (decide ((((s11 : ByteArray).size : Int) : Int) < (IntKind.i64.wrap ((4000 : Int) + r9.1)))) (
 oif (Nat.ble ((s11 : ByteArray).size + ((⟨#[49]⟩ : ByteArray) : ByteArray).size) 9223372036854775807) (
 ag10 ((s11 : ByteArray) ++ ((⟨#[49]⟩ : ByteArray) : ByteArray))) none) (
 kx250_1_0 s11)
noncomputable def l250_1 (d : Nat) (r9 : (Int × ((List Int) × Int × Int))) (kx250_1_0 : ByteArray → Option (ByteArray × ((List Int) × Int × Int))) (ag10 : ByteArray → Option (ByteArray × ((List Int) × Int × Int))) (s : ByteArray) : Option (ByteArray × ((List Int) × Int × Int)) := l250_1_b d r9 kx250_1_0 ag10 s
noncomputable def j250_1 (d : Nat)  (s4 : ByteArray) (l5 : List Int) (n6 : Int) (n7 : Int) : Option (ByteArray × ((List Int) × Int × Int)) :=
 obind (g211 d (l5, n6, n7) 40) fun r8 =>
 oif r8.1 (
 obind (g177 d r8.2 2) fun r9 =>
 iterP (l250_1 d r9 (j250_0 d r9)) fuelN s4) (
 some (s4, r8.2))
noncomputable def l250_0_b (d : Nat)  (kx250_0_0 : ByteArray → (List Int) → Int → Int → Option (ByteArray × ((List Int) × Int × Int))) (ag3 : (ByteArray × Int × ((List Int) × Int × Int)) → Option (ByteArray × ((List Int) × Int × Int))) (s4 : ByteArray) (n5 : Int) (x6 : ((List Int) × Int × Int)) : Option (ByteArray × ((List Int) × Int × Int)) :=
 oif (decide ((n5 : Int) > 0)) (
 obind (g229 d x6 [(⟨#[97]⟩ : ByteArray), (⟨#[98, 32]⟩ : ByteArray), (⟨#[10]⟩ : ByteArray), (⟨#[49, 50]⟩ : ByteArray), (⟨#[48]⟩ : ByteArray), (⟨#[48, 120, 49, 102]⟩ : ByteArray), (⟨#[10, 10]⟩ : ByteArray), (⟨#[120, 121, 122]⟩ : ByteArray)]) fun r7 =>
 oif (Nat.ble ((s4 : ByteArray).size + (r7.1 : ByteArray).size) 9223372036854775807) (
 ag3 (((s4 : ByteArray) ++ (r7.1 : ByteArray)), (IntKind.i64.wrap (n5 - 1)), r7.2)) none) (
 kx250_0_0 s4 x6.1 x6.2.1 x6.2.2)
noncomputable def l250_0 (d : Nat)  (kx250_0_0 : ByteArray → (List Int) → Int → Int → Option (ByteArray × ((List Int) × Int × Int))) (ag3 : (ByteArray × Int × ((List Int) × Int × Int)) → Option (ByteArray × ((List Int) × Int × Int))) (s : (ByteArray × Int × ((List Int) × Int × Int))) : Option (ByteArray × ((List Int) × Int × Int)) := l250_0_b d kx250_0_0 ag3 s.1 s.2.1 s.2.2
theorem e250 (d : Nat) (x1 : ((List Int) × Int × Int)) : g250 (d + 1) x1 =
 obind (g177 d x1 8) fun r2 =>
 iterP (l250_0 d (j250_1 d)) fuelN ((⟨#[]⟩ : ByteArray), r2.1, r2.2) := by kernel_rfl

theorem e107 (d : Nat) (l1 : List Int) : g107 (d + 1) l1 =
 obind (g250 d (l1, 0, 0)) fun r2 =>
 obind (g229 d r2.2 [(⟨#[48]⟩ : ByteArray), (⟨#[55]⟩ : ByteArray), (⟨#[48, 48]⟩ : ByteArray), (⟨#[49, 48, 48, 48, 48, 48, 48, 48, 48, 48]⟩ : ByteArray), (⟨#[49, 48, 48, 48, 48, 48, 48, 48, 48, 49]⟩ : ByteArray), (⟨#[57, 57, 57, 57, 57, 57, 57, 57, 57, 57, 57, 57, 57, 57, 57, 57, 57, 57, 57, 57]⟩ : ByteArray), (⟨#[49, 50, 120]⟩ : ByteArray), (⟨#[]⟩ : ByteArray), (⟨#[49, 50]⟩ : ByteArray)]) fun r3 =>
 oif (Nat.ble ((r2.1 : ByteArray).size + (r3.1 : ByteArray).size) 9223372036854775807) (
 obind (g158 d r3.2 [0, 1, (IntKind.i64.wrap (((((r2.1 : ByteArray) ++ (r3.1 : ByteArray)) : ByteArray).size : Int) - 1)), (IntKind.i64.wrap (((((r2.1 : ByteArray) ++ (r3.1 : ByteArray)) : ByteArray).size : Int) - 2)), (IntKind.i64.wrap (((((r2.1 : ByteArray) ++ (r3.1 : ByteArray)) : ByteArray).size : Int) - 10)), ((((r2.1 : ByteArray) ++ (r3.1 : ByteArray)) : ByteArray).size : Int), (IntKind.i64.wrap (((((r2.1 : ByteArray) ++ (r3.1 : ByteArray)) : ByteArray).size : Int) + 1)), (-1)]) fun r4 =>
 some (((r2.1 : ByteArray) ++ (r3.1 : ByteArray)), r4.1)) none := by kernel_rfl

noncomputable def j108_0 (d : Nat)  (n5 : Int) (n6 : Int) (b7 : Bool) (n8 : Int) (n9 : Int) : Option (Int × Int × Bool) :=
 some (n9, n8, true)
noncomputable def j108_1 (d : Nat) (s1 : ByteArray) (ag4 : (Int × Int × Bool × Int × Int) → Option (Int × Int × Bool)) (n5 : Int) (n6 : Int) (b7 : Bool) (n8 : Int) (n9 : Int) (n12 : Int) (b13 : Bool) (b14 : Bool) (b15 : Bool) : Option (Int × Int × Bool) :=
 oif b15 (
 some (0, 0, false)) (
 oif (decide (0 ≤ (n8 : Int))) (
 obind ((s1 : ByteArray).data.toList[(n8 : Int).toNat]?) fun c16 =>
 oif (decide (((IntKind.i64.wrap ((IntKind.i64.wrap ((10 : Int) * n9)) + (IntKind.i64.wrap (IntKind.u8.wrap ((c16.toNat : Int) - 48))))) : Int) > 1000000000)) (
 some (0, 0, false)) (
 ag4 (n5, n6, b7, (IntKind.i64.wrap (n8 + 1)), (IntKind.i64.wrap ((IntKind.i64.wrap ((10 : Int) * n9)) + (IntKind.i64.wrap (IntKind.u8.wrap ((c16.toNat : Int) - 48)))))))) none)
noncomputable def j108_2 (d : Nat) (kx108_0_0 : Int → Int → Bool → Int → Int → Option (Int × Int × Bool)) (s1 : ByteArray) (n2 : Int) (ag4 : (Int × Int × Bool × Int × Int) → Option (Int × Int × Bool)) (n5 : Int) (n6 : Int) (b7 : Bool) (n8 : Int) (n9 : Int) (b10 : Bool) (b11 : Bool) : Option (Int × Int × Bool) :=
 oif b11 (
 oif (decide (0 ≤ (n2 : Int))) (
 obind ((s1 : ByteArray).data.toList[(n2 : Int).toNat]?) fun c12 =>
 oif (((c12.toNat : Int) : Int) == 48) (
 j108_1 d s1 ag4 n5 n6 b7 n8 n9 (c12.toNat : Int) (((c12.toNat : Int) : Int) == 48) true (decide ((n8 : Int) > n2))) (
 j108_1 d s1 ag4 n5 n6 b7 n8 n9 (c12.toNat : Int) (((c12.toNat : Int) : Int) == 48) false false)) none) (
 kx108_0_0 n5 n6 b7 n8 n9)
noncomputable def l108_0_b (d : Nat) (s1 : ByteArray) (n2 : Int) (kx108_0_0 : Int → Int → Bool → Int → Int → Option (Int × Int × Bool)) (ag4 : (Int × Int × Bool × Int × Int) → Option (Int × Int × Bool)) (n5 : Int) (n6 : Int) (b7 : Bool) (n8 : Int) (n9 : Int) : Option (Int × Int × Bool) :=
 oif (decide ((n8 : Int) < ((s1 : ByteArray).size : Int))) (
 oif (decide (0 ≤ (n8 : Int))) (
 obind ((s1 : ByteArray).data.toList[(n8 : Int).toNat]?) fun c10 =>
 obind (g251 d (c10.toNat : Int)) fun r11 =>
 j108_2 d kx108_0_0 s1 n2 ag4 n5 n6 b7 n8 n9 true r11) none) (
 j108_2 d kx108_0_0 s1 n2 ag4 n5 n6 b7 n8 n9 false false)
noncomputable def l108_0 (d : Nat) (s1 : ByteArray) (n2 : Int) (kx108_0_0 : Int → Int → Bool → Int → Int → Option (Int × Int × Bool)) (ag4 : (Int × Int × Bool × Int × Int) → Option (Int × Int × Bool)) (s : (Int × Int × Bool × Int × Int)) : Option (Int × Int × Bool) := l108_0_b d s1 n2 kx108_0_0 ag4 s.1 s.2.1 s.2.2.1 s.2.2.2.1 s.2.2.2.2
noncomputable def j108_3 (d : Nat) (s1 : ByteArray) (n2 : Int) (b3 : Bool) : Option (Int × Int × Bool) :=
 oif b3 (
 some (0, 0, false)) (
 iterP (l108_0 d s1 n2 (j108_0 d)) fuelN (0, 0, false, n2, 0))
theorem e108 (d : Nat) (s1 : ByteArray) (n2 : Int) : g108 (d + 1) s1 n2 =
 oif (decide ((((s1 : ByteArray).size : Int) : Int) > 4000)) (
 j108_3 d s1 n2 true) (
 oif (decide ((n2 : Int) < 0)) (
 j108_3 d s1 n2 true) (
 oif (decide ((n2 : Int) ≥ ((s1 : ByteArray).size : Int))) (
 j108_3 d s1 n2 true) (
 oif (decide (0 ≤ (n2 : Int))) (
 obind ((s1 : ByteArray).data.toList[(n2 : Int).toNat]?) fun c3 =>
 obind (g251 d (c3.toNat : Int)) fun r4 =>
 j108_3 d s1 n2 (!r4)) none))) := by kernel_rfl

theorem e179 (d : Nat) (n1 : Int) (n2 : Int) (n3 : Int) : g179 (d + 1) n1 n2 n3 =
 oif (decide ((n1 : Int) ≥ n2)) (
 some (decide ((n1 : Int) ≤ n3))) (
 some false) := by kernel_rfl

theorem e252 (d : Nat) (s1 : ByteArray) (n2 : Int) : g252 (d + 1) s1 n2 =
 obind (g256 d ((s1 : ByteArray).size : Int)) fun r3 =>
 oif r3 (
 obind (g179 d n2 0 ((s1 : ByteArray).size : Int)) fun r4 =>
 some r4) (
 some false) := by kernel_rfl

noncomputable def j308_0 (d : Nat)  (n6 : Int) (n7 : Int) : Option (Int × Int) :=
 some (n7, n6)
noncomputable def j308_1 (d : Nat) (kx308_0_0 : Int → Int → Option (Int × Int)) (s1 : ByteArray) (n3 : Int) (n4 : Int) (ag5 : (Int × Int) → Option (Int × Int)) (n6 : Int) (n7 : Int) (b8 : Bool) (b9 : Bool) : Option (Int × Int) :=
 oif b9 (
 oif (decide ((n7 : Int) ≤ n4)) (
 oif (decide (0 ≤ (n6 : Int))) (
 obind ((s1 : ByteArray).data.toList[(n6 : Int).toNat]?) fun c10 =>
 obind (g307 d (c10.toNat : Int) n3) fun r11 =>
 ag5 ((IntKind.i64.wrap (n6 + 1)), (IntKind.i64.wrap ((IntKind.i64.wrap (n3 * n7)) + r11)))) none) (
 ag5 ((IntKind.i64.wrap (n6 + 1)), n7))) (
 kx308_0_0 n6 n7)
noncomputable def l308_0_b (d : Nat) (s1 : ByteArray) (n3 : Int) (n4 : Int) (kx308_0_0 : Int → Int → Option (Int × Int)) (ag5 : (Int × Int) → Option (Int × Int)) (n6 : Int) (n7 : Int) : Option (Int × Int) :=
 oif (decide ((n6 : Int) < ((s1 : ByteArray).size : Int))) (
 oif (decide (0 ≤ (n6 : Int))) (
 obind ((s1 : ByteArray).data.toList[(n6 : Int).toNat]?) fun c8 =>
 obind (g307 d (c8.toNat : Int) n3) fun r9 =>
 j308_1 d kx308_0_0 s1 n3 n4 ag5 n6 n7 true (decide ((r9 : Int) ≥ 0))) none) (
 j308_1 d kx308_0_0 s1 n3 n4 ag5 n6 n7 false false)
noncomputable def l308_0 (d : Nat) (s1 : ByteArray) (n3 : Int) (n4 : Int) (kx308_0_0 : Int → Int → Option (Int × Int)) (ag5 : (Int × Int) → Option (Int × Int)) (s : (Int × Int)) : Option (Int × Int) := l308_0_b d s1 n3 n4 kx308_0_0 ag5 s.1 s.2
theorem e308 (d : Nat) (s1 : ByteArray) (n2 : Int) (n3 : Int) (n4 : Int) : g308 (d + 1) s1 n2 n3 n4 =
 iterP (l308_0 d s1 n3 n4 (j308_0 d)) fuelN (n2, 0) := by kernel_rfl

theorem e253 (d : Nat) (s1 : ByteArray) (n2 : Int) : g253 (d + 1) s1 n2 =
 obind (g308 d s1 n2 10 1000000000) fun r3 =>
 oif ((r3.2 : Int) == n2) (
 some (0, (-1))) (
 oif (decide (0 ≤ (n2 : Int))) (
 obind ((s1 : ByteArray).data.toList[(n2 : Int).toNat]?) fun c4 =>
 oif (((c4.toNat : Int) : Int) == 48) (
 oif (decide ((r3.2 : Int) > (IntKind.i64.wrap (n2 + 1)))) (
 some (0, (-1))) (
 oif (decide ((r3.1 : Int) > 1000000000)) (
 some (0, (-1))) (
 some (r3.1, r3.2)))) (
 oif (decide ((r3.1 : Int) > 1000000000)) (
 some (0, (-1))) (
 some (r3.1, r3.2)))) none) := by kernel_rfl

theorem e109 (d : Nat) (s1 : ByteArray) (n2 : Int) : g109 (d + 1) s1 n2 =
 obind (g252 d s1 n2) fun r3 =>
 oif (!r3) (
 some (0, 0, false)) (
 obind (g253 d s1 n2) fun r4 =>
 oif (decide ((r4.2 : Int) < 0)) (
 some (0, 0, false)) (
 some (r4.1, r4.2, true))) := by kernel_rfl

theorem e110 (d : Nat) (l1 : List Int) : g110 (d + 1) l1 =
 obind (g229 d (l1, 0, 0) [(⟨#[48, 120, 48]⟩ : ByteArray), (⟨#[48, 120]⟩ : ByteArray), (⟨#[48, 120, 102, 102, 102, 102, 102, 102, 102, 102]⟩ : ByteArray), (⟨#[48, 120, 49, 48, 48, 48, 48, 48, 48, 48, 48]⟩ : ByteArray), (⟨#[48, 120, 65]⟩ : ByteArray), (⟨#[48, 120, 48, 48, 48, 48, 48, 48, 48, 49]⟩ : ByteArray), (⟨#[48, 120, 49, 102, 103]⟩ : ByteArray), (⟨#[120, 49]⟩ : ByteArray)]) fun r2 =>
 obind (g250 d r2.2) fun r3 =>
 oif (Nat.ble ((r3.1 : ByteArray).size + (r2.1 : ByteArray).size) 9223372036854775807) (
 obind (g158 d r3.2 [(IntKind.i64.wrap (((((r3.1 : ByteArray) ++ (r2.1 : ByteArray)) : ByteArray).size : Int) - ((r2.1 : ByteArray).size : Int))), (IntKind.i64.wrap (((((r3.1 : ByteArray) ++ (r2.1 : ByteArray)) : ByteArray).size : Int) - ((r2.1 : ByteArray).size : Int))), 0, (IntKind.i64.wrap (((((r3.1 : ByteArray) ++ (r2.1 : ByteArray)) : ByteArray).size : Int) - 1)), ((((r3.1 : ByteArray) ++ (r2.1 : ByteArray)) : ByteArray).size : Int), (IntKind.i64.wrap (((((r3.1 : ByteArray) ++ (r2.1 : ByteArray)) : ByteArray).size : Int) + 1)), (-1)]) fun r4 =>
 some (((r3.1 : ByteArray) ++ (r2.1 : ByteArray)), r4.1)) none := by kernel_rfl

noncomputable def j111_0 (d : Nat) (n2 : Int) (n5 : Int) (n6 : Int) (b7 : Bool) (n8 : Int) (n9 : Int) : Option (Int × Int × Bool) :=
 oif ((n8 : Int) == (IntKind.i64.wrap (n2 + 2))) (
 some (0, 0, false)) (
 some (n9, n8, true))
noncomputable def j111_1 (d : Nat) (kx111_0_0 : Int → Int → Bool → Int → Int → Option (Int × Int × Bool)) (s1 : ByteArray) (n2 : Int) (ag4 : (Int × Int × Bool × Int × Int) → Option (Int × Int × Bool)) (n5 : Int) (n6 : Int) (b7 : Bool) (n8 : Int) (n9 : Int) (b10 : Bool) (b11 : Bool) : Option (Int × Int × Bool) :=
 oif b11 (
 oif ((n8 : Int) == (IntKind.i64.wrap (n2 + 10))) (
 some (0, 0, false)) (
 oif (decide (0 ≤ (n8 : Int))) (
 obind ((s1 : ByteArray).data.toList[(n8 : Int).toNat]?) fun c12 =>
 obind (g248 d (c12.toNat : Int)) fun r13 =>
 ag4 (n5, n6, b7, (IntKind.i64.wrap (n8 + 1)), (IntKind.i64.wrap ((BitVec.ofInt IntKind.i64.bits (IntKind.i64.wrap (n9 * 2 ^ (min (4 : Int).toNat IntKind.i64.bits))) ||| BitVec.ofInt IntKind.i64.bits r13).toNat : Int)))) none)) (
 kx111_0_0 n5 n6 b7 n8 n9)
noncomputable def l111_0_b (d : Nat) (s1 : ByteArray) (n2 : Int) (kx111_0_0 : Int → Int → Bool → Int → Int → Option (Int × Int × Bool)) (ag4 : (Int × Int × Bool × Int × Int) → Option (Int × Int × Bool)) (n5 : Int) (n6 : Int) (b7 : Bool) (n8 : Int) (n9 : Int) : Option (Int × Int × Bool) :=
 oif (decide ((n8 : Int) < ((s1 : ByteArray).size : Int))) (
 oif (decide (0 ≤ (n8 : Int))) (
 obind ((s1 : ByteArray).data.toList[(n8 : Int).toNat]?) fun c10 =>
 obind (g248 d (c10.toNat : Int)) fun r11 =>
 j111_1 d kx111_0_0 s1 n2 ag4 n5 n6 b7 n8 n9 true (decide ((r11 : Int) ≥ 0))) none) (
 j111_1 d kx111_0_0 s1 n2 ag4 n5 n6 b7 n8 n9 false false)
noncomputable def l111_0 (d : Nat) (s1 : ByteArray) (n2 : Int) (kx111_0_0 : Int → Int → Bool → Int → Int → Option (Int × Int × Bool)) (ag4 : (Int × Int × Bool × Int × Int) → Option (Int × Int × Bool)) (s : (Int × Int × Bool × Int × Int)) : Option (Int × Int × Bool) := l111_0_b d s1 n2 kx111_0_0 ag4 s.1 s.2.1 s.2.2.1 s.2.2.2.1 s.2.2.2.2
noncomputable def j111_2 (d : Nat) (s1 : ByteArray) (n2 : Int) (b3 : Bool) : Option (Int × Int × Bool) :=
 oif b3 (
 some (0, 0, false)) (
 iterP (l111_0 d s1 n2 (j111_0 d n2)) fuelN (0, 0, false, (IntKind.i64.wrap (n2 + 2)), 0))
theorem e111 (d : Nat) (s1 : ByteArray) (n2 : Int) : g111 (d + 1) s1 n2 =
 oif (decide ((((s1 : ByteArray).size : Int) : Int) > 4000)) (
 j111_2 d s1 n2 true) (
 oif (decide ((n2 : Int) < 0)) (
 j111_2 d s1 n2 true) (
 oif (decide ((n2 : Int) > (IntKind.i64.wrap (((s1 : ByteArray).size : Int) - 3)))) (
 j111_2 d s1 n2 true) (
 oif (decide (0 ≤ (n2 : Int))) (
 obind ((s1 : ByteArray).data.toList[(n2 : Int).toNat]?) fun c3 =>
 oif (((c3.toNat : Int) : Int) != 48) (
 j111_2 d s1 n2 true) (
 oif (decide (0 ≤ ((IntKind.i64.wrap (n2 + 1)) : Int))) (
 obind ((s1 : ByteArray).data.toList[((IntKind.i64.wrap (n2 + 1)) : Int).toNat]?) fun c4 =>
 j111_2 d s1 n2 (((c4.toNat : Int) : Int) != 120)) none)) none))) := by kernel_rfl

noncomputable def j254_0 (d : Nat) (s1 : ByteArray) (n2 : Int) (b3 : Bool) : Option (Int × Int) :=
 oif b3 (
 some (0, (-1))) (
 obind (g308 d s1 (IntKind.i64.wrap (n2 + 2)) 16 4294967295) fun r4 =>
 obind (g179 d (IntKind.i64.wrap ((IntKind.i64.wrap (r4.2 - n2)) - 2)) 1 8) fun r5 =>
 oif (!r5) (
 some (0, (-1))) (
 some (r4.1, r4.2)))
theorem e254 (d : Nat) (s1 : ByteArray) (n2 : Int) : g254 (d + 1) s1 n2 =
 oif (decide (((IntKind.i64.wrap (n2 + 2)) : Int) > ((s1 : ByteArray).size : Int))) (
 j254_0 d s1 n2 true) (
 oif (decide (0 ≤ ((IntKind.i64.wrap (n2 + 2)) : Int))) (
 oif (decide (0 ≤ (n2 : Int))) (
 oif (Nat.ble ((n2 : Int).toNat) (((IntKind.i64.wrap (n2 + 2)) : Int).toNat) && Nat.ble (((IntKind.i64.wrap (n2 + 2)) : Int).toNat) (s1 : ByteArray).size) (
 j254_0 d s1 n2 (!((((s1 : ByteArray).extract ((n2 : Int).toNat) (((IntKind.i64.wrap (n2 + 2)) : Int).toNat)) : ByteArray).toList == ((⟨#[48, 120]⟩ : ByteArray) : ByteArray).toList))) none) none) none) := by kernel_rfl

theorem e112 (d : Nat) (s1 : ByteArray) (n2 : Int) : g112 (d + 1) s1 n2 =
 obind (g252 d s1 n2) fun r3 =>
 oif (!r3) (
 some (0, 0, false)) (
 obind (g254 d s1 n2) fun r4 =>
 oif (decide ((r4.2 : Int) < 0)) (
 some (0, 0, false)) (
 some (r4.1, r4.2, true))) := by kernel_rfl

theorem e113 (d : Nat) (l1 : List Int) : g113 (d + 1) l1 =
 obind (g250 d (l1, 0, 0)) fun r2 =>
 obind (g211 d r2.2 2) fun r3 =>
 oif r3.1 (
 obind (g247 d r3.2 r2.1 (⟨#[9, 10, 126, 32, 0, 31, 127, 255, 13]⟩ : ByteArray)) fun r4 =>
 some r4.1) (
 some r2.1) := by kernel_rfl

theorem e255 (d : Nat) (n1 : Int) : g255 (d + 1) n1 =
 oif (decide ((n1 : Int) ≥ 32)) (
 oif (decide ((n1 : Int) ≤ 126)) (
 some true) (
 oif ((n1 : Int) == 9) (
 some true) (
 some ((n1 : Int) == 10)))) (
 oif ((n1 : Int) == 9) (
 some true) (
 some ((n1 : Int) == 10))) := by kernel_rfl

noncomputable def j114_0 (d : Nat) (s1 : ByteArray) (n3 : Int) (b4 : Bool) : Option (Int × Bool) :=
 some (((s1 : ByteArray).size : Int), true)
noncomputable def l114_0_b (d : Nat) (s1 : ByteArray) (kx114_0_0 : Int → Bool → Option (Int × Bool)) (ag2 : (Int × Bool × Int) → Option (Int × Bool)) (n3 : Int) (b4 : Bool) (n5 : Int) : Option (Int × Bool) :=
 oif (decide ((n5 : Int) < ((s1 : ByteArray).size : Int))) (
 oif (decide (0 ≤ (n5 : Int))) (
 obind ((s1 : ByteArray).data.toList[(n5 : Int).toNat]?) fun c6 =>
 obind (g255 d (c6.toNat : Int)) fun r7 =>
 oif (!r7) (
 some (n5, true)) (
 ag2 (n3, b4, (IntKind.i64.wrap (n5 + 1))))) none) (
 kx114_0_0 n3 b4)
noncomputable def l114_0 (d : Nat) (s1 : ByteArray) (kx114_0_0 : Int → Bool → Option (Int × Bool)) (ag2 : (Int × Bool × Int) → Option (Int × Bool)) (s : (Int × Bool × Int)) : Option (Int × Bool) := l114_0_b d s1 kx114_0_0 ag2 s.1 s.2.1 s.2.2
theorem e114 (d : Nat) (s1 : ByteArray) : g114 (d + 1) s1 =
 oif (decide ((((s1 : ByteArray).size : Int) : Int) > 4000)) (
 some (0, false)) (
 iterP (l114_0 d s1 (j114_0 d s1)) fuelN (0, false, 0)) := by kernel_rfl

theorem e309 (d : Nat) (n1 : Int) : g309 (d + 1) n1 =
 oif (decide ((n1 : Int) ≥ 32)) (
 oif (decide ((n1 : Int) ≤ 126)) (
 some true) (
 oif ((n1 : Int) == 9) (
 some true) (
 some ((n1 : Int) == 10)))) (
 oif ((n1 : Int) == 9) (
 some true) (
 some ((n1 : Int) == 10))) := by kernel_rfl

noncomputable def j257_0 (d : Nat)  (n3 : Int) : Option Int :=
 some n3
noncomputable def l257_0_b (d : Nat) (s1 : ByteArray) (kx257_0_0 : Int → Option Int) (ag2 : Int → Option Int) (n3 : Int) : Option Int :=
 oif (decide ((n3 : Int) < ((s1 : ByteArray).size : Int))) (
 oif (decide (0 ≤ (n3 : Int))) (
 obind ((s1 : ByteArray).data.toList[(n3 : Int).toNat]?) fun c4 =>
 obind (g309 d (c4.toNat : Int)) fun r5 =>
 oif r5 (
 ag2 (IntKind.i64.wrap (n3 + 1))) (
 kx257_0_0 n3)) none) (
 kx257_0_0 n3)
noncomputable def l257_0 (d : Nat) (s1 : ByteArray) (kx257_0_0 : Int → Option Int) (ag2 : Int → Option Int) (s : Int) : Option Int := l257_0_b d s1 kx257_0_0 ag2 s
theorem e257 (d : Nat) (s1 : ByteArray) : g257 (d + 1) s1 =
 iterP (l257_0 d s1 (j257_0 d)) fuelN 0 := by kernel_rfl

theorem e115 (d : Nat) (s1 : ByteArray) : g115 (d + 1) s1 =
 obind (g256 d ((s1 : ByteArray).size : Int)) fun r2 =>
 oif (!r2) (
 some (0, false)) (
 obind (g257 d s1) fun r3 =>
 some (r3, true)) := by kernel_rfl

theorem e116 (d : Nat) (l1 : List Int) : g116 (d + 1) l1 =
 obind (g177 d (l1, 0, 0) 60000) fun r2 =>
 obind (g158 d r2.2 [0, 1, 15, 16, 255, 4294967295, 4294967296, (-1), r2.1]) fun r3 =>
 some r3.1 := by kernel_rfl

noncomputable def j117_0 (d : Nat)  (s4 : ByteArray) : Option (ByteArray × Bool) :=
 oif (Nat.ble (((⟨#[48, 120]⟩ : ByteArray) : ByteArray).size + (s4 : ByteArray).size) 9223372036854775807) (
 some ((((⟨#[48, 120]⟩ : ByteArray) : ByteArray) ++ (s4 : ByteArray)), true)) none
noncomputable def j117_1 (d : Nat) (kx117_0_0 : ByteArray → Option (ByteArray × Bool)) (ag3 : (Int × ByteArray) → Option (ByteArray × Bool)) (n4 : Int) (s5 : ByteArray) (b6 : Bool) (b7 : Bool) : Option (ByteArray × Bool) :=
 oif b7 (
 oif (decide (0 ≤ ((IntKind.i64.wrap ((IntKind.i64.wrap ((BitVec.ofInt IntKind.i64.bits n4 &&& BitVec.ofInt IntKind.i64.bits 15).toNat : Int)) + 1)) : Int))) (
 oif (decide (0 ≤ ((IntKind.i64.wrap ((BitVec.ofInt IntKind.i64.bits n4 &&& BitVec.ofInt IntKind.i64.bits 15).toNat : Int)) : Int))) (
 oif (Nat.ble (((IntKind.i64.wrap ((BitVec.ofInt IntKind.i64.bits n4 &&& BitVec.ofInt IntKind.i64.bits 15).toNat : Int)) : Int).toNat) (((IntKind.i64.wrap ((IntKind.i64.wrap ((BitVec.ofInt IntKind.i64.bits n4 &&& BitVec.ofInt IntKind.i64.bits 15).toNat : Int)) + 1)) : Int).toNat) && Nat.ble (((IntKind.i64.wrap ((IntKind.i64.wrap ((BitVec.ofInt IntKind.i64.bits n4 &&& BitVec.ofInt IntKind.i64.bits 15).toNat : Int)) + 1)) : Int).toNat) ((⟨#[48, 49, 50, 51, 52, 53, 54, 55, 56, 57, 97, 98, 99, 100, 101, 102]⟩ : ByteArray) : ByteArray).size) (
 oif (Nat.ble (((((⟨#[48, 49, 50, 51, 52, 53, 54, 55, 56, 57, 97, 98, 99, 100, 101, 102]⟩ : ByteArray) : ByteArray).extract (((IntKind.i64.wrap ((BitVec.ofInt IntKind.i64.bits n4 &&& BitVec.ofInt IntKind.i64.bits 15).toNat : Int)) : Int).toNat) (((IntKind.i64.wrap ((IntKind.i64.wrap ((BitVec.ofInt IntKind.i64.bits n4 &&& BitVec.ofInt IntKind.i64.bits 15).toNat : Int)) + 1)) : Int).toNat)) : ByteArray).size + (s5 : ByteArray).size) 9223372036854775807) (
 ag3 ((n4.fdiv (2 ^ (min (4 : Int).toNat IntKind.i64.bits))), (((((⟨#[48, 49, 50, 51, 52, 53, 54, 55, 56, 57, 97, 98, 99, 100, 101, 102]⟩ : ByteArray) : ByteArray).extract (((IntKind.i64.wrap ((BitVec.ofInt IntKind.i64.bits n4 &&& BitVec.ofInt IntKind.i64.bits 15).toNat : Int)) : Int).toNat) (((IntKind.i64.wrap ((IntKind.i64.wrap ((BitVec.ofInt IntKind.i64.bits n4 &&& BitVec.ofInt IntKind.i64.bits 15).toNat : Int)) + 1)) : Int).toNat)) : ByteArray) ++ (s5 : ByteArray)))) none) none) none) none) (
 kx117_0_0 s5)
noncomputable def l117_0_b (d : Nat)  (kx117_0_0 : ByteArray → Option (ByteArray × Bool)) (ag3 : (Int × ByteArray) → Option (ByteArray × Bool)) (n4 : Int) (s5 : ByteArray) : Option (ByteArray × Bool) :=
 oif (decide ((n4 : Int) > 0)) (
 j117_1 d kx117_0_0 ag3 n4 s5 true true) (
 j117_1 d kx117_0_0 ag3 n4 s5 false ((s5 : ByteArray).toList == ((⟨#[]⟩ : ByteArray) : ByteArray).toList))
noncomputable def l117_0 (d : Nat)  (kx117_0_0 : ByteArray → Option (ByteArray × Bool)) (ag3 : (Int × ByteArray) → Option (ByteArray × Bool)) (s : (Int × ByteArray)) : Option (ByteArray × Bool) := l117_0_b d kx117_0_0 ag3 s.1 s.2
noncomputable def j117_2 (d : Nat) (n1 : Int) (b2 : Bool) : Option (ByteArray × Bool) :=
 oif b2 (
 some ((⟨#[]⟩ : ByteArray), false)) (
 iterP (l117_0 d (j117_0 d)) fuelN (n1, (⟨#[]⟩ : ByteArray)))
theorem e117 (d : Nat) (n1 : Int) : g117 (d + 1) n1 =
 oif (decide ((n1 : Int) < 0)) (
 j117_2 d n1 true) (
 j117_2 d n1 (decide ((n1 : Int) > 4294967295))) := by kernel_rfl

noncomputable def j258_0 (d : Nat)  (n3 : Int) (s4 : ByteArray) : Option ByteArray :=
 oif (decide (0 ≤ ((IntKind.i64.wrap (n3 + 1)) : Int))) (
 oif (decide (0 ≤ (n3 : Int))) (
 oif (Nat.ble ((n3 : Int).toNat) (((IntKind.i64.wrap (n3 + 1)) : Int).toNat) && Nat.ble (((IntKind.i64.wrap (n3 + 1)) : Int).toNat) ((⟨#[48, 49, 50, 51, 52, 53, 54, 55, 56, 57, 97, 98, 99, 100, 101, 102]⟩ : ByteArray) : ByteArray).size) (
 oif (Nat.ble (((⟨#[48, 120]⟩ : ByteArray) : ByteArray).size + ((((⟨#[48, 49, 50, 51, 52, 53, 54, 55, 56, 57, 97, 98, 99, 100, 101, 102]⟩ : ByteArray) : ByteArray).extract ((n3 : Int).toNat) (((IntKind.i64.wrap (n3 + 1)) : Int).toNat)) : ByteArray).size) 9223372036854775807) (
 oif (Nat.ble (((((⟨#[48, 120]⟩ : ByteArray) : ByteArray) ++ ((((⟨#[48, 49, 50, 51, 52, 53, 54, 55, 56, 57, 97, 98, 99, 100, 101, 102]⟩ : ByteArray) : ByteArray).extract ((n3 : Int).toNat) (((IntKind.i64.wrap (n3 + 1)) : Int).toNat)) : ByteArray)) : ByteArray).size + (s4 : ByteArray).size) 9223372036854775807) (
 some (((((⟨#[48, 120]⟩ : ByteArray) : ByteArray) ++ ((((⟨#[48, 49, 50, 51, 52, 53, 54, 55, 56, 57, 97, 98, 99, 100, 101, 102]⟩ : ByteArray) : ByteArray).extract ((n3 : Int).toNat) (((IntKind.i64.wrap (n3 + 1)) : Int).toNat)) : ByteArray)) : ByteArray) ++ (s4 : ByteArray))) none) none) none) none) none
noncomputable def l258_0_b (d : Nat)  (kx258_0_0 : Int → ByteArray → Option ByteArray) (ag2 : (Int × ByteArray) → Option ByteArray) (n3 : Int) (s4 : ByteArray) : Option ByteArray :=
 oif (decide ((n3 : Int) ≥ 16)) (
 oif (decide (0 ≤ ((IntKind.i64.wrap ((n3.tmod 16) + 1)) : Int))) (
 oif (decide (0 ≤ ((n3.tmod 16) : Int))) (
 oif (Nat.ble (((n3.tmod 16) : Int).toNat) (((IntKind.i64.wrap ((n3.tmod 16) + 1)) : Int).toNat) && Nat.ble (((IntKind.i64.wrap ((n3.tmod 16) + 1)) : Int).toNat) ((⟨#[48, 49, 50, 51, 52, 53, 54, 55, 56, 57, 97, 98, 99, 100, 101, 102]⟩ : ByteArray) : ByteArray).size) (
 oif (Nat.ble (((((⟨#[48, 49, 50, 51, 52, 53, 54, 55, 56, 57, 97, 98, 99, 100, 101, 102]⟩ : ByteArray) : ByteArray).extract (((n3.tmod 16) : Int).toNat) (((IntKind.i64.wrap ((n3.tmod 16) + 1)) : Int).toNat)) : ByteArray).size + (s4 : ByteArray).size) 9223372036854775807) (
 ag2 ((IntKind.i64.wrap (n3.tdiv 16)), (((((⟨#[48, 49, 50, 51, 52, 53, 54, 55, 56, 57, 97, 98, 99, 100, 101, 102]⟩ : ByteArray) : ByteArray).extract (((n3.tmod 16) : Int).toNat) (((IntKind.i64.wrap ((n3.tmod 16) + 1)) : Int).toNat)) : ByteArray) ++ (s4 : ByteArray)))) none) none) none) none) (
 kx258_0_0 n3 s4)
noncomputable def l258_0 (d : Nat)  (kx258_0_0 : Int → ByteArray → Option ByteArray) (ag2 : (Int × ByteArray) → Option ByteArray) (s : (Int × ByteArray)) : Option ByteArray := l258_0_b d kx258_0_0 ag2 s.1 s.2
theorem e258 (d : Nat) (n1 : Int) : g258 (d + 1) n1 =
 iterP (l258_0 d (j258_0 d)) fuelN (n1, (⟨#[]⟩ : ByteArray)) := by kernel_rfl

theorem e118 (d : Nat) (n1 : Int) : g118 (d + 1) n1 =
 obind (g179 d n1 0 4294967295) fun r2 =>
 oif (!r2) (
 some ((⟨#[]⟩ : ByteArray), false)) (
 obind (g258 d n1) fun r3 =>
 some (r3, true)) := by kernel_rfl

theorem e119 (d : Nat) (l1 : List Int) : g119 (d + 1) l1 =
 obind (g246 d (l1, 0, 0)) fun r2 =>
 obind (g177 d r2.2 (IntKind.i64.wrap (((r2.1.length : Nat) : Int) + 2))) fun r3 =>
 obind (g177 d r3.2 20) fun r4 =>
 obind (g177 d r4.2 4) fun r5 =>
 obind (g177 d r5.2 20) fun r6 =>
 some (r2.1, (IntKind.i64.wrap (r3.1 - (IntKind.i64.wrap (r4.1.tdiv 19)))), (IntKind.i64.wrap ((IntKind.i64.wrap ((IntKind.i64.wrap (r3.1 - (IntKind.i64.wrap (r4.1.tdiv 19)))) + r5.1)) - (IntKind.i64.wrap (r6.1.tdiv 19))))) := by kernel_rfl

noncomputable def j120_0 (d : Nat)  (b6 : Bool) (b7 : Bool) : Option (Bool × Bool) :=
 some (true, true)
noncomputable def l120_0_b (d : Nat) (l1 : List Int) (n2 : Int) (n3 : Int) (kx120_0_0 : Bool → Bool → Option (Bool × Bool)) (ag5 : (Bool × Bool × Int) → Option (Bool × Bool)) (b6 : Bool) (b7 : Bool) (n8 : Int) : Option (Bool × Bool) :=
 oif (decide ((n8 : Int) < ((((l1.take ((n3 : Int).toNat)).drop ((n2 : Int).toNat)).length : Nat) : Int))) (
 oif (decide (0 ≤ (n8 : Int))) (
 obind (((l1.take ((n3 : Int).toNat)).drop ((n2 : Int).toNat))[(n8 : Int).toNat]?) fun n9 =>
 oif ((n9 : Int) != 0) (
 some (false, true)) (
 ag5 (b6, b7, (IntKind.i64.wrap (n8 + 1))))) none) (
 kx120_0_0 b6 b7)
noncomputable def l120_0 (d : Nat) (l1 : List Int) (n2 : Int) (n3 : Int) (kx120_0_0 : Bool → Bool → Option (Bool × Bool)) (ag5 : (Bool × Bool × Int) → Option (Bool × Bool)) (s : (Bool × Bool × Int)) : Option (Bool × Bool) := l120_0_b d l1 n2 n3 kx120_0_0 ag5 s.1 s.2.1 s.2.2
noncomputable def j120_1 (d : Nat) (l1 : List Int) (n2 : Int) (n3 : Int) (b4 : Bool) : Option (Bool × Bool) :=
 oif b4 (
 some (false, false)) (
 oif (decide (0 ≤ (n3 : Int))) (
 oif (decide (0 ≤ (n2 : Int))) (
 oif (Nat.ble ((n2 : Int).toNat) ((n3 : Int).toNat) && Nat.ble ((n3 : Int).toNat) l1.length) (
 iterP (l120_0 d l1 n2 n3 (j120_0 d)) fuelN (false, false, 0)) none) none) none)
theorem e120 (d : Nat) (l1 : List Int) (n2 : Int) (n3 : Int) : g120 (d + 1) l1 n2 n3 =
 oif (decide ((((l1.length : Nat) : Int) : Int) > 4000)) (
 j120_1 d l1 n2 n3 true) (
 oif (decide ((n2 : Int) < 0)) (
 j120_1 d l1 n2 n3 true) (
 oif (decide ((n2 : Int) > n3)) (
 j120_1 d l1 n2 n3 true) (
 j120_1 d l1 n2 n3 (decide ((n3 : Int) > ((l1.length : Nat) : Int)))))) := by kernel_rfl

noncomputable def j259_0 (d : Nat)  (b3 : Bool) : Option Bool :=
 some true
noncomputable def l259_0_b (d : Nat) (l1 : List Int) (kx259_0_0 : Bool → Option Bool) (ag2 : (Bool × Int) → Option Bool) (b3 : Bool) (n4 : Int) : Option Bool :=
 oif (decide ((n4 : Int) < ((l1.length : Nat) : Int))) (
 oif (decide (0 ≤ (n4 : Int))) (
 obind (l1[(n4 : Int).toNat]?) fun n5 =>
 oif ((n5 : Int) != 0) (
 some false) (
 ag2 (b3, (IntKind.i64.wrap (n4 + 1))))) none) (
 kx259_0_0 b3)
noncomputable def l259_0 (d : Nat) (l1 : List Int) (kx259_0_0 : Bool → Option Bool) (ag2 : (Bool × Int) → Option Bool) (s : (Bool × Int)) : Option Bool := l259_0_b d l1 kx259_0_0 ag2 s.1 s.2
theorem e259 (d : Nat) (l1 : List Int) : g259 (d + 1) l1 =
 iterP (l259_0 d l1 (j259_0 d)) fuelN (false, 0) := by kernel_rfl

noncomputable def j121_0 (d : Nat) (l1 : List Int) (n2 : Int) (n3 : Int) (b4 : Bool) : Option (Bool × Bool) :=
 oif b4 (
 some (false, false)) (
 oif (decide (0 ≤ (n3 : Int))) (
 oif (decide (0 ≤ (n2 : Int))) (
 oif (Nat.ble ((n2 : Int).toNat) ((n3 : Int).toNat) && Nat.ble ((n3 : Int).toNat) l1.length) (
 obind (g259 d ((l1.take ((n3 : Int).toNat)).drop ((n2 : Int).toNat))) fun r5 =>
 some (r5, true)) none) none) none)
theorem e121 (d : Nat) (l1 : List Int) (n2 : Int) (n3 : Int) : g121 (d + 1) l1 n2 n3 =
 obind (g256 d ((l1.length : Nat) : Int)) fun r4 =>
 oif (!r4) (
 j121_0 d l1 n2 n3 true) (
 obind (g179 d n2 0 ((l1.length : Nat) : Int)) fun r5 =>
 oif (!r5) (
 j121_0 d l1 n2 n3 true) (
 obind (g179 d n3 n2 ((l1.length : Nat) : Int)) fun r6 =>
 j121_0 d l1 n2 n3 (!r6))) := by kernel_rfl

noncomputable def j122_0 (d : Nat)  (b4 : Bool) : Option Bool :=
 some true
noncomputable def l122_0_b (d : Nat) (l1 : List Int) (l2 : List Int) (kx122_0_0 : Bool → Option Bool) (ag3 : (Bool × Int) → Option Bool) (b4 : Bool) (n5 : Int) : Option Bool :=
 oif (decide ((n5 : Int) < ((l1.length : Nat) : Int))) (
 oif (decide (0 ≤ (n5 : Int))) (
 obind (l1[(n5 : Int).toNat]?) fun n6 =>
 oif (decide (0 ≤ (n5 : Int))) (
 obind (l2[(n5 : Int).toNat]?) fun n7 =>
 oif ((n6 : Int) != n7) (
 some false) (
 ag3 (b4, (IntKind.i64.wrap (n5 + 1))))) none) none) (
 kx122_0_0 b4)
noncomputable def l122_0 (d : Nat) (l1 : List Int) (l2 : List Int) (kx122_0_0 : Bool → Option Bool) (ag3 : (Bool × Int) → Option Bool) (s : (Bool × Int)) : Option Bool := l122_0_b d l1 l2 kx122_0_0 ag3 s.1 s.2
theorem e122 (d : Nat) (l1 : List Int) (l2 : List Int) : g122 (d + 1) l1 l2 =
 oif ((((l1.length : Nat) : Int) : Int) != ((l2.length : Nat) : Int)) (
 some false) (
 iterP (l122_0 d l1 l2 (j122_0 d)) fuelN (false, 0)) := by kernel_rfl

noncomputable def j123_0 (d : Nat)  (l3 : List Int) : Option (ByteArray × Bool) :=
 some ((strL l3), true)
noncomputable def l123_0_b (d : Nat) (l1 : List Int) (kx123_0_0 : (List Int) → Option (ByteArray × Bool)) (ag2 : ((List Int) × Int) → Option (ByteArray × Bool)) (l3 : List Int) (n4 : Int) : Option (ByteArray × Bool) :=
 oif (decide ((n4 : Int) < ((l1.length : Nat) : Int))) (
 oif (decide (0 ≤ (n4 : Int))) (
 obind (l1[(n4 : Int).toNat]?) fun n5 =>
 oif (decide (0 ≤ ((n5.fdiv (2 ^ (min (4 : Int).toNat IntKind.u8.bits))) : Int))) (
 obind (((⟨#[48, 49, 50, 51, 52, 53, 54, 55, 56, 57, 97, 98, 99, 100, 101, 102]⟩ : ByteArray) : ByteArray).data.toList[((n5.fdiv (2 ^ (min (4 : Int).toNat IntKind.u8.bits))) : Int).toNat]?) fun c6 =>
 oif (decide (0 ≤ ((IntKind.u8.wrap ((BitVec.ofInt IntKind.u8.bits n5 &&& BitVec.ofInt IntKind.u8.bits 15).toNat : Int)) : Int))) (
 obind (((⟨#[48, 49, 50, 51, 52, 53, 54, 55, 56, 57, 97, 98, 99, 100, 101, 102]⟩ : ByteArray) : ByteArray).data.toList[((IntKind.u8.wrap ((BitVec.ofInt IntKind.u8.bits n5 &&& BitVec.ofInt IntKind.u8.bits 15).toNat : Int)) : Int).toNat]?) fun c7 =>
 oif (Nat.ble ((l3.length + [(c6.toNat : Int), (c7.toNat : Int)].length) * 1) roomMax) (
 ag2 ((l3 ++ [(c6.toNat : Int), (c7.toNat : Int)]), (IntKind.i64.wrap (n4 + 1)))) none) none) none) none) (
 kx123_0_0 l3)
noncomputable def l123_0 (d : Nat) (l1 : List Int) (kx123_0_0 : (List Int) → Option (ByteArray × Bool)) (ag2 : ((List Int) × Int) → Option (ByteArray × Bool)) (s : ((List Int) × Int)) : Option (ByteArray × Bool) := l123_0_b d l1 kx123_0_0 ag2 s.1 s.2
theorem e123 (d : Nat) (l1 : List Int) : g123 (d + 1) l1 =
 oif (decide ((((l1.length : Nat) : Int) : Int) > 4000)) (
 some ((⟨#[]⟩ : ByteArray), false)) (
 oif (decide (0 ≤ ((IntKind.i64.wrap ((2 : Int) * ((l1.length : Nat) : Int))) : Int))) (
 oif (Nat.ble 0 (((IntKind.i64.wrap ((2 : Int) * ((l1.length : Nat) : Int))) : Int).toNat) && Nat.ble ((((IntKind.i64.wrap ((2 : Int) * ((l1.length : Nat) : Int))) : Int).toNat) * 1) roomMax) (
 iterP (l123_0 d l1 (j123_0 d)) fuelN ((List.replicate 0 (0 : Int)), 0)) none) none) := by kernel_rfl

theorem e124 (d : Nat) (l1 : List Int) : g124 (d + 1) l1 =
 obind (g246 d (l1, 0, 0)) fun r2 =>
 some r2.1 := by kernel_rfl

noncomputable def j125_0 (d : Nat)  (n3 : Int) : Option (Int × Bool) :=
 some ((IntKind.i64.wrap ((65535 : Int) - n3)), true)
noncomputable def j125_1 (d : Nat) (ag2 : (Int × Int) → Option (Int × Bool)) (n3 : Int) (n4 : Int) (n6 : Int) (b7 : Bool) : Option (Int × Bool) :=
 oif (decide (((IntKind.i64.wrap (n3 + n6)) : Int) > 65535)) (
 ag2 ((IntKind.i64.wrap ((IntKind.i64.wrap (n3 + n6)) - 65535)), (IntKind.i64.wrap (n4 + 2)))) (
 ag2 ((IntKind.i64.wrap (n3 + n6)), (IntKind.i64.wrap (n4 + 2))))
noncomputable def l125_0_b (d : Nat) (l1 : List Int) (kx125_0_0 : Int → Option (Int × Bool)) (ag2 : (Int × Int) → Option (Int × Bool)) (n3 : Int) (n4 : Int) : Option (Int × Bool) :=
 oif (decide ((n4 : Int) < ((l1.length : Nat) : Int))) (
 oif (decide (0 ≤ (n4 : Int))) (
 obind (l1[(n4 : Int).toNat]?) fun n5 =>
 oif (decide (((IntKind.i64.wrap (n4 + 1)) : Int) < ((l1.length : Nat) : Int))) (
 oif (decide (0 ≤ ((IntKind.i64.wrap (n4 + 1)) : Int))) (
 obind (l1[((IntKind.i64.wrap (n4 + 1)) : Int).toNat]?) fun n6 =>
 j125_1 d ag2 n3 n4 (IntKind.i64.wrap ((BitVec.ofInt IntKind.i64.bits (IntKind.i64.wrap ((IntKind.i64.wrap n5) * 2 ^ (min (8 : Int).toNat IntKind.i64.bits))) ||| BitVec.ofInt IntKind.i64.bits (IntKind.i64.wrap n6)).toNat : Int)) true) none) (
 j125_1 d ag2 n3 n4 (IntKind.i64.wrap ((IntKind.i64.wrap n5) * 2 ^ (min (8 : Int).toNat IntKind.i64.bits))) false)) none) (
 kx125_0_0 n3)
noncomputable def l125_0 (d : Nat) (l1 : List Int) (kx125_0_0 : Int → Option (Int × Bool)) (ag2 : (Int × Int) → Option (Int × Bool)) (s : (Int × Int)) : Option (Int × Bool) := l125_0_b d l1 kx125_0_0 ag2 s.1 s.2
theorem e125 (d : Nat) (l1 : List Int) : g125 (d + 1) l1 =
 oif (decide ((((l1.length : Nat) : Int) : Int) > 4000)) (
 some (0, false)) (
 iterP (l125_0 d l1 (j125_0 d)) fuelN (0, 0)) := by kernel_rfl

noncomputable def j260_0 (d : Nat)  (n3 : Int) : Option Int :=
 some n3
noncomputable def j260_1 (d : Nat) (ag2 : (Int × Int) → Option Int) (n3 : Int) (n4 : Int) (n6 : Int) (b7 : Bool) : Option Int :=
 ag2 ((IntKind.i64.wrap (((IntKind.i64.wrap (n3 + n6)).tmod 65536) + (IntKind.i64.wrap ((IntKind.i64.wrap (n3 + n6)).tdiv 65536)))), (IntKind.i64.wrap (n4 + 1)))
noncomputable def l260_0_b (d : Nat) (l1 : List Int) (kx260_0_0 : Int → Option Int) (ag2 : (Int × Int) → Option Int) (n3 : Int) (n4 : Int) : Option Int :=
 oif (decide ((n4 : Int) < ((l1.length : Nat) : Int))) (
 oif (decide (0 ≤ (n4 : Int))) (
 obind (l1[(n4 : Int).toNat]?) fun n5 =>
 oif (((n4.tmod 2) : Int) == 0) (
 j260_1 d ag2 n3 n4 (IntKind.i64.wrap ((IntKind.i64.wrap n5) * 256)) true) (
 j260_1 d ag2 n3 n4 (IntKind.i64.wrap n5) false)) none) (
 kx260_0_0 n3)
noncomputable def l260_0 (d : Nat) (l1 : List Int) (kx260_0_0 : Int → Option Int) (ag2 : (Int × Int) → Option Int) (s : (Int × Int)) : Option Int := l260_0_b d l1 kx260_0_0 ag2 s.1 s.2
theorem e260 (d : Nat) (l1 : List Int) : g260 (d + 1) l1 =
 iterP (l260_0 d l1 (j260_0 d)) fuelN (0, 0) := by kernel_rfl

theorem e126 (d : Nat) (l1 : List Int) : g126 (d + 1) l1 =
 obind (g256 d ((l1.length : Nat) : Int)) fun r2 =>
 oif (!r2) (
 some (0, false)) (
 obind (g260 d l1) fun r3 =>
 some ((IntKind.i64.wrap ((65535 : Int) - r3)), true)) := by kernel_rfl

noncomputable def j9_0 (d : Nat) (l2 : List Int) (r6 : (ByteArray × Int)) (r7 : (Int × Int × Bool)) (r8 : (Int × Int × Bool))  : Option Bool :=
 obind (g124 d l2) fun r23 =>
 obind (g125 d r23) fun r24 =>
 obind (g126 d r23) fun r25 =>
 oif (r24.2 == r25.2) (
 oif ((r24.1 : Int) == r25.1) (
 oif (!r7.2.2) (
 some true) (
 oif (decide ((r8.2.1 : Int) > r6.2)) (
 some (decide ((r8.1 : Int) ≥ 0))) (
 some false))) (
 some false)) (
 some false)
noncomputable def j9_1 (d : Nat) (l2 : List Int) (r6 : (ByteArray × Int)) (r7 : (Int × Int × Bool)) (r8 : (Int × Int × Bool)) (r12 : ByteArray) (r14 : (Int × Bool)) (b22 : Bool) : Option Bool :=
 oif b22 (
 oif (decide (0 ≤ (r14.1 : Int))) (
 oif (Nat.ble 0 ((r14.1 : Int).toNat) && Nat.ble ((r14.1 : Int).toNat) (r12 : ByteArray).size) (
 obind (g114 d ((r12 : ByteArray).extract 0 ((r14.1 : Int).toNat))) fun r23 =>
 oif (!r23.2) (
 some false) (
 oif ((r23.1 : Int) != r14.1) (
 some false) (
 oif (decide (0 ≤ (r14.1 : Int))) (
 obind ((r12 : ByteArray).data.toList[(r14.1 : Int).toNat]?) fun c24 =>
 oif (((c24.toNat : Int) : Int) == 10) (
 some false) (
 j9_0 d l2 r6 r7 r8)) none))) none) none) (
 j9_0 d l2 r6 r7 r8)
noncomputable def j9_2 (d : Nat) (l2 : List Int) (r6 : (ByteArray × Int)) (r7 : (Int × Int × Bool)) (r8 : (Int × Int × Bool)) (r12 : ByteArray) (r13 : (Int × Bool)) (r14 : (Int × Bool))  : Option Bool :=
 oif r13.2 (
 j9_1 d l2 r6 r7 r8 r12 r14 (decide ((r14.1 : Int) < ((r12 : ByteArray).size : Int)))) (
 j9_1 d l2 r6 r7 r8 r12 r14 false)
noncomputable def j9_3 (d : Nat) (l2 : List Int) (r6 : (ByteArray × Int)) (r7 : (Int × Int × Bool)) (r8 : (Int × Int × Bool)) (r12 : ByteArray) (r13 : (Int × Bool)) (r14 : (Int × Bool)) (r15 : Int) (r16 : (ByteArray × Bool)) (r17 : (ByteArray × Bool))  : Option Bool :=
 oif r16.2 (
 obind (g111 d r16.1 0) fun r22 =>
 oif (!r22.2.2) (
 some false) (
 oif ((r22.1 : Int) != r15) (
 some false) (
 oif ((r22.2.1 : Int) != ((r17.1 : ByteArray).size : Int)) (
 some false) (
 j9_2 d l2 r6 r7 r8 r12 r13 r14)))) (
 j9_2 d l2 r6 r7 r8 r12 r13 r14)
noncomputable def j9_4 (d : Nat) (l2 : List Int) (r3 : ByteArray) (r4 : ((List Int) × Bool)) (r6 : (ByteArray × Int)) (r7 : (Int × Int × Bool)) (r8 : (Int × Int × Bool)) (r12 : ByteArray) (r13 : (Int × Bool)) (r14 : (Int × Bool)) (r15 : Int) (r16 : (ByteArray × Bool)) (r17 : (ByteArray × Bool)) (b21 : Bool) : Option Bool :=
 oif b21 (
 some false) (
 oif r4.2 (
 obind (g123 d r4.1) fun r22 =>
 oif (!r22.2) (
 some false) (
 oif (!((r22.1 : ByteArray).toList == (r3 : ByteArray).toList)) (
 some false) (
 j9_3 d l2 r6 r7 r8 r12 r13 r14 r15 r16 r17))) (
 j9_3 d l2 r6 r7 r8 r12 r13 r14 r15 r16 r17))
theorem e9 (d : Nat) (l1 : List Int) (l2 : List Int) : g9 (d + 1) l1 l2 =
 oif (decide (((IntKind.i64.wrap (((l1.length : Nat) : Int) + ((l2.length : Nat) : Int))) : Int) > 1048576)) (
 some true) (
 obind (g104 d l1) fun r3 =>
 obind (g105 d r3) fun r4 =>
 obind (g106 d r3) fun r5 =>
 obind (g107 d l2) fun r6 =>
 obind (g108 d r6.1 r6.2) fun r7 =>
 obind (g109 d r6.1 r6.2) fun r8 =>
 obind (g110 d l2) fun r9 =>
 obind (g111 d r9.1 r9.2) fun r10 =>
 obind (g112 d r9.1 r9.2) fun r11 =>
 obind (g113 d l2) fun r12 =>
 obind (g114 d r12) fun r13 =>
 obind (g115 d r12) fun r14 =>
 obind (g116 d l2) fun r15 =>
 obind (g117 d r15) fun r16 =>
 obind (g118 d r15) fun r17 =>
 obind (g119 d l2) fun r18 =>
 obind (g120 d r18.1 r18.2.1 r18.2.2) fun r19 =>
 obind (g121 d r18.1 r18.2.1 r18.2.2) fun r20 =>
 oif (!(r4.2 == r5.2)) (
 j9_4 d l2 r3 r4 r6 r7 r8 r12 r13 r14 r15 r16 r17 true) (
 obind (g122 d r4.1 r5.1) fun r21 =>
 oif (!r21) (
 j9_4 d l2 r3 r4 r6 r7 r8 r12 r13 r14 r15 r16 r17 true) (
 oif (!(r7.2.2 == r8.2.2)) (
 j9_4 d l2 r3 r4 r6 r7 r8 r12 r13 r14 r15 r16 r17 true) (
 oif ((r7.1 : Int) != r8.1) (
 j9_4 d l2 r3 r4 r6 r7 r8 r12 r13 r14 r15 r16 r17 true) (
 oif ((r7.2.1 : Int) != r8.2.1) (
 j9_4 d l2 r3 r4 r6 r7 r8 r12 r13 r14 r15 r16 r17 true) (
 oif (!(r10.2.2 == r11.2.2)) (
 j9_4 d l2 r3 r4 r6 r7 r8 r12 r13 r14 r15 r16 r17 true) (
 oif ((r10.1 : Int) != r11.1) (
 j9_4 d l2 r3 r4 r6 r7 r8 r12 r13 r14 r15 r16 r17 true) (
 oif ((r10.2.1 : Int) != r11.2.1) (
 j9_4 d l2 r3 r4 r6 r7 r8 r12 r13 r14 r15 r16 r17 true) (
 oif (!(r13.2 == r14.2)) (
 j9_4 d l2 r3 r4 r6 r7 r8 r12 r13 r14 r15 r16 r17 true) (
 oif ((r13.1 : Int) != r14.1) (
 j9_4 d l2 r3 r4 r6 r7 r8 r12 r13 r14 r15 r16 r17 true) (
 oif (!(r16.2 == r17.2)) (
 j9_4 d l2 r3 r4 r6 r7 r8 r12 r13 r14 r15 r16 r17 true) (
 oif (!((r16.1 : ByteArray).toList == (r17.1 : ByteArray).toList)) (
 j9_4 d l2 r3 r4 r6 r7 r8 r12 r13 r14 r15 r16 r17 true) (
 oif (!(r19.2 == r20.2)) (
 j9_4 d l2 r3 r4 r6 r7 r8 r12 r13 r14 r15 r16 r17 true) (
 j9_4 d l2 r3 r4 r6 r7 r8 r12 r13 r14 r15 r16 r17 (!(r19.1 == r20.1)))))))))))))))) := by kernel_rfl

end Go.Proofs.Ytmjhgkmiafemfaa
