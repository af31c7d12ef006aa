/-
  The residual forms of the program's functions under the interpreter by value, printed by program (wip/pv/gen2.py); each equation is checked by the kernel.
  Conditions: none.
-/
import Derived.Test.YtmjhgkmiafemfaaVDef
import Derived.Test.YtmjhgkmiafemfaaProg
import Derived.KernelRfl
set_option linter.all false
set_option maxRecDepth 1000000
namespace Go.Proofs.Ytmjhgkmiafemfaa
open Go.Ev Go.Pv

theorem fuel_is : ∃ n : Nat, n = 4194304 := ⟨_, rfl⟩
noncomputable def fuelN : Nat := Classical.choose fuel_is
theorem fuelN_eq : fuelN = 4194304 := Classical.choose_spec fuel_is
def pvSig : FuncId → Sig
  | 3 => ⟨[(.ro, (.sl (.int .u8))), (.ro, (.sl (.int .u8)))], [(false, .bool)]⟩
  | 12 => ⟨[(.ro, (.sl (.int .u8))), (.ro, (.sl (.int .u8)))], [(false, .bool)]⟩
  | 13 => ⟨[(.ro, (.sl (.int .u8)))], [(true, (.sl (.pair (.int .i64) (.pair (.int .i64) (.pair (.int .i64) (.pair (.int .i64) (.pair (.int .i64) (.int .i64)))))))), (false, (.int .i64))]⟩
  | 14 => ⟨[(.ro, (.sl (.pair (.int .i64) (.pair (.int .i64) (.pair (.int .i64) (.pair (.int .i64) (.pair (.int .i64) (.int .i64)))))))), (.ro, (.int .i64))], [(true, (.sl (.int .i64))), (false, .bool)]⟩
  | 15 => ⟨[(.ro, (.sl (.pair (.int .i64) (.pair (.int .i64) (.pair (.int .i64) (.pair (.int .i64) (.pair (.int .i64) (.int .i64)))))))), (.ro, (.int .i64))], [(true, (.sl (.int .i64))), (false, .bool)]⟩
  | 16 => ⟨[(.ro, (.sl (.int .i64))), (.ro, (.sl (.int .i64)))], [(false, .bool)]⟩
  | 17 => ⟨[(.ro, (.sl (.pair (.int .i64) (.pair (.int .i64) (.pair (.int .i64) (.pair (.int .i64) (.pair (.int .i64) (.int .i64))))))))], [(false, .bool)]⟩
  | 18 => ⟨[(.ro, (.sl (.pair (.int .i64) (.pair (.int .i64) (.pair (.int .i64) (.pair (.int .i64) (.pair (.int .i64) (.int .i64))))))))], [(false, .bool)]⟩
  | 19 => ⟨[(.ro, (.sl (.pair (.int .i64) (.pair (.int .i64) (.pair (.int .i64) (.pair (.int .i64) (.pair (.int .i64) (.int .i64))))))))], [(false, (.int .i64)), (false, .bool)]⟩
  | 20 => ⟨[(.ro, (.sl (.int .i64)))], [(false, (.int .i64))]⟩
  | 21 => ⟨[(.ro, (.sl (.int .u8)))], [(false, (.pair (.int .i64) (.pair (.int .i64) (.pair (.int .i64) (.pair (.int .i64) (.pair (.int .i64) (.int .i64))))))), (false, (.int .i64)), (false, (.int .i64))]⟩
  | 22 => ⟨[(.ro, (.pair (.int .i64) (.pair (.int .i64) (.pair (.int .i64) (.pair (.int .i64) (.pair (.int .i64) (.int .i64))))))), (.ro, (.int .i64)), (.ro, (.int .i64))], [(false, (.pair (.int .i64) (.pair (.int .i64) (.pair (.int .i64) (.pair (.int .i64) (.pair (.int .i64) (.int .i64))))))), (false, .bool)]⟩
  | 23 => ⟨[(.ro, (.pair (.int .i64) (.pair (.int .i64) (.pair (.int .i64) (.pair (.int .i64) (.pair (.int .i64) (.int .i64))))))), (.ro, (.int .i64)), (.ro, (.int .i64))], [(false, (.pair (.int .i64) (.pair (.int .i64) (.pair (.int .i64) (.pair (.int .i64) (.pair (.int .i64) (.int .i64))))))), (false, .bool)]⟩
  | 24 => ⟨[(.ro, (.sl (.int .u8)))], [(false, (.pair (.int .i64) (.pair (.int .i64) (.pair (.int .i64) (.pair (.int .i64) (.pair (.int .i64) (.int .i64))))))), (false, (.int .i64))]⟩
  | 25 => ⟨[(.ro, (.pair (.int .i64) (.pair (.int .i64) (.pair (.int .i64) (.pair (.int .i64) (.pair (.int .i64) (.int .i64))))))), (.ro, (.int .i64))], [(false, (.int .i64)), (false, .bool)]⟩
  | 26 => ⟨[(.ro, (.pair (.int .i64) (.pair (.int .i64) (.pair (.int .i64) (.pair (.int .i64) (.pair (.int .i64) (.int .i64))))))), (.ro, (.int .i64))], [(false, (.int .i64)), (false, .bool)]⟩
  | 27 => ⟨[(.ro, (.sl (.int .u8)))], [(true, (.sl (.pair (.int .i64) (.pair (.int .i64) (.pair (.int .i64) (.pair (.int .i64) (.pair (.int .i64) (.int .i64))))))))]⟩
  | 28 => ⟨[(.ro, (.sl (.pair (.int .i64) (.pair (.int .i64) (.pair (.int .i64) (.pair (.int .i64) (.pair (.int .i64) (.int .i64))))))))], [(false, (.int .i64)), (false, .bool)]⟩
  | 50 => ⟨[(.ro, (.pair (.int .i64) (.pair (.int .i64) (.pair (.int .i64) (.pair (.int .i64) (.pair (.int .i64) (.int .i64)))))))], [(false, .bool)]⟩
  | 157 => ⟨[(.ps, (.pair (.sl (.int .u8)) (.pair (.int .i64) (.int .u64))))], [(true, (.sl (.pair (.int .i64) (.pair (.int .i64) (.pair (.int .i64) (.pair (.int .i64) (.pair (.int .i64) (.int .i64))))))))]⟩
  | 158 => ⟨[(.ps, (.pair (.sl (.int .u8)) (.pair (.int .i64) (.int .u64)))), (.ro, (.sl (.int .i64)))], [(false, (.int .i64))]⟩
  | 159 => ⟨[(.ro, (.int .i64))], [(false, .bool)]⟩
  | 160 => ⟨[(.ro, (.pair (.int .i64) (.pair (.int .i64) (.pair (.int .i64) (.pair (.int .i64) (.pair (.int .i64) (.int .i64))))))), (.ro, (.int .i64))], [(false, (.int .i64))]⟩
  | 161 => ⟨[(.ro, (.sl (.pair (.int .i64) (.pair (.int .i64) (.pair (.int .i64) (.pair (.int .i64) (.pair (.int .i64) (.int .i64))))))))], [(false, .bool)]⟩
  | 162 => ⟨[(.ro, (.int .i64))], [(false, .bool)]⟩
  | 163 => ⟨[(.ro, (.pair (.int .i64) (.pair (.int .i64) (.pair (.int .i64) (.pair (.int .i64) (.pair (.int .i64) (.int .i64))))))), (.ro, (.int .i64))], [(false, (.int .i64))]⟩
  | 164 => ⟨[(.ro, (.sl (.pair (.int .i64) (.pair (.int .i64) (.pair (.int .i64) (.pair (.int .i64) (.pair (.int .i64) (.int .i64))))))))], [(false, (.int .i64))]⟩
  | 165 => ⟨[(.ps, (.pair (.sl (.int .u8)) (.pair (.int .i64) (.int .u64))))], [(false, (.pair (.int .i64) (.pair (.int .i64) (.pair (.int .i64) (.pair (.int .i64) (.pair (.int .i64) (.int .i64)))))))]⟩
  | 166 => ⟨[(.ro, (.pair (.int .i64) (.pair (.int .i64) (.pair (.int .i64) (.pair (.int .i64) (.pair (.int .i64) (.int .i64)))))))], [(false, .bool)]⟩
  | 167 => ⟨[(.ro, (.int .i64))], [(false, .bool)]⟩
  | 168 => ⟨[(.ro, (.sl (.int .u8)))], [(true, (.sl (.pair (.int .i64) (.pair (.int .i64) (.pair (.int .i64) (.pair (.int .i64) (.pair (.int .i64) (.int .i64))))))))]⟩
  | 169 => ⟨[(.ro, (.sl (.pair (.int .i64) (.pair (.int .i64) (.pair (.int .i64) (.pair (.int .i64) (.pair (.int .i64) (.int .i64))))))))], [(false, (.int .i64))]⟩
  | 177 => ⟨[(.ps, (.pair (.sl (.int .u8)) (.pair (.int .i64) (.int .u64)))), (.ro, (.int .i64))], [(false, (.int .i64))]⟩
  | 179 => ⟨[(.ro, (.int .i64)), (.ro, (.int .i64)), (.ro, (.int .i64))], [(false, .bool)]⟩
  | 191 => ⟨[(.ro, (.pair (.int .i64) (.pair (.int .i64) (.pair (.int .i64) (.pair (.int .i64) (.pair (.int .i64) (.int .i64)))))))], [(false, (.pair (.int .i64) (.pair (.int .i64) (.pair (.int .i64) (.int .i64)))))]⟩
  | 211 => ⟨[(.ps, (.pair (.sl (.int .u8)) (.pair (.int .i64) (.int .u64)))), (.ro, (.int .i64))], [(false, .bool)]⟩
  | 288 => ⟨[(.ps, (.pair (.sl (.int .u8)) (.pair (.int .i64) (.int .u64))))], [(false, (.pair (.int .i64) (.pair (.int .i64) (.pair (.int .i64) (.pair (.int .i64) (.pair (.int .i64) (.int .i64)))))))]⟩
  | 289 => ⟨[(.ps, (.pair (.sl (.int .u8)) (.pair (.int .i64) (.int .u64))))], [(false, (.int .i64))]⟩
  | _ => ⟨[], []⟩
def pvLoops : FuncId → Nat → LoopA
  | 14, 0 => ⟨[(21, false, (.int .i64))], [], [(6, (.int .i64))], []⟩
  | 15, 0 => ⟨[(21, false, (.int .i64))], [], [(6, (.int .i64))], []⟩
  | 16, 0 => ⟨[(4, false, .bool), (13, false, (.int .i64))], [], [], []⟩
  | 17, 0 => ⟨[(2, false, .bool), (7, false, (.int .i64))], [], [], []⟩
  | 20, 0 => ⟨[(3, false, (.int .i64)), (8, false, (.int .i64))], [], [], []⟩
  | 50, 0 => ⟨[(2, false, .bool), (7, false, (.int .i64))], [], [], []⟩
  | 157, 0 => ⟨[(3, true, (.sl (.pair (.int .i64) (.pair (.int .i64) (.pair (.int .i64) (.pair (.int .i64) (.pair (.int .i64) (.int .i64)))))))), (5, false, (.int .i64))], [(0, (.pair (.sl (.int .u8)) (.pair (.int .i64) (.int .u64))))], [], []⟩
  | 160, 0 => ⟨[(5, false, (.int .i64)), (15, false, (.int .i64))], [], [], []⟩
  | 161, 0 => ⟨[(2, false, .bool), (3, false, (.int .i64)), (8, false, (.int .i64))], [], [], []⟩
  | 163, 0 => ⟨[(5, false, (.int .i64)), (16, false, (.int .i64))], [], [], []⟩
  | 164, 0 => ⟨[(3, false, (.int .i64)), (8, false, (.int .i64))], [], [], []⟩
  | 169, 0 => ⟨[(3, false, (.int .i64)), (8, false, (.int .i64))], [], [], []⟩
  | _, _ => ⟨[], [], [], []⟩
def pvEloops : FuncId → Nat → List (Nat × Value)
  | 14, 0 => [(1, (.int .i64 0)), (4, (.slice none 0 0)), (5, (.bool false)), (6, (.slice none 0 0)), (19, (.slice none 0 0)), (20, (.int .i64 0)), (21, (.int .i64 0))]
  | 15, 0 => [(1, (.int .i64 0)), (4, (.slice none 0 0)), (5, (.bool false)), (6, (.slice none 0 0)), (19, (.slice none 0 0)), (20, (.int .i64 0)), (21, (.int .i64 0))]
  | 16, 0 => [(0, (.slice none 0 0)), (1, (.slice none 0 0)), (4, (.bool false)), (12, (.int .i64 0)), (13, (.int .i64 0))]
  | 17, 0 => [(0, (.slice none 0 0)), (2, (.bool false)), (5, (.slice none 0 0)), (6, (.int .i64 0)), (7, (.int .i64 0))]
  | 20, 0 => [(2, (.int .i64 0)), (3, (.int .i64 0)), (6, (.slice none 0 0)), (7, (.int .i64 0)), (8, (.int .i64 0))]
  | 50, 0 => [(1, (.pointer (some ⟨0, 0, none⟩))), (2, (.bool false)), (6, (.agg #[(.int .i64 0), (.int .i64 0), (.int .i64 0), (.int .i64 0)])), (7, (.int .i64 0))]
  | 157, 0 => [(0, (.pointer (some ⟨0, 0, none⟩))), (2, (.slice none 0 0)), (3, (.slice none 0 0)), (4, (.int .i64 0)), (5, (.int .i64 0))]
  | 160, 0 => [(1, (.int .i64 0)), (4, (.int .i64 0)), (5, (.int .i64 0)), (14, (.agg #[(.int .i64 0), (.int .i64 0), (.int .i64 0)])), (15, (.int .i64 0))]
  | 161, 0 => [(0, (.slice none 0 0)), (2, (.bool false)), (3, (.int .i64 0)), (6, (.slice none 0 0)), (7, (.int .i64 0)), (8, (.int .i64 0))]
  | 163, 0 => [(1, (.int .i64 0)), (4, (.int .i64 0)), (5, (.int .i64 0)), (14, (.slice none 0 0)), (15, (.int .i64 0)), (16, (.int .i64 0))]
  | 164, 0 => [(2, (.int .i64 0)), (3, (.int .i64 0)), (6, (.slice none 0 0)), (7, (.int .i64 0)), (8, (.int .i64 0))]
  | 169, 0 => [(2, (.int .i64 0)), (3, (.int .i64 0)), (6, (.slice none 0 0)), (7, (.int .i64 0)), (8, (.int .i64 0))]
  | _, _ => []
def pvInline : FuncId → Bool
  | 216 => true
  | 217 => true
  | 294 => true
  | 310 => true
  | 317 => true
  | 318 => true
  | 333 => true
  | 342 => true
  | _ => false
noncomputable def pvAnn : AnnV := ⟨fuelN, pvSig, pvLoops, pvEloops, pvInline⟩

/-- loop.example/g00838/laws.big -/
noncomputable def g12 (d : Nat) (l1 : List Int) (l2 : List Int) : Option Bool := (lev Try.prog pvAnn d).call 12 (l1, l2)
/-- (*loop.example/g00838/spec.l1Cur).next -/
noncomputable def g289 (d : Nat) (x1 : ((List Int) × Int × Int)) : Option (Int × ((List Int) × Int × Int)) := (lev Try.prog pvAnn d).call 289 (x1)
/-- (*loop.example/g00838/spec.l1Cur).pick -/
noncomputable def g177 (d : Nat) (x1 : ((List Int) × Int × Int)) (n2 : Int) : Option (Int × ((List Int) × Int × Int)) := (lev Try.prog pvAnn d).call 177 (x1, n2)
/-- (*loop.example/g00838/spec.l1Cur).among -/
noncomputable def g158 (d : Nat) (x1 : ((List Int) × Int × Int)) (l2 : List Int) : Option (Int × ((List Int) × Int × Int)) := (lev Try.prog pvAnn d).call 158 (x1, l2)
/-- (*loop.example/g00838/spec.l1Cur).packet -/
noncomputable def g288 (d : Nat) (x1 : ((List Int) × Int × Int)) : Option ((Int × Int × Int × Int × Int × Int) × ((List Int) × Int × Int)) := (lev Try.prog pvAnn d).call 288 (x1)
/-- (*loop.example/g00838/spec.l1Cur).anyPacket -/
noncomputable def g165 (d : Nat) (x1 : ((List Int) × Int × Int)) : Option ((Int × Int × Int × Int × Int × Int) × ((List Int) × Int × Int)) := (lev Try.prog pvAnn d).call 165 (x1)
/-- (*loop.example/g00838/spec.l1Cur).one -/
noncomputable def g211 (d : Nat) (x1 : ((List Int) × Int × Int)) (n2 : Int) : Option (Bool × ((List Int) × Int × Int)) := (lev Try.prog pvAnn d).call 211 (x1, n2)
/-- (*loop.example/g00838/spec.l1Cur).packets -/
noncomputable def g157 (d : Nat) (x1 : ((List Int) × Int × Int)) : Option ((List (Int × Int × Int × Int × Int × Int)) × ((List Int) × Int × Int)) := (lev Try.prog pvAnn d).call 157 (x1)
/-- loop.example/g00838/spec.DrawFlowSizes -/
noncomputable def g13 (d : Nat) (l1 : List Int) : Option ((List (Int × Int × Int × Int × Int × Int)) × Int) := (lev Try.prog pvAnn d).call 13 (l1)
/-- loop.example/g00838/impl.fieldsOf -/
noncomputable def g191 (d : Nat) (x1 : (Int × Int × Int × Int × Int × Int)) : Option (Int × Int × Int × Int) := (lev Try.prog pvAnn d).call 191 (x1)
/-- loop.example/g00838/impl.IsPacket -/
noncomputable def g50 (d : Nat) (x1 : (Int × Int × Int × Int × Int × Int)) : Option Bool := (lev Try.prog pvAnn d).call 50 (x1)
/-- loop.example/g00838/impl.ArePackets -/
noncomputable def g17 (d : Nat) (l1 : List (Int × Int × Int × Int × Int × Int)) : Option Bool := (lev Try.prog pvAnn d).call 17 (l1)
/-- loop.example/g00838/impl.isFlows -/
noncomputable def g159 (d : Nat) (n1 : Int) : Option Bool := (lev Try.prog pvAnn d).call 159 (n1)
/-- loop.example/g00838/impl.flowOf -/
noncomputable def g160 (d : Nat) (x1 : (Int × Int × Int × Int × Int × Int)) (n2 : Int) : Option Int := (lev Try.prog pvAnn d).call 160 (x1, n2)
/-- loop.example/g00838/impl.FlowSizes -/
noncomputable def g14 (d : Nat) (l1 : List (Int × Int × Int × Int × Int × Int)) (n2 : Int) : Option ((List Int) × Bool) := (lev Try.prog pvAnn d).call 14 (l1, n2)
/-- loop.example/g00838/spec.l1In -/
noncomputable def g179 (d : Nat) (n1 : Int) (n2 : Int) (n3 : Int) : Option Bool := (lev Try.prog pvAnn d).call 179 (n1, n2, n3)
/-- loop.example/g00838/spec.pkWord -/
noncomputable def g167 (d : Nat) (n1 : Int) : Option Bool := (lev Try.prog pvAnn d).call 167 (n1)
/-- loop.example/g00838/spec.pkGood -/
noncomputable def g166 (d : Nat) (x1 : (Int × Int × Int × Int × Int × Int)) : Option Bool := (lev Try.prog pvAnn d).call 166 (x1)
/-- loop.example/g00838/spec.pkList -/
noncomputable def g161 (d : Nat) (l1 : List (Int × Int × Int × Int × Int × Int)) : Option Bool := (lev Try.prog pvAnn d).call 161 (l1)
/-- loop.example/g00838/spec.pkFlows -/
noncomputable def g162 (d : Nat) (n1 : Int) : Option Bool := (lev Try.prog pvAnn d).call 162 (n1)
/-- loop.example/g00838/spec.pkFlow -/
noncomputable def g163 (d : Nat) (x1 : (Int × Int × Int × Int × Int × Int)) (n2 : Int) : Option Int := (lev Try.prog pvAnn d).call 163 (x1, n2)
/-- loop.example/g00838/spec.FlowSizes -/
noncomputable def g15 (d : Nat) (l1 : List (Int × Int × Int × Int × Int × Int)) (n2 : Int) : Option ((List Int) × Bool) := (lev Try.prog pvAnn d).call 15 (l1, n2)
/-- loop.example/g00838/laws.sameInts -/
noncomputable def g16 (d : Nat) (l1 : List Int) (l2 : List Int) : Option Bool := (lev Try.prog pvAnn d).call 16 (l1, l2)
/-- loop.example/g00838/spec.ArePackets -/
noncomputable def g18 (d : Nat) (l1 : List (Int × Int × Int × Int × Int × Int)) : Option Bool := (lev Try.prog pvAnn d).call 18 (l1)
/-- loop.example/g00838/impl.sumSizes -/
noncomputable def g164 (d : Nat) (l1 : List (Int × Int × Int × Int × Int × Int)) : Option Int := (lev Try.prog pvAnn d).call 164 (l1)
/-- loop.example/g00838/impl.TotalSize -/
noncomputable def g19 (d : Nat) (l1 : List (Int × Int × Int × Int × Int × Int)) : Option (Int × Bool) := (lev Try.prog pvAnn d).call 19 (l1)
/-- loop.example/g00838/laws.pSum -/
noncomputable def g20 (d : Nat) (l1 : List Int) : Option Int := (lev Try.prog pvAnn d).call 20 (l1)
/-- loop.example/g00838/spec.DrawMarkedPacket -/
noncomputable def g21 (d : Nat) (l1 : List Int) : Option ((Int × Int × Int × Int × Int × Int) × Int × Int) := (lev Try.prog pvAnn d).call 21 (l1)
/-- loop.example/g00838/impl.MarkedPacket -/
noncomputable def g22 (d : Nat) (x1 : (Int × Int × Int × Int × Int × Int)) (n2 : Int) (n3 : Int) : Option ((Int × Int × Int × Int × Int × Int) × Bool) := (lev Try.prog pvAnn d).call 22 (x1, n2, n3)
/-- loop.example/g00838/spec.MarkedPacket -/
noncomputable def g23 (d : Nat) (x1 : (Int × Int × Int × Int × Int × Int)) (n2 : Int) (n3 : Int) : Option ((Int × Int × Int × Int × Int × Int) × Bool) := (lev Try.prog pvAnn d).call 23 (x1, n2, n3)
/-- loop.example/g00838/spec.DrawFlowOf -/
noncomputable def g24 (d : Nat) (l1 : List Int) : Option ((Int × Int × Int × Int × Int × Int) × Int) := (lev Try.prog pvAnn d).call 24 (l1)
/-- loop.example/g00838/impl.FlowOf -/
noncomputable def g25 (d : Nat) (x1 : (Int × Int × Int × Int × Int × Int)) (n2 : Int) : Option (Int × Bool) := (lev Try.prog pvAnn d).call 25 (x1, n2)
/-- loop.example/g00838/spec.FlowOf -/
noncomputable def g26 (d : Nat) (x1 : (Int × Int × Int × Int × Int × Int)) (n2 : Int) : Option (Int × Bool) := (lev Try.prog pvAnn d).call 26 (x1, n2)
/-- loop.example/g00838/spec.DrawArePackets -/
noncomputable def g168 (d : Nat) (l1 : List Int) : Option (List (Int × Int × Int × Int × Int × Int)) := (lev Try.prog pvAnn d).call 168 (l1)
/-- loop.example/g00838/spec.DrawTotalSize -/
noncomputable def g27 (d : Nat) (l1 : List Int) : Option (List (Int × Int × Int × Int × Int × Int)) := (lev Try.prog pvAnn d).call 27 (l1)
/-- loop.example/g00838/spec.pkSum -/
noncomputable def g169 (d : Nat) (l1 : List (Int × Int × Int × Int × Int × Int)) : Option Int := (lev Try.prog pvAnn d).call 169 (l1)
/-- loop.example/g00838/spec.TotalSize -/
noncomputable def g28 (d : Nat) (l1 : List (Int × Int × Int × Int × Int × Int)) : Option (Int × Bool) := (lev Try.prog pvAnn d).call 28 (l1)
/-- loop.example/g00838/laws.FnFlows -/
noncomputable def g3 (d : Nat) (l1 : List Int) (l2 : List Int) : Option Bool := (lev Try.prog pvAnn d).call 3 (l1, l2)

theorem e12 (d : Nat) (l1 : List Int) (l2 : List Int) : g12 (d + 1) l1 l2 =
 oif (decide ((((l1.length : Nat) : Int) : Int) > 1048576)) (
 some true) (
 some (decide ((((l2.length : Nat) : Int) : Int) > (IntKind.i64.wrap ((1048576 : Int) - ((l1.length : Nat) : Int)))))) := by kernel_rfl

noncomputable def j289_0 (d : Nat) (x1 : ((List Int) × Int × Int)) (n2 : Int) : Option (Int × ((List Int) × Int × Int)) :=
 oif (decide (((IntKind.i64.wrap (x1.2.1 + 1)) : Int) ≤ ((x1.1.length : Nat) : Int))) (
 some (n2, (x1.1, (IntKind.i64.wrap (x1.2.1 + 1)), (IntKind.u64.wrap ((IntKind.u64.wrap ((IntKind.u64.wrap (x1.2.2 * 6364136223846793005)) + (IntKind.u64.wrap n2))) + 1442695040888963407))))) (
 some ((IntKind.i64.wrap (IntKind.u64.wrap ((BitVec.ofInt IntKind.u64.bits ((IntKind.u64.wrap ((IntKind.u64.wrap ((IntKind.u64.wrap (x1.2.2 * 6364136223846793005)) + (IntKind.u64.wrap n2))) + 1442695040888963407)).fdiv (2 ^ (min (40 : Int).toNat IntKind.u64.bits))) &&& BitVec.ofInt IntKind.u64.bits 255).toNat : Int))), (x1.1, (IntKind.i64.wrap (x1.2.1 + 1)), (IntKind.u64.wrap ((IntKind.u64.wrap ((IntKind.u64.wrap (x1.2.2 * 6364136223846793005)) + (IntKind.u64.wrap n2))) + 1442695040888963407)))))
theorem e289 (d : Nat) (x1 : ((List Int) × Int × Int)) : g289 (d + 1) x1 =
 oif (decide ((x1.2.1 : Int) < ((x1.1.length : Nat) : Int))) (
 oif (decide (0 ≤ (x1.2.1 : Int))) (
 obind (x1.1[(x1.2.1 : Int).toNat]?) fun n2 =>
 j289_0 d x1 (IntKind.i64.wrap n2)) none) (
 j289_0 d x1 0) := by kernel_rfl

theorem e177 (d : Nat) (x1 : ((List Int) × Int × Int)) (n2 : Int) : g177 (d + 1) x1 n2 =
 oif (decide ((n2 : Int) ≤ 1)) (
 some (0, x1)) (
 obind (g289 d x1) fun r3 =>
 oif (decide ((n2 : Int) > 200)) (
 obind (g289 d r3.2) fun r4 =>
 oif ((n2 : Int) == 0) none (
 some (((IntKind.i64.wrap ((IntKind.i64.wrap (r3.1 * 256)) + r4.1)).tmod n2), r4.2))) (
 oif ((n2 : Int) == 0) none (
 some ((r3.1.tmod n2), r3.2)))) := by kernel_rfl

theorem e158 (d : Nat) (x1 : ((List Int) × Int × Int)) (l2 : List Int) : g158 (d + 1) x1 l2 =
 obind (g177 d x1 ((l2.length : Nat) : Int)) fun r3 =>
 oif (decide (0 ≤ (r3.1 : Int))) (
 obind (l2[(r3.1 : Int).toNat]?) fun n4 =>
 some (n4, r3.2)) none := by kernel_rfl

theorem e288 (d : Nat) (x1 : ((List Int) × Int × Int)) : g288 (d + 1) x1 =
 obind (g177 d x1 60000) fun r2 =>
 obind (g177 d r2.2 60000) fun r3 =>
 obind (g158 d r3.2 [1, 2, 3, 65535, r3.1]) fun r4 =>
 obind (g158 d r4.2 [1, 2, 9]) fun r5 =>
 obind (g158 d r5.2 [22, 80, 443]) fun r6 =>
 obind (g158 d r6.2 [0, 1, 5, 255]) fun r7 =>
 obind (g177 d r7.2 1500) fun r8 =>
 obind (g158 d r8.2 [1, 40, 64, 100, 500, 1000, 1500, (IntKind.i64.wrap ((1 : Int) + r8.1))]) fun r9 =>
 some (((IntKind.i64.wrap ((1 : Int) + r2.1)), r4.1, r5.1, r6.1, r7.1, r9.1), r9.2) := by kernel_rfl

noncomputable def j165_0 (d : Nat) (r2 : ((Int × Int × Int × Int × Int × Int) × ((List Int) × Int × Int))) (n7 : Int) (n8 : Int) (n9 : Int) (l10 : List Int) (n11 : Int) (n12 : Int) : Option ((Int × Int × Int × Int × Int × Int) × ((List Int) × Int × Int)) :=
 some ((r2.1.1, r2.1.2.1, n7, n8, n9, r2.1.2.2.2.2.2), (l10, n11, n12))
theorem e165 (d : Nat) (x1 : ((List Int) × Int × Int)) : g165 (d + 1) x1 =
 obind (g288 d x1) fun r2 =>
 obind (g177 d r2.2 20) fun r3 =>
 oif ((r3.1 : Int) == 0) (
 obind (g158 d r3.2 [0, (-1), 100000, 100001]) fun r4 =>
 some ((r4.1, r2.1.2), r4.2)) (
 oif ((r3.1 : Int) == 1) (
 obind (g158 d r3.2 [(-1), 65536]) fun r5 =>
 some ((r2.1.1, r5.1, r2.1.2.2), r5.2)) (
 oif ((r3.1 : Int) == 2) (
 obind (g158 d r3.2 [0, (-1), 1500, 1501]) fun r6 =>
 some ((r2.1.1, r2.1.2.1, r2.1.2.2.1, r2.1.2.2.2.1, r2.1.2.2.2.2.1, r6.1), r6.2)) (
 oif ((r3.1 : Int) == 3) (
 obind (g158 d r3.2 [(-1), 65535, 65536]) fun r7 =>
 j165_0 d r2 r2.1.2.2.1 r2.1.2.2.2.1 r7.1 r7.2.1 r7.2.2.1 r7.2.2.2) (
 oif ((r3.1 : Int) == 4) (
 obind (g158 d r3.2 [(-1), 65536]) fun r8 =>
 j165_0 d r2 r2.1.2.2.1 r8.1 r2.1.2.2.2.2.1 r8.2.1 r8.2.2.1 r8.2.2.2) (
 oif ((r3.1 : Int) == 5) (
 obind (g158 d r3.2 [(-1), 65536]) fun r9 =>
 j165_0 d r2 r9.1 r2.1.2.2.2.1 r2.1.2.2.2.2.1 r9.2.1 r9.2.2.1 r9.2.2.2) (
 j165_0 d r2 r2.1.2.2.1 r2.1.2.2.2.1 r2.1.2.2.2.2.1 r3.2.1 r3.2.2.1 r3.2.2.2)))))) := by kernel_rfl

theorem e211 (d : Nat) (x1 : ((List Int) × Int × Int)) (n2 : Int) : g211 (d + 1) x1 n2 =
 obind (g177 d x1 n2) fun r3 =>
 some (((r3.1 : Int) == 0), r3.2) := by kernel_rfl

noncomputable def j157_0 (d : Nat) (l12 : List (Int × Int × Int × Int × Int × Int)) (b13 : Bool) (l14 : List Int) (n15 : Int) (n16 : Int) : Option ((List (Int × Int × Int × Int × Int × Int)) × ((List Int) × Int × Int)) :=
 oif b13 (
 obind (g177 d (l14, n15, n16) ((l12.length : Nat) : Int)) fun r17 =>
 obind (g165 d r17.2) fun r18 =>
 oif (decide (0 ≤ (r17.1 : Int))) (
 oif (Nat.blt ((r17.1 : Int).toNat) l12.length) (
 obind (l12[(r17.1 : Int).toNat]?) fun x19 =>
 some ((l12.set ((r17.1 : Int).toNat) r18.1), r18.2)) none) none) (
 some (l12, (l14, n15, n16)))
noncomputable def j157_1 (d : Nat)  (l9 : List Int) (n10 : Int) (n11 : Int) (l12 : List (Int × Int × Int × Int × Int × Int)) : Option ((List (Int × Int × Int × Int × Int × Int)) × ((List Int) × Int × Int)) :=
 oif (decide ((((l12.length : Nat) : Int) : Int) > 0)) (
 obind (g211 d (l9, n10, n11) 12) fun r13 =>
 j157_0 d l12 r13.1 r13.2.1 r13.2.2.1 r13.2.2.2) (
 j157_0 d l12 false l9 n10 n11)
noncomputable def l157_0_b (d : Nat) (n4 : Int) (kx157_0_0 : (List Int) → Int → Int → (List (Int × Int × Int × Int × Int × Int)) → Option ((List (Int × Int × Int × Int × Int × Int)) × ((List Int) × Int × Int))) (ag8 : ((List (Int × Int × Int × Int × Int × Int)) × Int × ((List Int) × Int × Int)) → Option ((List (Int × Int × Int × Int × Int × Int)) × ((List Int) × Int × Int))) (l9 : List (Int × Int × Int × Int × Int × Int)) (n10 : Int) (x11 : ((List Int) × Int × Int)) : Option ((List (Int × Int × Int × Int × Int × Int)) × ((List Int) × Int × Int)) :=
 oif (decide ((n10 : Int) < n4)) (
 obind (g288 d x11) fun r12 =>
 obind (g177 d r12.2 3) fun r13 =>
 oif (Nat.ble ((l9.length + [((IntKind.i64.wrap ((IntKind.i64.wrap ((IntKind.i64.wrap ((3 : Int) * n10)) + 1)) + r13.1)), r12.1.2)].length) * 48) roomMax) (
 ag8 ((l9 ++ [((IntKind.i64.wrap ((IntKind.i64.wrap ((IntKind.i64.wrap ((3 : Int) * n10)) + 1)) + r13.1)), r12.1.2)]), (IntKind.i64.wrap (n10 + 1)), r13.2)) none) (
 kx157_0_0 x11.1 x11.2.1 x11.2.2 l9)
noncomputable def l157_0 (d : Nat) (n4 : Int) (kx157_0_0 : (List Int) → Int → Int → (List (Int × Int × Int × Int × Int × Int)) → Option ((List (Int × Int × Int × Int × Int × Int)) × ((List Int) × Int × Int))) (ag8 : ((List (Int × Int × Int × Int × Int × Int)) × Int × ((List Int) × Int × Int)) → Option ((List (Int × Int × Int × Int × Int × Int)) × ((List Int) × Int × Int))) (s : ((List (Int × Int × Int × Int × Int × Int)) × Int × ((List Int) × Int × Int))) : Option ((List (Int × Int × Int × Int × Int × Int)) × ((List Int) × Int × Int)) := l157_0_b d n4 kx157_0_0 ag8 s.1 s.2.1 s.2.2
noncomputable def j157_2 (d : Nat)  (n4 : Int) (l5 : List Int) (n6 : Int) (n7 : Int) : Option ((List (Int × Int × Int × Int × Int × Int)) × ((List Int) × Int × Int)) :=
 iterP (l157_0 d n4 (j157_1 d)) fuelN ([], 0, (l5, n6, n7))
theorem e157 (d : Nat) (x1 : ((List Int) × Int × Int)) : g157 (d + 1) x1 =
 obind (g177 d x1 10) fun r2 =>
 obind (g211 d r2.2 24) fun r3 =>
 oif r3.1 (
 obind (g177 d r3.2 2) fun r4 =>
 j157_2 d (IntKind.i64.wrap ((60 : Int) + r4.1)) r4.2.1 r4.2.2.1 r4.2.2.2) (
 j157_2 d r2.1 r3.2.1 r3.2.2.1 r3.2.2.2) := by kernel_rfl

theorem e13 (d : Nat) (l1 : List Int) : g13 (d + 1) l1 =
 obind (g157 d (l1, 0, 0)) fun r2 =>
 obind (g158 d r2.2 [1, 2, 4, 8, 64, 65, 0]) fun r3 =>
 some (r2.1, r3.1) := by kernel_rfl

theorem e191 (d : Nat) (x1 : (Int × Int × Int × Int × Int × Int)) : g191 (d + 1) x1 =
 some (x1.2.1, x1.2.2.1, x1.2.2.2.1, x1.2.2.2.2.1) := by kernel_rfl

noncomputable def j50_0 (d : Nat) (x1 : (Int × Int × Int × Int × Int × Int)) (b4 : Bool) : Option Bool :=
 oif (decide ((x1.1 : Int) ≥ 1)) (
 oif (decide ((x1.1 : Int) ≤ 100000)) (
 oif (decide ((x1.2.2.2.2.2 : Int) ≥ 1)) (
 some (decide ((x1.2.2.2.2.2 : Int) ≤ 1500))) (
 some false)) (
 some false)) (
 some false)
noncomputable def l50_0_b (d : Nat) (r2 : (Int × Int × Int × Int)) (kx50_0_0 : Bool → Option Bool) (ag3 : (Bool × Int) → Option Bool) (b4 : Bool) (n5 : Int) : Option Bool :=
 oif (decide ((n5 : Int) < 4)) (
 oif (decide (0 ≤ (n5 : Int))) (
 obind (([r2.1, r2.2.1, r2.2.2.1, r2.2.2.2] : List Int)[(n5 : Int).toNat]?) fun n6 =>
 oif (decide ((n6 : Int) < 0)) (
 some false) (
 oif (decide ((n6 : Int) > 65535)) (
 some false) (
 ag3 (b4, (IntKind.i64.wrap (n5 + 1)))))) none) (
 kx50_0_0 b4)
noncomputable def l50_0 (d : Nat) (r2 : (Int × Int × Int × Int)) (kx50_0_0 : Bool → Option Bool) (ag3 : (Bool × Int) → Option Bool) (s : (Bool × Int)) : Option Bool := l50_0_b d r2 kx50_0_0 ag3 s.1 s.2
theorem e50 (d : Nat) (x1 : (Int × Int × Int × Int × Int × Int)) : g50 (d + 1) x1 =
 obind (g191 d x1) fun r2 =>
 iterP (l50_0 d r2 (j50_0 d x1)) fuelN (false, 0) := by kernel_rfl

noncomputable def j17_0 (d : Nat) (l1 : List (Int × Int × Int × Int × Int × Int)) (b3 : Bool) : Option Bool :=
 some (decide ((((l1.length : Nat) : Int) : Int) ≤ 60))
noncomputable def l17_0_b (d : Nat) (l1 : List (Int × Int × Int × Int × Int × Int)) (kx17_0_0 : Bool → Option Bool) (ag2 : (Bool × Int) → Option Bool) (b3 : Bool) (n4 : Int) : Option Bool :=
 oif (decide ((n4 : Int) < ((l1.length : Nat) : Int))) (
 oif (decide (0 ≤ (n4 : Int))) (
 obind (l1[(n4 : Int).toNat]?) fun x5 =>
 obind (g50 d x5) fun r6 =>
 oif (!r6) (
 some false) (
 oif (decide ((n4 : Int) > 0)) (
 oif (decide (0 ≤ ((IntKind.i64.wrap (n4 - 1)) : Int))) (
 obind (l1[((IntKind.i64.wrap (n4 - 1)) : Int).toNat]?) fun x7 =>
 oif (decide ((x5.1 : Int) ≤ x7.1)) (
 some false) (
 ag2 (b3, (IntKind.i64.wrap (n4 + 1))))) none) (
 ag2 (b3, (IntKind.i64.wrap (n4 + 1)))))) none) (
 kx17_0_0 b3)
noncomputable def l17_0 (d : Nat) (l1 : List (Int × Int × Int × Int × Int × Int)) (kx17_0_0 : Bool → Option Bool) (ag2 : (Bool × Int) → Option Bool) (s : (Bool × Int)) : Option Bool := l17_0_b d l1 kx17_0_0 ag2 s.1 s.2
theorem e17 (d : Nat) (l1 : List (Int × Int × Int × Int × Int × Int)) : g17 (d + 1) l1 =
 iterP (l17_0 d l1 (j17_0 d l1)) fuelN (false, 0) := by kernel_rfl

theorem e159 (d : Nat) (n1 : Int) : g159 (d + 1) n1 =
 oif (decide ((n1 : Int) ≥ 1)) (
 some (decide ((n1 : Int) ≤ 64))) (
 some false) := by kernel_rfl

noncomputable def j160_0 (d : Nat) (n2 : Int) (n4 : Int) : Option Int :=
 oif ((n2 : Int) == 0) none (
 some (n4.tmod n2))
noncomputable def l160_0_b (d : Nat) (x1 : (Int × Int × Int × Int × Int × Int)) (kx160_0_0 : Int → Option Int) (ag3 : (Int × Int) → Option Int) (n4 : Int) (n5 : Int) : Option Int :=
 oif (decide ((n5 : Int) < 3)) (
 oif (decide (0 ≤ (n5 : Int))) (
 obind (([x1.2.1, x1.2.2.1, x1.2.2.2.1] : List Int)[(n5 : Int).toNat]?) fun n6 =>
 ag3 (((IntKind.i64.wrap ((IntKind.i64.wrap ((IntKind.i64.wrap ((31 : Int) * n4)) + n6)) + 7)).tmod 1000003), (IntKind.i64.wrap (n5 + 1)))) none) (
 kx160_0_0 n4)
noncomputable def l160_0 (d : Nat) (x1 : (Int × Int × Int × Int × Int × Int)) (kx160_0_0 : Int → Option Int) (ag3 : (Int × Int) → Option Int) (s : (Int × Int)) : Option Int := l160_0_b d x1 kx160_0_0 ag3 s.1 s.2
theorem e160 (d : Nat) (x1 : (Int × Int × Int × Int × Int × Int)) (n2 : Int) : g160 (d + 1) x1 n2 =
 iterP (l160_0 d x1 (j160_0 d n2)) fuelN (40503, 0) := by kernel_rfl

noncomputable def j14_0 (d : Nat)  (l5 : List Int) : Option ((List Int) × Bool) :=
 some (l5, true)
noncomputable def l14_0_b (d : Nat) (l1 : List (Int × Int × Int × Int × Int × Int)) (n2 : Int) (kx14_0_0 : (List Int) → Option ((List Int) × Bool)) (ag4 : (Int × (List Int)) → Option ((List Int) × Bool)) (n5 : Int) (l6 : List Int) : Option ((List Int) × Bool) :=
 oif (decide ((n5 : Int) < ((l1.length : Nat) : Int))) (
 oif (decide (0 ≤ (n5 : Int))) (
 obind (l1[(n5 : Int).toNat]?) fun x7 =>
 obind (g160 d x7 n2) fun r8 =>
 oif (decide (0 ≤ (r8 : Int))) (
 oif (Nat.blt ((r8 : Int).toNat) l6.length) (
 obind (l6[(r8 : Int).toNat]?) fun n9 =>
 oif (decide (0 ≤ (r8 : Int))) (
 oif (Nat.blt ((r8 : Int).toNat) l6.length) (
 obind (l6[(r8 : Int).toNat]?) fun n10 =>
 ag4 ((IntKind.i64.wrap (n5 + 1)), (l6.set ((r8 : Int).toNat) (IntKind.i64.wrap (n9 + x7.2.2.2.2.2))))) none) none) none) none) none) (
 kx14_0_0 l6)
noncomputable def l14_0 (d : Nat) (l1 : List (Int × Int × Int × Int × Int × Int)) (n2 : Int) (kx14_0_0 : (List Int) → Option ((List Int) × Bool)) (ag4 : (Int × (List Int)) → Option ((List Int) × Bool)) (s : (Int × (List Int))) : Option ((List Int) × Bool) := l14_0_b d l1 n2 kx14_0_0 ag4 s.1 s.2
noncomputable def j14_1 (d : Nat) (l1 : List (Int × Int × Int × Int × Int × Int)) (n2 : Int) (b3 : Bool) : Option ((List Int) × Bool) :=
 oif b3 (
 some ([], false)) (
 oif (decide (0 ≤ (n2 : Int))) (
 oif (decide (0 ≤ (n2 : Int))) (
 oif (Nat.ble ((n2 : Int).toNat) ((n2 : Int).toNat) && Nat.ble (((n2 : Int).toNat) * 8) roomMax) (
 iterP (l14_0 d l1 n2 (j14_0 d)) fuelN (0, (List.replicate ((n2 : Int).toNat) (0 : Int)))) none) none) none)
theorem e14 (d : Nat) (l1 : List (Int × Int × Int × Int × Int × Int)) (n2 : Int) : g14 (d + 1) l1 n2 =
 obind (g17 d l1) fun r3 =>
 oif (!r3) (
 j14_1 d l1 n2 true) (
 obind (g159 d n2) fun r4 =>
 j14_1 d l1 n2 (!r4)) := by kernel_rfl

theorem e179 (d : Nat) (n1 : Int) (n2 : Int) (n3 : Int) : g179 (d + 1) n1 n2 n3 =
 oif (decide ((n1 : Int) ≥ n2)) (
 some (decide ((n1 : Int) ≤ n3))) (
 some false) := by kernel_rfl

theorem e167 (d : Nat) (n1 : Int) : g167 (d + 1) n1 =
 obind (g179 d n1 0 65535) fun r2 =>
 some r2 := by kernel_rfl

theorem e166 (d : Nat) (x1 : (Int × Int × Int × Int × Int × Int)) : g166 (d + 1) x1 =
 obind (g179 d x1.1 1 100000) fun r2 =>
 oif r2 (
 obind (g167 d x1.2.1) fun r3 =>
 oif r3 (
 obind (g167 d x1.2.2.1) fun r4 =>
 oif r4 (
 obind (g167 d x1.2.2.2.1) fun r5 =>
 oif r5 (
 obind (g167 d x1.2.2.2.2.1) fun r6 =>
 oif r6 (
 obind (g179 d x1.2.2.2.2.2 1 1500) fun r7 =>
 some r7) (
 some false)) (
 some false)) (
 some false)) (
 some false)) (
 some false) := by kernel_rfl

noncomputable def j161_0 (d : Nat) (l1 : List (Int × Int × Int × Int × Int × Int)) (b3 : Bool) : Option Bool :=
 some (decide ((((l1.length : Nat) : Int) : Int) ≤ 60))
noncomputable def l161_0_b (d : Nat) (l1 : List (Int × Int × Int × Int × Int × Int)) (kx161_0_0 : Bool → Option Bool) (ag2 : (Bool × Int × Int) → Option Bool) (b3 : Bool) (n4 : Int) (n5 : Int) : Option Bool :=
 oif (decide ((n5 : Int) < ((l1.length : Nat) : Int))) (
 oif (decide (0 ≤ (n5 : Int))) (
 obind (l1[(n5 : Int).toNat]?) fun x6 =>
 obind (g166 d x6) fun r7 =>
 oif (!r7) (
 some false) (
 oif (decide ((x6.1 : Int) ≤ n4)) (
 some false) (
 ag2 (b3, x6.1, (IntKind.i64.wrap (n5 + 1)))))) none) (
 kx161_0_0 b3)
noncomputable def l161_0 (d : Nat) (l1 : List (Int × Int × Int × Int × Int × Int)) (kx161_0_0 : Bool → Option Bool) (ag2 : (Bool × Int × Int) → Option Bool) (s : (Bool × Int × Int)) : Option Bool := l161_0_b d l1 kx161_0_0 ag2 s.1 s.2.1 s.2.2
theorem e161 (d : Nat) (l1 : List (Int × Int × Int × Int × Int × Int)) : g161 (d + 1) l1 =
 iterP (l161_0 d l1 (j161_0 d l1)) fuelN (false, 0, 0) := by kernel_rfl

theorem e162 (d : Nat) (n1 : Int) : g162 (d + 1) n1 =
 obind (g179 d n1 1 64) fun r2 =>
 some r2 := by kernel_rfl

noncomputable def j163_0 (d : Nat) (n2 : Int) (n4 : Int) : Option Int :=
 oif ((n2 : Int) == 0) none (
 some (n4.tmod n2))
noncomputable def l163_0_b (d : Nat) (x1 : (Int × Int × Int × Int × Int × Int)) (kx163_0_0 : Int → Option Int) (ag3 : (Int × Int) → Option Int) (n4 : Int) (n5 : Int) : Option Int :=
 oif (decide ((n5 : Int) < (([x1.2.1, x1.2.2.1, x1.2.2.2.1].length : Nat) : Int))) (
 oif (decide (0 ≤ (n5 : Int))) (
 oif (Nat.blt ((n5 : Int).toNat) ([x1.2.1, x1.2.2.1, x1.2.2.2.1].length)) (
 obind ([x1.2.1, x1.2.2.1, x1.2.2.2.1][(n5 : Int).toNat]?) fun n6 =>
 ag3 (((IntKind.i64.wrap ((IntKind.i64.wrap ((IntKind.i64.wrap ((31 : Int) * n4)) + n6)) + 7)).tmod 1000003), (IntKind.i64.wrap (n5 + 1)))) none) none) (
 kx163_0_0 n4)
noncomputable def l163_0 (d : Nat) (x1 : (Int × Int × Int × Int × Int × Int)) (kx163_0_0 : Int → Option Int) (ag3 : (Int × Int) → Option Int) (s : (Int × Int)) : Option Int := l163_0_b d x1 kx163_0_0 ag3 s.1 s.2
theorem e163 (d : Nat) (x1 : (Int × Int × Int × Int × Int × Int)) (n2 : Int) : g163 (d + 1) x1 n2 =
 iterP (l163_0 d x1 (j163_0 d n2)) fuelN (40503, 0) := by kernel_rfl

noncomputable def j15_0 (d : Nat)  (l5 : List Int) : Option ((List Int) × Bool) :=
 some (l5, true)
noncomputable def l15_0_b (d : Nat) (l1 : List (Int × Int × Int × Int × Int × Int)) (n2 : Int) (kx15_0_0 : (List Int) → Option ((List Int) × Bool)) (ag4 : (Int × (List Int)) → Option ((List Int) × Bool)) (n5 : Int) (l6 : List Int) : Option ((List Int) × Bool) :=
 oif (decide ((n5 : Int) < ((l1.length : Nat) : Int))) (
 oif (decide (0 ≤ (n5 : Int))) (
 obind (l1[(n5 : Int).toNat]?) fun x7 =>
 obind (g163 d x7 n2) fun r8 =>
 oif (decide (0 ≤ (r8 : Int))) (
 oif (Nat.blt ((r8 : Int).toNat) l6.length) (
 obind (l6[(r8 : Int).toNat]?) fun n9 =>
 oif (decide (0 ≤ (r8 : Int))) (
 oif (Nat.blt ((r8 : Int).toNat) l6.length) (
 obind (l6[(r8 : Int).toNat]?) fun n10 =>
 ag4 ((IntKind.i64.wrap (n5 + 1)), (l6.set ((r8 : Int).toNat) (IntKind.i64.wrap (n9 + x7.2.2.2.2.2))))) none) none) none) none) none) (
 kx15_0_0 l6)
noncomputable def l15_0 (d : Nat) (l1 : List (Int × Int × Int × Int × Int × Int)) (n2 : Int) (kx15_0_0 : (List Int) → Option ((List Int) × Bool)) (ag4 : (Int × (List Int)) → Option ((List Int) × Bool)) (s : (Int × (List Int))) : Option ((List Int) × Bool) := l15_0_b d l1 n2 kx15_0_0 ag4 s.1 s.2
noncomputable def j15_1 (d : Nat) (l1 : List (Int × Int × Int × Int × Int × Int)) (n2 : Int) (b3 : Bool) : Option ((List Int) × Bool) :=
 oif b3 (
 some ([], false)) (
 oif (decide (0 ≤ (n2 : Int))) (
 oif (decide (0 ≤ (n2 : Int))) (
 oif (Nat.ble ((n2 : Int).toNat) ((n2 : Int).toNat) && Nat.ble (((n2 : Int).toNat) * 8) roomMax) (
 iterP (l15_0 d l1 n2 (j15_0 d)) fuelN (0, (List.replicate ((n2 : Int).toNat) (0 : Int)))) none) none) none)
theorem e15 (d : Nat) (l1 : List (Int × Int × Int × Int × Int × Int)) (n2 : Int) : g15 (d + 1) l1 n2 =
 obind (g161 d l1) fun r3 =>
 oif (!r3) (
 j15_1 d l1 n2 true) (
 obind (g162 d n2) fun r4 =>
 j15_1 d l1 n2 (!r4)) := by kernel_rfl

noncomputable def j16_0 (d : Nat)  (b4 : Bool) : Option Bool :=
 some true
noncomputable def l16_0_b (d : Nat) (l1 : List Int) (l2 : List Int) (kx16_0_0 : Bool → Option Bool) (ag3 : (Bool × Int) → Option Bool) (b4 : Bool) (n5 : Int) : Option Bool :=
 oif (decide ((n5 : Int) < ((l1.length : Nat) : Int))) (
 oif (decide (0 ≤ (n5 : Int))) (
 obind (l1[(n5 : Int).toNat]?) fun n6 =>
 oif (decide (0 ≤ (n5 : Int))) (
 obind (l2[(n5 : Int).toNat]?) fun n7 =>
 oif ((n6 : Int) != n7) (
 some false) (
 ag3 (b4, (IntKind.i64.wrap (n5 + 1))))) none) none) (
 kx16_0_0 b4)
noncomputable def l16_0 (d : Nat) (l1 : List Int) (l2 : List Int) (kx16_0_0 : Bool → Option Bool) (ag3 : (Bool × Int) → Option Bool) (s : (Bool × Int)) : Option Bool := l16_0_b d l1 l2 kx16_0_0 ag3 s.1 s.2
theorem e16 (d : Nat) (l1 : List Int) (l2 : List Int) : g16 (d + 1) l1 l2 =
 oif ((((l1.length : Nat) : Int) : Int) != ((l2.length : Nat) : Int)) (
 some false) (
 iterP (l16_0 d l1 l2 (j16_0 d)) fuelN (false, 0)) := by kernel_rfl

theorem e18 (d : Nat) (l1 : List (Int × Int × Int × Int × Int × Int)) : g18 (d + 1) l1 =
 obind (g161 d l1) fun r2 =>
 some r2 := by kernel_rfl

noncomputable def j164_0 (d : Nat)  (n3 : Int) : Option Int :=
 some n3
noncomputable def l164_0_b (d : Nat) (l1 : List (Int × Int × Int × Int × Int × Int)) (kx164_0_0 : Int → Option Int) (ag2 : (Int × Int) → Option Int) (n3 : Int) (n4 : Int) : Option Int :=
 oif (decide ((n4 : Int) < ((l1.length : Nat) : Int))) (
 oif (decide (0 ≤ (n4 : Int))) (
 obind (l1[(n4 : Int).toNat]?) fun x5 =>
 ag2 ((IntKind.i64.wrap (n3 + x5.2.2.2.2.2)), (IntKind.i64.wrap (n4 + 1)))) none) (
 kx164_0_0 n3)
noncomputable def l164_0 (d : Nat) (l1 : List (Int × Int × Int × Int × Int × Int)) (kx164_0_0 : Int → Option Int) (ag2 : (Int × Int) → Option Int) (s : (Int × Int)) : Option Int := l164_0_b d l1 kx164_0_0 ag2 s.1 s.2
theorem e164 (d : Nat) (l1 : List (Int × Int × Int × Int × Int × Int)) : g164 (d + 1) l1 =
 iterP (l164_0 d l1 (j164_0 d)) fuelN (0, 0) := by kernel_rfl

theorem e19 (d : Nat) (l1 : List (Int × Int × Int × Int × Int × Int)) : g19 (d + 1) l1 =
 obind (g17 d l1) fun r2 =>
 oif (!r2) (
 some (0, false)) (
 obind (g164 d l1) fun r3 =>
 some (r3, true)) := by kernel_rfl

noncomputable def j20_0 (d : Nat)  (n3 : Int) : Option Int :=
 some n3
noncomputable def l20_0_b (d : Nat) (l1 : List Int) (kx20_0_0 : Int → Option Int) (ag2 : (Int × Int) → Option Int) (n3 : Int) (n4 : Int) : Option Int :=
 oif (decide ((n4 : Int) < ((l1.length : Nat) : Int))) (
 oif (decide (0 ≤ (n4 : Int))) (
 obind (l1[(n4 : Int).toNat]?) fun n5 =>
 ag2 ((IntKind.i64.wrap (n3 + n5)), (IntKind.i64.wrap (n4 + 1)))) none) (
 kx20_0_0 n3)
noncomputable def l20_0 (d : Nat) (l1 : List Int) (kx20_0_0 : Int → Option Int) (ag2 : (Int × Int) → Option Int) (s : (Int × Int)) : Option Int := l20_0_b d l1 kx20_0_0 ag2 s.1 s.2
theorem e20 (d : Nat) (l1 : List Int) : g20 (d + 1) l1 =
 iterP (l20_0 d l1 (j20_0 d)) fuelN (0, 0) := by kernel_rfl

theorem e21 (d : Nat) (l1 : List Int) : g21 (d + 1) l1 =
 obind (g165 d (l1, 0, 0)) fun r2 =>
 obind (g158 d r2.2 [0, 1, 10, 255, 65535, 65536, (-1)]) fun r3 =>
 obind (g158 d r3.2 [0, 3, 12, 65535, 65536]) fun r4 =>
 some (r2.1, r3.1, r4.1) := by kernel_rfl

noncomputable def j22_0 (d : Nat) (x1 : (Int × Int × Int × Int × Int × Int)) (n2 : Int) (n3 : Int) (b4 : Bool) : Option ((Int × Int × Int × Int × Int × Int) × Bool) :=
 oif b4 (
 some ((0, 0, 0, 0, 0, 0), false)) (
 some ((x1.1, x1.2.1, x1.2.2.1, x1.2.2.2.1, (IntKind.i64.wrap ((BitVec.ofInt IntKind.i64.bits (IntKind.i64.wrap ((BitVec.ofInt IntKind.i64.bits x1.2.2.2.2.1 &&& ~~~BitVec.ofInt IntKind.i64.bits n2).toNat : Int)) ||| BitVec.ofInt IntKind.i64.bits (IntKind.i64.wrap ((BitVec.ofInt IntKind.i64.bits n3 &&& BitVec.ofInt IntKind.i64.bits n2).toNat : Int))).toNat : Int)), x1.2.2.2.2.2), true))
theorem e22 (d : Nat) (x1 : (Int × Int × Int × Int × Int × Int)) (n2 : Int) (n3 : Int) : g22 (d + 1) x1 n2 n3 =
 obind (g50 d x1) fun r4 =>
 oif (!r4) (
 j22_0 d x1 n2 n3 true) (
 oif (decide ((n2 : Int) < 0)) (
 j22_0 d x1 n2 n3 true) (
 oif (decide ((n2 : Int) > 65535)) (
 j22_0 d x1 n2 n3 true) (
 oif (decide ((n3 : Int) < 0)) (
 j22_0 d x1 n2 n3 true) (
 j22_0 d x1 n2 n3 (decide ((n3 : Int) > 65535)))))) := by kernel_rfl

noncomputable def j23_0 (d : Nat) (x1 : (Int × Int × Int × Int × Int × Int)) (n2 : Int) (n3 : Int) (b4 : Bool) : Option ((Int × Int × Int × Int × Int × Int) × Bool) :=
 oif b4 (
 some ((0, 0, 0, 0, 0, 0), false)) (
 some ((x1.1, x1.2.1, x1.2.2.1, x1.2.2.2.1, (IntKind.i64.wrap ((BitVec.ofInt IntKind.i64.bits (IntKind.i64.wrap ((BitVec.ofInt IntKind.i64.bits x1.2.2.2.2.1 &&& ~~~BitVec.ofInt IntKind.i64.bits n2).toNat : Int)) ||| BitVec.ofInt IntKind.i64.bits (IntKind.i64.wrap ((BitVec.ofInt IntKind.i64.bits n3 &&& BitVec.ofInt IntKind.i64.bits n2).toNat : Int))).toNat : Int)), x1.2.2.2.2.2), true))
theorem e23 (d : Nat) (x1 : (Int × Int × Int × Int × Int × Int)) (n2 : Int) (n3 : Int) : g23 (d + 1) x1 n2 n3 =
 obind (g166 d x1) fun r4 =>
 oif (!r4) (
 j23_0 d x1 n2 n3 true) (
 obind (g167 d n2) fun r5 =>
 oif (!r5) (
 j23_0 d x1 n2 n3 true) (
 obind (g167 d n3) fun r6 =>
 j23_0 d x1 n2 n3 (!r6))) := by kernel_rfl

theorem e24 (d : Nat) (l1 : List Int) : g24 (d + 1) l1 =
 obind (g165 d (l1, 0, 0)) fun r2 =>
 obind (g158 d r2.2 [1, 2, 4, 8, 64, 65, 0]) fun r3 =>
 some (r2.1, r3.1) := by kernel_rfl

theorem e25 (d : Nat) (x1 : (Int × Int × Int × Int × Int × Int)) (n2 : Int) : g25 (d + 1) x1 n2 =
 obind (g50 d x1) fun r3 =>
 oif (!r3) (
 some (0, false)) (
 obind (g159 d n2) fun r4 =>
 oif (!r4) (
 some (0, false)) (
 obind (g160 d x1 n2) fun r5 =>
 some (r5, true))) := by kernel_rfl

theorem e26 (d : Nat) (x1 : (Int × Int × Int × Int × Int × Int)) (n2 : Int) : g26 (d + 1) x1 n2 =
 obind (g166 d x1) fun r3 =>
 oif (!r3) (
 some (0, false)) (
 obind (g162 d n2) fun r4 =>
 oif (!r4) (
 some (0, false)) (
 obind (g163 d x1 n2) fun r5 =>
 some (r5, true))) := by kernel_rfl

theorem e168 (d : Nat) (l1 : List Int) : g168 (d + 1) l1 =
 obind (g157 d (l1, 0, 0)) fun r2 =>
 some r2.1 := by kernel_rfl

theorem e27 (d : Nat) (l1 : List Int) : g27 (d + 1) l1 =
 obind (g168 d l1) fun r2 =>
 some r2 := by kernel_rfl

noncomputable def j169_0 (d : Nat)  (n3 : Int) : Option Int :=
 some n3
noncomputable def l169_0_b (d : Nat) (l1 : List (Int × Int × Int × Int × Int × Int)) (kx169_0_0 : Int → Option Int) (ag2 : (Int × Int) → Option Int) (n3 : Int) (n4 : Int) : Option Int :=
 oif (decide ((n4 : Int) < ((l1.length : Nat) : Int))) (
 oif (decide (0 ≤ (n4 : Int))) (
 obind (l1[(n4 : Int).toNat]?) fun x5 =>
 ag2 ((IntKind.i64.wrap (n3 + x5.2.2.2.2.2)), (IntKind.i64.wrap (n4 + 1)))) none) (
 kx169_0_0 n3)
noncomputable def l169_0 (d : Nat) (l1 : List (Int × Int × Int × Int × Int × Int)) (kx169_0_0 : Int → Option Int) (ag2 : (Int × Int) → Option Int) (s : (Int × Int)) : Option Int := l169_0_b d l1 kx169_0_0 ag2 s.1 s.2
theorem e169 (d : Nat) (l1 : List (Int × Int × Int × Int × Int × Int)) : g169 (d + 1) l1 =
 iterP (l169_0 d l1 (j169_0 d)) fuelN (0, 0) := by kernel_rfl

theorem e28 (d : Nat) (l1 : List (Int × Int × Int × Int × Int × Int)) : g28 (d + 1) l1 =
 obind (g161 d l1) fun r2 =>
 oif (!r2) (
 some (0, false)) (
 obind (g169 d l1) fun r3 =>
 some (r3, true)) := by kernel_rfl

noncomputable def j3_0 (d : Nat) (l2 : List Int) (b12 : Bool) : Option Bool :=
 oif b12 (
 some false) (
 obind (g24 d l2) fun r13 =>
 obind (g25 d r13.1 r13.2) fun r14 =>
 obind (g26 d r13.1 r13.2) fun r15 =>
 obind (g27 d l2) fun r16 =>
 obind (g19 d r16) fun r17 =>
 obind (g28 d r16) fun r18 =>
 oif (r14.2 == r15.2) (
 oif ((r14.1 : Int) == r15.1) (
 oif (!r14.2) (
 oif (r17.2 == r18.2) (
 some ((r17.1 : Int) == r18.1)) (
 some false)) (
 oif (decide ((r14.1 : Int) ≥ 0)) (
 oif (decide ((r14.1 : Int) < r13.2)) (
 oif (r17.2 == r18.2) (
 some ((r17.1 : Int) == r18.1)) (
 some false)) (
 some false)) (
 some false))) (
 some false)) (
 some false))
noncomputable def j3_1 (d : Nat) (l2 : List Int) (r8 : ((Int × Int × Int × Int × Int × Int) × Int × Int)) (r9 : ((Int × Int × Int × Int × Int × Int) × Bool)) (r10 : ((Int × Int × Int × Int × Int × Int) × Bool)) (b11 : Bool) : Option Bool :=
 oif b11 (
 some false) (
 oif r9.2 (
 oif (((IntKind.i64.wrap ((BitVec.ofInt IntKind.i64.bits r10.1.2.2.2.2.1 &&& BitVec.ofInt IntKind.i64.bits r8.2.1).toNat : Int)) : Int) != (IntKind.i64.wrap ((BitVec.ofInt IntKind.i64.bits r8.2.2 &&& BitVec.ofInt IntKind.i64.bits r8.2.1).toNat : Int))) (
 j3_0 d l2 true) (
 j3_0 d l2 (((IntKind.i64.wrap ((BitVec.ofInt IntKind.i64.bits r10.1.2.2.2.2.1 &&& ~~~BitVec.ofInt IntKind.i64.bits r8.2.1).toNat : Int)) : Int) != (IntKind.i64.wrap ((BitVec.ofInt IntKind.i64.bits r8.1.2.2.2.2.1 &&& ~~~BitVec.ofInt IntKind.i64.bits r8.2.1).toNat : Int))))) (
 j3_0 d l2 false))
noncomputable def j3_2 (d : Nat) (l2 : List Int)  : Option Bool :=
 obind (g21 d l2) fun r8 =>
 obind (g22 d r8.1 r8.2.1 r8.2.2) fun r9 =>
 obind (g23 d r8.1 r8.2.1 r8.2.2) fun r10 =>
 oif (!(r9.2 == r10.2)) (
 j3_1 d l2 r8 r9 r10 true) (
 j3_1 d l2 r8 r9 r10 (!(((r9.1.1 : Int) == r10.1.1) && (((r9.1.2.1 : Int) == r10.1.2.1) && (((r9.1.2.2.1 : Int) == r10.1.2.2.1) && (((r9.1.2.2.2.1 : Int) == r10.1.2.2.2.1) && (((r9.1.2.2.2.2.1 : Int) == r10.1.2.2.2.2.1) && (((r9.1.2.2.2.2.2 : Int) == r10.1.2.2.2.2.2) && true))))))))
noncomputable def j3_3 (d : Nat) (l2 : List Int) (r4 : ((List (Int × Int × Int × Int × Int × Int)) × Int)) (r5 : ((List Int) × Bool)) (r6 : ((List Int) × Bool)) (b7 : Bool) : Option Bool :=
 oif b7 (
 some false) (
 oif r5.2 (
 obind (g19 d r4.1) fun r8 =>
 oif (!r8.2) (
 some false) (
 obind (g20 d r6.1) fun r9 =>
 oif ((r8.1 : Int) != r9) (
 some false) (
 oif ((((r6.1.length : Nat) : Int) : Int) != r4.2) (
 some false) (
 j3_2 d l2)))) (
 j3_2 d l2))
theorem e3 (d : Nat) (l1 : List Int) (l2 : List Int) : g3 (d + 1) l1 l2 =
 obind (g12 d l1 l2) fun r3 =>
 oif r3 (
 some true) (
 obind (g13 d l1) fun r4 =>
 obind (g14 d r4.1 r4.2) fun r5 =>
 obind (g15 d r4.1 r4.2) fun r6 =>
 oif (!(r5.2 == r6.2)) (
 j3_3 d l2 r4 r5 r6 true) (
 obind (g16 d r5.1 r6.1) fun r7 =>
 oif (!r7) (
 j3_3 d l2 r4 r5 r6 true) (
 obind (g17 d r4.1) fun r8 =>
 obind (g18 d r4.1) fun r9 =>
 j3_3 d l2 r4 r5 r6 (!(r8 == r9))))) := by kernel_rfl

end Go.Proofs.Ytmjhgkmiafemfaa
