/-
  The residual forms of the program's functions under the interpreter by value, printed by program (wip/pv/gen2.py); each equation is checked by the kernel.
  Conditions: none.
-/
import Derived.Test.YtngofhppopgicaaVDef
import Derived.Test.YtngofhppopgicaaProg
import Derived.KernelRfl
set_option linter.all false
set_option maxRecDepth 1000000
namespace Go.Proofs.Ytngofhppopgicaa
open Go.Ev Go.Pv

theorem fuel_is : ∃ n : Nat, n = 4194304 := ⟨_, rfl⟩
noncomputable def fuelN : Nat := Classical.choose fuel_is
theorem fuelN_eq : fuelN = 4194304 := Classical.choose_spec fuel_is
def pvSig : FuncId → Sig
  | 6 => ⟨[(.ro, (.sl (.int .u8))), (.ro, (.sl (.int .u8)))], [(false, .bool)]⟩
  | 52 => ⟨[(.ro, (.sl (.int .u8)))], [(false, (.int .i64)), (false, (.int .i64))]⟩
  | 53 => ⟨[(.ro, (.int .i64)), (.ro, (.int .i64))], [(true, (.sl (.int .u8))), (false, .bool)]⟩
  | 54 => ⟨[(.ro, (.int .i64)), (.ro, (.int .i64))], [(true, (.sl (.int .u8))), (false, .bool)]⟩
  | 55 => ⟨[(.ro, (.sl (.int .u8)))], [(true, (.sl (.int .u8))), (false, (.int .i64)), (false, (.int .i64))]⟩
  | 56 => ⟨[(.ro, (.sl (.int .u8))), (.ro, (.int .i64)), (.ro, (.int .i64))], [(false, (.int .i64)), (false, .bool)]⟩
  | 57 => ⟨[(.ro, (.sl (.int .u8))), (.ro, (.int .i64)), (.ro, (.int .i64))], [(false, (.int .i64)), (false, .bool)]⟩
  | 58 => ⟨[(.ro, (.sl (.int .u8)))], [(true, (.sl (.int .u8))), (false, (.int .i64))]⟩
  | 59 => ⟨[(.ro, (.sl (.int .u8))), (.ro, (.int .i64))], [(true, (.sl (.int .u8))), (false, .bool)]⟩
  | 60 => ⟨[(.ro, (.sl (.int .u8))), (.ro, (.int .i64))], [(true, (.sl (.int .u8))), (false, .bool)]⟩
  | 61 => ⟨[(.ro, (.sl (.int .u8)))], [(false, (.int .i64)), (false, (.int .i64))]⟩
  | 62 => ⟨[(.ro, (.int .i64)), (.ro, (.int .i64))], [(false, (.int .i64)), (false, .bool)]⟩
  | 63 => ⟨[(.ro, (.int .i64)), (.ro, (.int .i64))], [(false, (.int .i64)), (false, .bool)]⟩
  | 64 => ⟨[(.ro, (.sl (.int .u8))), (.ro, (.sl (.int .u8)))], [(false, .bool)]⟩
  | 65 => ⟨[(.ro, (.sl (.int .u8))), (.ro, (.int .i64)), (.ro, (.int .i64))], [(false, .bool), (false, .bool)]⟩
  | 66 => ⟨[(.ro, (.sl (.int .u8)))], [(false, (.int .i64)), (false, .bool)]⟩
  | 115 => ⟨[(.ps, (.pair (.sl (.int .u8)) (.pair (.int .i64) (.int .u64)))), (.ro, (.sl (.int .i64)))], [(false, (.int .i64))]⟩
  | 120 => ⟨[(.ps, (.pair (.sl (.int .u8)) (.pair (.int .i64) (.int .u64)))), (.ro, (.int .i64))], [(false, (.int .i64))]⟩
  | 131 => ⟨[(.ro, (.int .i64)), (.ro, (.int .i64)), (.ro, (.int .i64))], [(false, .bool)]⟩
  | 134 => ⟨[(.ro, (.int .i64))], [(false, .bool)]⟩
  | 135 => ⟨[(.ro, (.int .i64))], [(false, .bool)]⟩
  | 136 => ⟨[(.ro, (.int .i64))], [(false, (.int .i64))]⟩
  | 137 => ⟨[(.ro, (.int .i64)), (.ro, (.int .i64))], [(true, (.sl (.int .u8)))]⟩
  | 138 => ⟨[(.ps, (.pair (.sl (.int .u8)) (.pair (.int .i64) (.int .u64))))], [(true, (.sl (.int .u8)))]⟩
  | 139 => ⟨[(.ro, (.int .i64))], [(false, .bool)]⟩
  | 140 => ⟨[(.ro, (.sl (.int .u8))), (.ro, (.int .i64)), (.ro, (.int .i64))], [(false, (.int .i64))]⟩
  | 141 => ⟨[(.ps, (.pair (.sl (.int .u8)) (.pair (.int .i64) (.int .u64)))), (.ro, (.int .i64))], [(false, .bool)]⟩
  | 142 => ⟨[(.ro, (.int .i64)), (.ro, (.int .i64))], [(false, (.int .i64))]⟩
  | 143 => ⟨[(.ro, (.sl (.int .u8))), (.ro, (.int .i64))], [(true, (.sl (.int .u8)))]⟩
  | 173 => ⟨[(.ps, (.pair (.sl (.int .u8)) (.pair (.int .i64) (.int .u64))))], [(false, (.int .i64))]⟩
  | _ => ⟨[], []⟩
def pvLoops : FuncId → Nat → LoopA
  | 53, 0 => ⟨[(26, false, (.int .i64))], [], [(6, (.int .u8))], []⟩
  | 56, 0 => ⟨[(8, false, (.int .i64)), (9, false, (.int .i64))], [], [], []⟩
  | 64, 0 => ⟨[(4, false, .bool), (13, false, (.int .i64))], [], [], []⟩
  | 65, 0 => ⟨[(6, false, .bool), (7, false, .bool), (33, false, (.int .i64))], [], [], []⟩
  | 66, 0 => ⟨[(4, false, (.int .i64)), (5, false, (.int .i64))], [], [], []⟩
  | 136, 0 => ⟨[(0, false, (.int .i64)), (3, false, (.int .i64))], [], [], []⟩
  | 137, 0 => ⟨[(0, false, (.int .i64)), (1, false, (.int .i64)), (5, true, (.sl (.int .u8)))], [], [], []⟩
  | 138, 0 => ⟨[(3, true, (.sl (.int .u8))), (4, false, (.int .i64))], [(0, (.pair (.sl (.int .u8)) (.pair (.int .i64) (.int .u64))))], [], []⟩
  | 140, 0 => ⟨[(7, false, (.int .i64)), (8, false, (.int .i64))], [], [], []⟩
  | _, _ => ⟨[], [], [], []⟩
def pvEloops : FuncId → Nat → List (Nat × Value)
  | 53, 0 => [(0, (.int .i64 0)), (4, (.slice none 0 0)), (5, (.bool false)), (6, (.slice none 0 0)), (25, (.int .i64 0)), (26, (.int .i64 0))]
  | 56, 0 => [(0, (.slice none 0 0)), (1, (.int .i64 0)), (6, (.int .i64 0)), (7, (.bool false)), (8, (.int .i64 0)), (9, (.int .i64 0))]
  | 64, 0 => [(0, (.slice none 0 0)), (1, (.slice none 0 0)), (4, (.bool false)), (12, (.int .i64 0)), (13, (.int .i64 0))]
  | 65, 0 => [(6, (.bool false)), (7, (.bool false)), (31, (.slice none 0 0)), (32, (.int .i64 0)), (33, (.int .i64 0))]
  | 66, 0 => [(0, (.slice none 0 0)), (2, (.int .i64 0)), (3, (.bool false)), (4, (.int .i64 0)), (5, (.int .i64 0))]
  | 136, 0 => [(0, (.int .i64 0)), (2, (.int .i64 0)), (3, (.int .i64 0))]
  | 137, 0 => [(0, (.int .i64 0)), (1, (.int .i64 0)), (4, (.slice none 0 0)), (5, (.slice none 0 0))]
  | 138, 0 => [(0, (.pointer (some ⟨0, 0, none⟩))), (2, (.slice none 0 0)), (3, (.slice none 0 0)), (4, (.int .i64 0))]
  | 140, 0 => [(0, (.slice none 0 0)), (1, (.int .i64 0)), (6, (.int .i64 0)), (7, (.int .i64 0)), (8, (.int .i64 0))]
  | _, _ => []
def pvInline : FuncId → Bool

  | _ => false
noncomputable def pvAnn : AnnV := ⟨fuelN, pvSig, pvLoops, pvEloops, pvInline⟩

/-- (*loop.example/g00838/spec.l1Cur).next -/
noncomputable def g173 (d : Nat) (x1 : ((List Int) × Int × Int)) : Option (Int × ((List Int) × Int × Int)) := (lev Try.prog pvAnn d).call 173 (x1)
/-- (*loop.example/g00838/spec.l1Cur).pick -/
noncomputable def g120 (d : Nat) (x1 : ((List Int) × Int × Int)) (n2 : Int) : Option (Int × ((List Int) × Int × Int)) := (lev Try.prog pvAnn d).call 120 (x1, n2)
/-- (*loop.example/g00838/spec.l1Cur).among -/
noncomputable def g115 (d : Nat) (x1 : ((List Int) × Int × Int)) (l2 : List Int) : Option (Int × ((List Int) × Int × Int)) := (lev Try.prog pvAnn d).call 115 (x1, l2)
/-- loop.example/g00838/spec.DrawWriteLittle -/
noncomputable def g52 (d : Nat) (l1 : List Int) : Option (Int × Int) := (lev Try.prog pvAnn d).call 52 (l1)
/-- loop.example/g00838/impl.isWidth -/
noncomputable def g134 (d : Nat) (n1 : Int) : Option Bool := (lev Try.prog pvAnn d).call 134 (n1)
/-- loop.example/g00838/impl.WriteLittle -/
noncomputable def g53 (d : Nat) (n1 : Int) (n2 : Int) : Option ((List Int) × Bool) := (lev Try.prog pvAnn d).call 53 (n1, n2)
/-- loop.example/g00838/spec.l1In -/
noncomputable def g131 (d : Nat) (n1 : Int) (n2 : Int) (n3 : Int) : Option Bool := (lev Try.prog pvAnn d).call 131 (n1, n2, n3)
/-- loop.example/g00838/spec.scWidth -/
noncomputable def g135 (d : Nat) (n1 : Int) : Option Bool := (lev Try.prog pvAnn d).call 135 (n1)
/-- loop.example/g00838/spec.scTop -/
noncomputable def g136 (d : Nat) (n1 : Int) : Option Int := (lev Try.prog pvAnn d).call 136 (n1)
/-- loop.example/g00838/spec.scWrite -/
noncomputable def g137 (d : Nat) (n1 : Int) (n2 : Int) : Option (List Int) := (lev Try.prog pvAnn d).call 137 (n1, n2)
/-- loop.example/g00838/spec.WriteLittle -/
noncomputable def g54 (d : Nat) (n1 : Int) (n2 : Int) : Option ((List Int) × Bool) := (lev Try.prog pvAnn d).call 54 (n1, n2)
/-- (*loop.example/g00838/spec.l1Cur).one -/
noncomputable def g141 (d : Nat) (x1 : ((List Int) × Int × Int)) (n2 : Int) : Option (Bool × ((List Int) × Int × Int)) := (lev Try.prog pvAnn d).call 141 (x1, n2)
/-- (*loop.example/g00838/spec.l1Cur).bytes -/
noncomputable def g138 (d : Nat) (x1 : ((List Int) × Int × Int)) : Option ((List Int) × ((List Int) × Int × Int)) := (lev Try.prog pvAnn d).call 138 (x1)
/-- loop.example/g00838/spec.DrawReadLittle -/
noncomputable def g55 (d : Nat) (l1 : List Int) : Option ((List Int) × Int × Int) := (lev Try.prog pvAnn d).call 55 (l1)
/-- loop.example/g00838/impl.ReadLittle -/
noncomputable def g56 (d : Nat) (l1 : List Int) (n2 : Int) (n3 : Int) : Option (Int × Bool) := (lev Try.prog pvAnn d).call 56 (l1, n2, n3)
/-- loop.example/g00838/spec.scBytes -/
noncomputable def g139 (d : Nat) (n1 : Int) : Option Bool := (lev Try.prog pvAnn d).call 139 (n1)
/-- loop.example/g00838/spec.scRead -/
noncomputable def g140 (d : Nat) (l1 : List Int) (n2 : Int) (n3 : Int) : Option Int := (lev Try.prog pvAnn d).call 140 (l1, n2, n3)
/-- loop.example/g00838/spec.ReadLittle -/
noncomputable def g57 (d : Nat) (l1 : List Int) (n2 : Int) (n3 : Int) : Option (Int × Bool) := (lev Try.prog pvAnn d).call 57 (l1, n2, n3)
/-- loop.example/g00838/spec.DrawPadTo -/
noncomputable def g58 (d : Nat) (l1 : List Int) : Option ((List Int) × Int) := (lev Try.prog pvAnn d).call 58 (l1)
/-- loop.example/g00838/impl.AlignUp -/
noncomputable def g62 (d : Nat) (n1 : Int) (n2 : Int) : Option (Int × Bool) := (lev Try.prog pvAnn d).call 62 (n1, n2)
/-- loop.example/g00838/impl.PadTo -/
noncomputable def g59 (d : Nat) (l1 : List Int) (n2 : Int) : Option ((List Int) × Bool) := (lev Try.prog pvAnn d).call 59 (l1, n2)
/-- loop.example/g00838/spec.scAlign -/
noncomputable def g142 (d : Nat) (n1 : Int) (n2 : Int) : Option Int := (lev Try.prog pvAnn d).call 142 (n1, n2)
/-- loop.example/g00838/spec.scPad -/
noncomputable def g143 (d : Nat) (l1 : List Int) (n2 : Int) : Option (List Int) := (lev Try.prog pvAnn d).call 143 (l1, n2)
/-- loop.example/g00838/spec.PadTo -/
noncomputable def g60 (d : Nat) (l1 : List Int) (n2 : Int) : Option ((List Int) × Bool) := (lev Try.prog pvAnn d).call 60 (l1, n2)
/-- loop.example/g00838/spec.DrawAlignUp -/
noncomputable def g61 (d : Nat) (l1 : List Int) : Option (Int × Int) := (lev Try.prog pvAnn d).call 61 (l1)
/-- loop.example/g00838/spec.AlignUp -/
noncomputable def g63 (d : Nat) (n1 : Int) (n2 : Int) : Option (Int × Bool) := (lev Try.prog pvAnn d).call 63 (n1, n2)
/-- loop.example/g00838/laws.qBytes -/
noncomputable def g64 (d : Nat) (l1 : List Int) (l2 : List Int) : Option Bool := (lev Try.prog pvAnn d).call 64 (l1, l2)
/-- loop.example/g00838/impl.IsPadded -/
noncomputable def g65 (d : Nat) (l1 : List Int) (n2 : Int) (n3 : Int) : Option (Bool × Bool) := (lev Try.prog pvAnn d).call 65 (l1, n2, n3)
/-- loop.example/g00838/impl.ChecksumOf -/
noncomputable def g66 (d : Nat) (l1 : List Int) : Option (Int × Bool) := (lev Try.prog pvAnn d).call 66 (l1)
/-- loop.example/g00838/laws.FnLittle -/
noncomputable def g6 (d : Nat) (l1 : List Int) (l2 : List Int) : Option Bool := (lev Try.prog pvAnn d).call 6 (l1, l2)

noncomputable def j173_0 (d : Nat) (x1 : ((List Int) × Int × Int)) (n2 : Int) : Option (Int × ((List Int) × Int × Int)) :=
 oif (decide (((IntKind.i64.wrap (x1.2.1 + 1)) : Int) ≤ ((x1.1.length : Nat) : Int))) (
 some (n2, (x1.1, (IntKind.i64.wrap (x1.2.1 + 1)), (IntKind.u64.wrap ((IntKind.u64.wrap ((IntKind.u64.wrap (x1.2.2 * 6364136223846793005)) + (IntKind.u64.wrap n2))) + 1442695040888963407))))) (
 some ((IntKind.i64.wrap (IntKind.u64.wrap ((BitVec.ofInt IntKind.u64.bits ((IntKind.u64.wrap ((IntKind.u64.wrap ((IntKind.u64.wrap (x1.2.2 * 6364136223846793005)) + (IntKind.u64.wrap n2))) + 1442695040888963407)).fdiv (2 ^ (min (40 : Int).toNat IntKind.u64.bits))) &&& BitVec.ofInt IntKind.u64.bits 255).toNat : Int))), (x1.1, (IntKind.i64.wrap (x1.2.1 + 1)), (IntKind.u64.wrap ((IntKind.u64.wrap ((IntKind.u64.wrap (x1.2.2 * 6364136223846793005)) + (IntKind.u64.wrap n2))) + 1442695040888963407)))))
theorem e173 (d : Nat) (x1 : ((List Int) × Int × Int)) : g173 (d + 1) x1 =
 oif (decide ((x1.2.1 : Int) < ((x1.1.length : Nat) : Int))) (
 oif (decide (0 ≤ (x1.2.1 : Int))) (
 obind (x1.1[(x1.2.1 : Int).toNat]?) fun n2 =>
 j173_0 d x1 (IntKind.i64.wrap n2)) none) (
 j173_0 d x1 0) := by kernel_rfl

theorem e120 (d : Nat) (x1 : ((List Int) × Int × Int)) (n2 : Int) : g120 (d + 1) x1 n2 =
 oif (decide ((n2 : Int) ≤ 1)) (
 some (0, x1)) (
 obind (g173 d x1) fun r3 =>
 oif (decide ((n2 : Int) > 200)) (
 obind (g173 d r3.2) fun r4 =>
 oif ((n2 : Int) == 0) none (
 some (((IntKind.i64.wrap ((IntKind.i64.wrap (r3.1 * 256)) + r4.1)).tmod n2), r4.2))) (
 oif ((n2 : Int) == 0) none (
 some ((r3.1.tmod n2), r3.2)))) := by kernel_rfl

theorem e115 (d : Nat) (x1 : ((List Int) × Int × Int)) (l2 : List Int) : g115 (d + 1) x1 l2 =
 obind (g120 d x1 ((l2.length : Nat) : Int)) fun r3 =>
 oif (decide (0 ≤ (r3.1 : Int))) (
 obind (l2[(r3.1 : Int).toNat]?) fun n4 =>
 some (n4, r3.2)) none := by kernel_rfl

theorem e52 (d : Nat) (l1 : List Int) : g52 (d + 1) l1 =
 obind (g120 d (l1, 0, 0) 60000) fun r2 =>
 obind (g115 d r2.2 [0, 1, 255, 256, 65535, 65536, 4294967295, 4294967296, (-1), r2.1]) fun r3 =>
 obind (g115 d r3.2 [1, 2, 4, 4, 3, 8]) fun r4 =>
 some (r3.1, r4.1) := by kernel_rfl

theorem e134 (d : Nat) (n1 : Int) : g134 (d + 1) n1 =
 oif ((n1 : Int) == 1) (
 some true) (
 oif ((n1 : Int) == 2) (
 some true) (
 some ((n1 : Int) == 4))) := by kernel_rfl

noncomputable def j53_0 (d : Nat)  (l5 : List Int) : Option ((List Int) × Bool) :=
 some (l5, true)
noncomputable def l53_0_b (d : Nat) (n1 : Int) (n2 : Int) (kx53_0_0 : (List Int) → Option ((List Int) × Bool)) (ag4 : (Int × (List Int)) → Option ((List Int) × Bool)) (n5 : Int) (l6 : List Int) : Option ((List Int) × Bool) :=
 oif (decide ((n5 : Int) < (((List.replicate ((n2 : Int).toNat) (0 : Int)).length : Nat) : Int))) (
 oif (decide ((IntKind.i64.wrap ((8 : Int) * n5)) < (0 : Int))) none (
 oif (decide (0 ≤ (n5 : Int))) (
 oif (Nat.blt ((n5 : Int).toNat) l6.length) (
 obind (l6[(n5 : Int).toNat]?) fun n7 =>
 ag4 ((IntKind.i64.wrap (n5 + 1)), (l6.set ((n5 : Int).toNat) (IntKind.u8.wrap (n1.fdiv (2 ^ (min (IntKind.i64.wrap ((8 : Int) * n5)).toNat IntKind.i64.bits))))))) none) none)) (
 kx53_0_0 l6)
noncomputable def l53_0 (d : Nat) (n1 : Int) (n2 : Int) (kx53_0_0 : (List Int) → Option ((List Int) × Bool)) (ag4 : (Int × (List Int)) → Option ((List Int) × Bool)) (s : (Int × (List Int))) : Option ((List Int) × Bool) := l53_0_b d n1 n2 kx53_0_0 ag4 s.1 s.2
noncomputable def j53_1 (d : Nat) (n1 : Int) (n2 : Int) (b3 : Bool) : Option ((List Int) × Bool) :=
 oif b3 (
 some ([], false)) (
 oif (decide (0 ≤ (n2 : Int))) (
 oif (decide (0 ≤ (n2 : Int))) (
 oif (Nat.ble ((n2 : Int).toNat) ((n2 : Int).toNat) && Nat.ble (((n2 : Int).toNat) * 1) roomMax) (
 iterP (l53_0 d n1 n2 (j53_0 d)) fuelN (0, (List.replicate ((n2 : Int).toNat) (0 : Int)))) none) none) none)
theorem e53 (d : Nat) (n1 : Int) (n2 : Int) : g53 (d + 1) n1 n2 =
 obind (g134 d n2) fun r3 =>
 oif (!r3) (
 j53_1 d n1 n2 true) (
 oif (decide ((n1 : Int) < 0)) (
 j53_1 d n1 n2 true) (
 oif (decide ((IntKind.i64.wrap ((8 : Int) * n2)) < (0 : Int))) none (
 j53_1 d n1 n2 (decide ((n1 : Int) ≥ (IntKind.i64.wrap ((1 : Int) * 2 ^ (min (IntKind.i64.wrap ((8 : Int) * n2)).toNat IntKind.i64.bits)))))))) := by kernel_rfl

theorem e131 (d : Nat) (n1 : Int) (n2 : Int) (n3 : Int) : g131 (d + 1) n1 n2 n3 =
 oif (decide ((n1 : Int) ≥ n2)) (
 some (decide ((n1 : Int) ≤ n3))) (
 some false) := by kernel_rfl

theorem e135 (d : Nat) (n1 : Int) : g135 (d + 1) n1 =
 oif ((n1 : Int) == 1) (
 some true) (
 oif ((n1 : Int) == 2) (
 some true) (
 some ((n1 : Int) == 4))) := by kernel_rfl

noncomputable def j136_0 (d : Nat)  (n3 : Int) : Option Int :=
 some n3
noncomputable def l136_0_b (d : Nat)  (kx136_0_0 : Int → Option Int) (ag2 : (Int × Int) → Option Int) (n3 : Int) (n4 : Int) : Option Int :=
 oif (decide ((n3 : Int) > 0)) (
 ag2 ((IntKind.i64.wrap (n3 - 1)), (IntKind.i64.wrap (n4 * 256)))) (
 kx136_0_0 n4)
noncomputable def l136_0 (d : Nat)  (kx136_0_0 : Int → Option Int) (ag2 : (Int × Int) → Option Int) (s : (Int × Int)) : Option Int := l136_0_b d kx136_0_0 ag2 s.1 s.2
theorem e136 (d : Nat) (n1 : Int) : g136 (d + 1) n1 =
 iterP (l136_0 d (j136_0 d)) fuelN (n1, 1) := by kernel_rfl

noncomputable def j137_0 (d : Nat)  (l4 : List Int) : Option (List Int) :=
 some l4
noncomputable def l137_0_b (d : Nat)  (kx137_0_0 : (List Int) → Option (List Int)) (ag3 : (Int × Int × (List Int)) → Option (List Int)) (n4 : Int) (n5 : Int) (l6 : List Int) : Option (List Int) :=
 oif (decide ((n5 : Int) > 0)) (
 oif (Nat.ble ((l6.length + [(IntKind.u8.wrap (n4.tmod 256))].length) * 1) roomMax) (
 ag3 ((IntKind.i64.wrap (n4.tdiv 256)), (IntKind.i64.wrap (n5 - 1)), (l6 ++ [(IntKind.u8.wrap (n4.tmod 256))]))) none) (
 kx137_0_0 l6)
noncomputable def l137_0 (d : Nat)  (kx137_0_0 : (List Int) → Option (List Int)) (ag3 : (Int × Int × (List Int)) → Option (List Int)) (s : (Int × Int × (List Int))) : Option (List Int) := l137_0_b d kx137_0_0 ag3 s.1 s.2.1 s.2.2
theorem e137 (d : Nat) (n1 : Int) (n2 : Int) : g137 (d + 1) n1 n2 =
 iterP (l137_0 d (j137_0 d)) fuelN (n1, n2, []) := by kernel_rfl

theorem e54 (d : Nat) (n1 : Int) (n2 : Int) : g54 (d + 1) n1 n2 =
 obind (g135 d n2) fun r3 =>
 oif (!r3) (
 some ([], false)) (
 obind (g136 d n2) fun r4 =>
 obind (g131 d n1 0 (IntKind.i64.wrap (r4 - 1))) fun r5 =>
 oif (!r5) (
 some ([], false)) (
 obind (g137 d n1 n2) fun r6 =>
 some (r6, true))) := by kernel_rfl

theorem e141 (d : Nat) (x1 : ((List Int) × Int × Int)) (n2 : Int) : g141 (d + 1) x1 n2 =
 obind (g120 d x1 n2) fun r3 =>
 some (((r3.1 : Int) == 0), r3.2) := by kernel_rfl

noncomputable def j138_0 (d : Nat)  (l6 : List Int) (l7 : List Int) (n8 : Int) (n9 : Int) : Option ((List Int) × ((List Int) × Int × Int)) :=
 some (l6, (l7, n8, n9))
noncomputable def l138_0_b (d : Nat)  (kx138_0_0 : (List Int) → (List Int) → Int → Int → Option ((List Int) × ((List Int) × Int × Int))) (ag5 : ((List Int) × Int × ((List Int) × Int × Int)) → Option ((List Int) × ((List Int) × Int × Int))) (l6 : List Int) (n7 : Int) (x8 : ((List Int) × Int × Int)) : Option ((List Int) × ((List Int) × Int × Int)) :=
 oif (decide ((n7 : Int) > 0)) (
 obind (g120 d x8 256) fun r9 =>
 obind (g115 d r9.2 [0, 0, 1, 2, 255, r9.1]) fun r10 =>
 oif (Nat.ble ((l6.length + [(IntKind.u8.wrap r10.1)].length) * 1) roomMax) (
 ag5 ((l6 ++ [(IntKind.u8.wrap r10.1)]), (IntKind.i64.wrap (n7 - 1)), r10.2)) none) (
 kx138_0_0 l6 x8.1 x8.2.1 x8.2.2)
noncomputable def l138_0 (d : Nat)  (kx138_0_0 : (List Int) → (List Int) → Int → Int → Option ((List Int) × ((List Int) × Int × Int))) (ag5 : ((List Int) × Int × ((List Int) × Int × Int)) → Option ((List Int) × ((List Int) × Int × Int))) (s : ((List Int) × Int × ((List Int) × Int × Int))) : Option ((List Int) × ((List Int) × Int × Int)) := l138_0_b d kx138_0_0 ag5 s.1 s.2.1 s.2.2
theorem e138 (d : Nat) (x1 : ((List Int) × Int × Int)) : g138 (d + 1) x1 =
 obind (g141 d x1 40) fun r2 =>
 oif r2.1 (
 obind (g120 d r2.2 2) fun r3 =>
 oif (decide (0 ≤ ((IntKind.i64.wrap ((4000 : Int) + r3.1)) : Int))) (
 oif (decide (0 ≤ ((IntKind.i64.wrap ((4000 : Int) + r3.1)) : Int))) (
 oif (Nat.ble (((IntKind.i64.wrap ((4000 : Int) + r3.1)) : Int).toNat) (((IntKind.i64.wrap ((4000 : Int) + r3.1)) : Int).toNat) && Nat.ble ((((IntKind.i64.wrap ((4000 : Int) + r3.1)) : Int).toNat) * 1) roomMax) (
 some ((List.replicate (((IntKind.i64.wrap ((4000 : Int) + r3.1)) : Int).toNat) (0 : Int)), r3.2)) none) none) none) (
 obind (g120 d r2.2 14) fun r4 =>
 iterP (l138_0 d (j138_0 d)) fuelN ([], r4.1, r4.2)) := by kernel_rfl

theorem e55 (d : Nat) (l1 : List Int) : g55 (d + 1) l1 =
 obind (g138 d (l1, 0, 0)) fun r2 =>
 obind (g115 d r2.2 [0, 1, (IntKind.i64.wrap (((r2.1.length : Nat) : Int) - 4)), (IntKind.i64.wrap (((r2.1.length : Nat) : Int) - 2)), (IntKind.i64.wrap (((r2.1.length : Nat) : Int) - 1)), ((r2.1.length : Nat) : Int), (-1)]) fun r3 =>
 obind (g115 d r3.2 [1, 2, 4, 4, 3, 0]) fun r4 =>
 some (r2.1, r3.1, r4.1) := by kernel_rfl

noncomputable def j56_0 (d : Nat)  (n6 : Int) : Option (Int × Bool) :=
 some (n6, true)
noncomputable def l56_0_b (d : Nat) (l1 : List Int) (n2 : Int) (kx56_0_0 : Int → Option (Int × Bool)) (ag5 : (Int × Int) → Option (Int × Bool)) (n6 : Int) (n7 : Int) : Option (Int × Bool) :=
 oif (decide ((n7 : Int) ≥ 0)) (
 oif (decide (0 ≤ ((IntKind.i64.wrap (n2 + n7)) : Int))) (
 obind (l1[((IntKind.i64.wrap (n2 + n7)) : Int).toNat]?) fun n8 =>
 ag5 ((IntKind.i64.wrap ((BitVec.ofInt IntKind.i64.bits (IntKind.i64.wrap (n6 * 2 ^ (min (8 : Int).toNat IntKind.i64.bits))) ||| BitVec.ofInt IntKind.i64.bits (IntKind.i64.wrap n8)).toNat : Int)), (IntKind.i64.wrap (n7 - 1)))) none) (
 kx56_0_0 n6)
noncomputable def l56_0 (d : Nat) (l1 : List Int) (n2 : Int) (kx56_0_0 : Int → Option (Int × Bool)) (ag5 : (Int × Int) → Option (Int × Bool)) (s : (Int × Int)) : Option (Int × Bool) := l56_0_b d l1 n2 kx56_0_0 ag5 s.1 s.2
noncomputable def j56_1 (d : Nat) (l1 : List Int) (n2 : Int) (n3 : Int) (b4 : Bool) : Option (Int × Bool) :=
 oif b4 (
 some (0, false)) (
 iterP (l56_0 d l1 n2 (j56_0 d)) fuelN (0, (IntKind.i64.wrap (n3 - 1))))
theorem e56 (d : Nat) (l1 : List Int) (n2 : Int) (n3 : Int) : g56 (d + 1) l1 n2 n3 =
 oif (decide ((((l1.length : Nat) : Int) : Int) > 4000)) (
 j56_1 d l1 n2 n3 true) (
 obind (g134 d n3) fun r4 =>
 oif (!r4) (
 j56_1 d l1 n2 n3 true) (
 oif (decide ((n2 : Int) < 0)) (
 j56_1 d l1 n2 n3 true) (
 j56_1 d l1 n2 n3 (decide ((n2 : Int) > (IntKind.i64.wrap (((l1.length : Nat) : Int) - n3))))))) := by kernel_rfl

theorem e139 (d : Nat) (n1 : Int) : g139 (d + 1) n1 =
 some (decide ((n1 : Int) ≤ 4000)) := by kernel_rfl

noncomputable def j140_0 (d : Nat)  (n5 : Int) : Option Int :=
 some n5
noncomputable def l140_0_b (d : Nat) (l1 : List Int) (n2 : Int) (kx140_0_0 : Int → Option Int) (ag4 : (Int × Int) → Option Int) (n5 : Int) (n6 : Int) : Option Int :=
 oif (decide ((n6 : Int) ≥ 0)) (
 oif (decide (0 ≤ ((IntKind.i64.wrap (n2 + n6)) : Int))) (
 obind (l1[((IntKind.i64.wrap (n2 + n6)) : Int).toNat]?) fun n7 =>
 ag4 ((IntKind.i64.wrap ((IntKind.i64.wrap ((256 : Int) * n5)) + (IntKind.i64.wrap n7))), (IntKind.i64.wrap (n6 - 1)))) none) (
 kx140_0_0 n5)
noncomputable def l140_0 (d : Nat) (l1 : List Int) (n2 : Int) (kx140_0_0 : Int → Option Int) (ag4 : (Int × Int) → Option Int) (s : (Int × Int)) : Option Int := l140_0_b d l1 n2 kx140_0_0 ag4 s.1 s.2
theorem e140 (d : Nat) (l1 : List Int) (n2 : Int) (n3 : Int) : g140 (d + 1) l1 n2 n3 =
 iterP (l140_0 d l1 n2 (j140_0 d)) fuelN (0, (IntKind.i64.wrap (n3 - 1))) := by kernel_rfl

theorem e57 (d : Nat) (l1 : List Int) (n2 : Int) (n3 : Int) : g57 (d + 1) l1 n2 n3 =
 obind (g139 d ((l1.length : Nat) : Int)) fun r4 =>
 oif (!r4) (
 some (0, false)) (
 obind (g135 d n3) fun r5 =>
 oif (!r5) (
 some (0, false)) (
 obind (g131 d n2 0 (IntKind.i64.wrap (((l1.length : Nat) : Int) - n3))) fun r6 =>
 oif (!r6) (
 some (0, false)) (
 obind (g140 d l1 n2 n3) fun r7 =>
 some (r7, true)))) := by kernel_rfl

theorem e58 (d : Nat) (l1 : List Int) : g58 (d + 1) l1 =
 obind (g138 d (l1, 0, 0)) fun r2 =>
 obind (g141 d r2.2 40) fun r3 =>
 oif r3.1 (
 oif (Nat.ble 3999 3999 && Nat.ble (3999 * 1) roomMax) (
 obind (g115 d r3.2 [1, 2, 4, 4, 7, 16, 17, 0]) fun r4 =>
 some ((List.replicate 3999 (0 : Int)), r4.1)) none) (
 obind (g115 d r3.2 [1, 2, 4, 4, 7, 16, 17, 0]) fun r5 =>
 some (r2.1, r5.1)) := by kernel_rfl

noncomputable def j62_0 (d : Nat) (n1 : Int) (n2 : Int) (b3 : Bool) : Option (Int × Bool) :=
 oif b3 (
 some (0, false)) (
 oif ((n2 : Int) == 0) none (
 some ((IntKind.i64.wrap ((IntKind.i64.wrap ((IntKind.i64.wrap ((IntKind.i64.wrap (n1 + n2)) - 1)).tdiv n2)) * n2)), true)))
theorem e62 (d : Nat) (n1 : Int) (n2 : Int) : g62 (d + 1) n1 n2 =
 oif (decide ((n1 : Int) < 0)) (
 j62_0 d n1 n2 true) (
 oif (decide ((n1 : Int) > 1000000)) (
 j62_0 d n1 n2 true) (
 oif (decide ((n2 : Int) < 1)) (
 j62_0 d n1 n2 true) (
 j62_0 d n1 n2 (decide ((n2 : Int) > 16))))) := by kernel_rfl

noncomputable def j59_0 (d : Nat) (l1 : List Int) (n2 : Int) (b3 : Bool) : Option ((List Int) × Bool) :=
 oif b3 (
 some ([], false)) (
 obind (g62 d ((l1.length : Nat) : Int) n2) fun r4 =>
 oif (decide ((r4.1 : Int) > 4000)) (
 some ([], false)) (
 oif (decide (0 ≤ (r4.1 : Int))) (
 oif (decide (0 ≤ (r4.1 : Int))) (
 oif (Nat.ble ((r4.1 : Int).toNat) ((r4.1 : Int).toNat) && Nat.ble (((r4.1 : Int).toNat) * 1) roomMax) (
 some ((cpy (List.replicate ((r4.1 : Int).toNat) (0 : Int)) 0 ((List.replicate ((r4.1 : Int).toNat) (0 : Int)).length) l1), true)) none) none) none))
theorem e59 (d : Nat) (l1 : List Int) (n2 : Int) : g59 (d + 1) l1 n2 =
 oif (decide ((((l1.length : Nat) : Int) : Int) > 4000)) (
 j59_0 d l1 n2 true) (
 oif (decide ((n2 : Int) < 1)) (
 j59_0 d l1 n2 true) (
 j59_0 d l1 n2 (decide ((n2 : Int) > 16)))) := by kernel_rfl

theorem e142 (d : Nat) (n1 : Int) (n2 : Int) : g142 (d + 1) n1 n2 =
 oif ((n2 : Int) == 0) none (
 some (IntKind.i64.wrap ((IntKind.i64.wrap ((IntKind.i64.wrap ((IntKind.i64.wrap (n1 + n2)) - 1)).tdiv n2)) * n2))) := by kernel_rfl

theorem e143 (d : Nat) (l1 : List Int) (n2 : Int) : g143 (d + 1) l1 n2 =
 oif (Nat.ble ((([] : List Int).length + l1.length) * 1) roomMax) (
 obind (g142 d (((([] : List Int) ++ l1).length : Nat) : Int) n2) fun r3 =>
 oif (decide (0 ≤ ((IntKind.i64.wrap (r3 - (((([] : List Int) ++ l1).length : Nat) : Int))) : Int)) && decide (((IntKind.i64.wrap (r3 - (((([] : List Int) ++ l1).length : Nat) : Int))) : Int) * ((1 : Nat) : Int) ≤ ((roomMax : Nat) : Int))) (
 oif (Nat.ble (((([] : List Int) ++ l1).length + (List.replicate ((IntKind.i64.wrap (r3 - (((([] : List Int) ++ l1).length : Nat) : Int))) : Int).toNat (0 : Int)).length) * 1) roomMax) (
 some ((([] : List Int) ++ l1) ++ (List.replicate ((IntKind.i64.wrap (r3 - (((([] : List Int) ++ l1).length : Nat) : Int))) : Int).toNat (0 : Int)))) none) none) none := by kernel_rfl

theorem e60 (d : Nat) (l1 : List Int) (n2 : Int) : g60 (d + 1) l1 n2 =
 obind (g139 d ((l1.length : Nat) : Int)) fun r3 =>
 oif (!r3) (
 some ([], false)) (
 obind (g131 d n2 1 16) fun r4 =>
 oif (!r4) (
 some ([], false)) (
 obind (g142 d ((l1.length : Nat) : Int) n2) fun r5 =>
 obind (g139 d r5) fun r6 =>
 oif (!r6) (
 some ([], false)) (
 obind (g143 d l1 n2) fun r7 =>
 some (r7, true)))) := by kernel_rfl

theorem e61 (d : Nat) (l1 : List Int) : g61 (d + 1) l1 =
 obind (g120 d (l1, 0, 0) 90) fun r2 =>
 obind (g115 d r2.2 [0, 1, 3, 4, 5, r2.1, 999999, 1000000, 1000001, (-1)]) fun r3 =>
 obind (g115 d r3.2 [1, 2, 4, 4, 8, 16, 17, 0]) fun r4 =>
 some (r3.1, r4.1) := by kernel_rfl

theorem e63 (d : Nat) (n1 : Int) (n2 : Int) : g63 (d + 1) n1 n2 =
 obind (g131 d n1 0 1000000) fun r3 =>
 oif (!r3) (
 some (0, false)) (
 obind (g131 d n2 1 16) fun r4 =>
 oif (!r4) (
 some (0, false)) (
 obind (g142 d n1 n2) fun r5 =>
 some (r5, true))) := by kernel_rfl

noncomputable def j64_0 (d : Nat)  (b4 : Bool) : Option Bool :=
 some true
noncomputable def l64_0_b (d : Nat) (l1 : List Int) (l2 : List Int) (kx64_0_0 : Bool → Option Bool) (ag3 : (Bool × Int) → Option Bool) (b4 : Bool) (n5 : Int) : Option Bool :=
 oif (decide ((n5 : Int) < ((l1.length : Nat) : Int))) (
 oif (decide (0 ≤ (n5 : Int))) (
 obind (l1[(n5 : Int).toNat]?) fun n6 =>
 oif (decide (0 ≤ (n5 : Int))) (
 obind (l2[(n5 : Int).toNat]?) fun n7 =>
 oif ((n6 : Int) != n7) (
 some false) (
 ag3 (b4, (IntKind.i64.wrap (n5 + 1))))) none) none) (
 kx64_0_0 b4)
noncomputable def l64_0 (d : Nat) (l1 : List Int) (l2 : List Int) (kx64_0_0 : Bool → Option Bool) (ag3 : (Bool × Int) → Option Bool) (s : (Bool × Int)) : Option Bool := l64_0_b d l1 l2 kx64_0_0 ag3 s.1 s.2
theorem e64 (d : Nat) (l1 : List Int) (l2 : List Int) : g64 (d + 1) l1 l2 =
 oif ((((l1.length : Nat) : Int) : Int) != ((l2.length : Nat) : Int)) (
 some false) (
 iterP (l64_0 d l1 l2 (j64_0 d)) fuelN (false, 0)) := by kernel_rfl

noncomputable def j65_0 (d : Nat)  (b6 : Bool) (b7 : Bool) : Option (Bool × Bool) :=
 some (true, true)
noncomputable def l65_0_b (d : Nat) (l1 : List Int) (n2 : Int) (n3 : Int) (kx65_0_0 : Bool → Bool → Option (Bool × Bool)) (ag5 : (Bool × Bool × Int) → Option (Bool × Bool)) (b6 : Bool) (b7 : Bool) (n8 : Int) : Option (Bool × Bool) :=
 oif (decide ((n8 : Int) < ((((l1.take ((n3 : Int).toNat)).drop ((n2 : Int).toNat)).length : Nat) : Int))) (
 oif (decide (0 ≤ (n8 : Int))) (
 obind (((l1.take ((n3 : Int).toNat)).drop ((n2 : Int).toNat))[(n8 : Int).toNat]?) fun n9 =>
 oif ((n9 : Int) != 0) (
 some (false, true)) (
 ag5 (b6, b7, (IntKind.i64.wrap (n8 + 1))))) none) (
 kx65_0_0 b6 b7)
noncomputable def l65_0 (d : Nat) (l1 : List Int) (n2 : Int) (n3 : Int) (kx65_0_0 : Bool → Bool → Option (Bool × Bool)) (ag5 : (Bool × Bool × Int) → Option (Bool × Bool)) (s : (Bool × Bool × Int)) : Option (Bool × Bool) := l65_0_b d l1 n2 n3 kx65_0_0 ag5 s.1 s.2.1 s.2.2
noncomputable def j65_1 (d : Nat) (l1 : List Int) (n2 : Int) (n3 : Int) (b4 : Bool) : Option (Bool × Bool) :=
 oif b4 (
 some (false, false)) (
 oif (decide (0 ≤ (n3 : Int))) (
 oif (decide (0 ≤ (n2 : Int))) (
 oif (Nat.ble ((n2 : Int).toNat) ((n3 : Int).toNat) && Nat.ble ((n3 : Int).toNat) l1.length) (
 iterP (l65_0 d l1 n2 n3 (j65_0 d)) fuelN (false, false, 0)) none) none) none)
theorem e65 (d : Nat) (l1 : List Int) (n2 : Int) (n3 : Int) : g65 (d + 1) l1 n2 n3 =
 oif (decide ((((l1.length : Nat) : Int) : Int) > 4000)) (
 j65_1 d l1 n2 n3 true) (
 oif (decide ((n2 : Int) < 0)) (
 j65_1 d l1 n2 n3 true) (
 oif (decide ((n2 : Int) > n3)) (
 j65_1 d l1 n2 n3 true) (
 j65_1 d l1 n2 n3 (decide ((n3 : Int) > ((l1.length : Nat) : Int)))))) := by kernel_rfl

noncomputable def j66_0 (d : Nat)  (n3 : Int) : Option (Int × Bool) :=
 some ((IntKind.i64.wrap ((65535 : Int) - n3)), true)
noncomputable def j66_1 (d : Nat) (ag2 : (Int × Int) → Option (Int × Bool)) (n3 : Int) (n4 : Int) (n6 : Int) (b7 : Bool) : Option (Int × Bool) :=
 oif (decide (((IntKind.i64.wrap (n3 + n6)) : Int) > 65535)) (
 ag2 ((IntKind.i64.wrap ((IntKind.i64.wrap (n3 + n6)) - 65535)), (IntKind.i64.wrap (n4 + 2)))) (
 ag2 ((IntKind.i64.wrap (n3 + n6)), (IntKind.i64.wrap (n4 + 2))))
noncomputable def l66_0_b (d : Nat) (l1 : List Int) (kx66_0_0 : Int → Option (Int × Bool)) (ag2 : (Int × Int) → Option (Int × Bool)) (n3 : Int) (n4 : Int) : Option (Int × Bool) :=
 oif (decide ((n4 : Int) < ((l1.length : Nat) : Int))) (
 oif (decide (0 ≤ (n4 : Int))) (
 obind (l1[(n4 : Int).toNat]?) fun n5 =>
 oif (decide (((IntKind.i64.wrap (n4 + 1)) : Int) < ((l1.length : Nat) : Int))) (
 oif (decide (0 ≤ ((IntKind.i64.wrap (n4 + 1)) : Int))) (
 obind (l1[((IntKind.i64.wrap (n4 + 1)) : Int).toNat]?) fun n6 =>
 j66_1 d ag2 n3 n4 (IntKind.i64.wrap ((BitVec.ofInt IntKind.i64.bits (IntKind.i64.wrap ((IntKind.i64.wrap n5) * 2 ^ (min (8 : Int).toNat IntKind.i64.bits))) ||| BitVec.ofInt IntKind.i64.bits (IntKind.i64.wrap n6)).toNat : Int)) true) none) (
 j66_1 d ag2 n3 n4 (IntKind.i64.wrap ((IntKind.i64.wrap n5) * 2 ^ (min (8 : Int).toNat IntKind.i64.bits))) false)) none) (
 kx66_0_0 n3)
noncomputable def l66_0 (d : Nat) (l1 : List Int) (kx66_0_0 : Int → Option (Int × Bool)) (ag2 : (Int × Int) → Option (Int × Bool)) (s : (Int × Int)) : Option (Int × Bool) := l66_0_b d l1 kx66_0_0 ag2 s.1 s.2
theorem e66 (d : Nat) (l1 : List Int) : g66 (d + 1) l1 =
 oif (decide ((((l1.length : Nat) : Int) : Int) > 4000)) (
 some (0, false)) (
 iterP (l66_0 d l1 (j66_0 d)) fuelN (0, 0)) := by kernel_rfl

noncomputable def j6_0 (d : Nat) (r3 : (Int × Int)) (r4 : ((List Int) × Bool)) (r5 : ((List Int) × Bool))  : Option Bool :=
 oif (!r4.2) (
 some true) (
 obind (g56 d r4.1 0 r3.2) fun r16 =>
 oif r16.2 (
 oif ((r16.1 : Int) == r3.1) (
 some ((((r5.1.length : Nat) : Int) : Int) == r3.2)) (
 some false)) (
 some false))
noncomputable def j6_1 (d : Nat) (r3 : (Int × Int)) (r4 : ((List Int) × Bool)) (r5 : ((List Int) × Bool)) (r9 : ((List Int) × Int)) (r10 : ((List Int) × Bool)) (r11 : ((List Int) × Bool)) (b15 : Bool) : Option Bool :=
 oif b15 (
 some false) (
 oif r10.2 (
 obind (g65 d r10.1 ((r9.1.length : Nat) : Int) ((r10.1.length : Nat) : Int)) fun r16 =>
 obind (g66 d r9.1) fun r17 =>
 obind (g66 d r10.1) fun r18 =>
 oif (!r16.2) (
 some false) (
 oif (!r16.1) (
 some false) (
 oif ((r9.2 : Int) == 0) none (
 oif (((((r11.1.length : Nat) : Int).tmod r9.2) : Int) != 0) (
 some false) (
 oif (!r17.2) (
 some false) (
 oif (!r18.2) (
 some false) (
 oif ((r17.1 : Int) != r18.1) (
 some false) (
 j6_0 d r3 r4 r5)))))))) (
 j6_0 d r3 r4 r5))
theorem e6 (d : Nat) (l1 : List Int) (l2 : List Int) : g6 (d + 1) l1 l2 =
 oif (decide (((IntKind.i64.wrap (((l1.length : Nat) : Int) + ((l2.length : Nat) : Int))) : Int) > 1048576)) (
 some true) (
 obind (g52 d l1) fun r3 =>
 obind (g53 d r3.1 r3.2) fun r4 =>
 obind (g54 d r3.1 r3.2) fun r5 =>
 obind (g55 d l2) fun r6 =>
 obind (g56 d r6.1 r6.2.1 r6.2.2) fun r7 =>
 obind (g57 d r6.1 r6.2.1 r6.2.2) fun r8 =>
 obind (g58 d l2) fun r9 =>
 obind (g59 d r9.1 r9.2) fun r10 =>
 obind (g60 d r9.1 r9.2) fun r11 =>
 obind (g61 d l2) fun r12 =>
 obind (g62 d r12.1 r12.2) fun r13 =>
 obind (g63 d r12.1 r12.2) fun r14 =>
 oif (!(r4.2 == r5.2)) (
 j6_1 d r3 r4 r5 r9 r10 r11 true) (
 obind (g64 d r4.1 r5.1) fun r15 =>
 oif (!r15) (
 j6_1 d r3 r4 r5 r9 r10 r11 true) (
 oif (!(r7.2 == r8.2)) (
 j6_1 d r3 r4 r5 r9 r10 r11 true) (
 oif ((r7.1 : Int) != r8.1) (
 j6_1 d r3 r4 r5 r9 r10 r11 true) (
 oif (!(r10.2 == r11.2)) (
 j6_1 d r3 r4 r5 r9 r10 r11 true) (
 obind (g64 d r10.1 r11.1) fun r16 =>
 oif (!r16) (
 j6_1 d r3 r4 r5 r9 r10 r11 true) (
 oif (!(r13.2 == r14.2)) (
 j6_1 d r3 r4 r5 r9 r10 r11 true) (
 oif ((r13.1 : Int) != r14.1) (
 j6_1 d r3 r4 r5 r9 r10 r11 true) (
 oif r13.2 (
 oif (decide ((r14.1 : Int) < r12.1)) (
 j6_1 d r3 r4 r5 r9 r10 r11 true) (
 oif (decide ((r14.1 : Int) ≥ (IntKind.i64.wrap (r12.1 + r12.2)))) (
 j6_1 d r3 r4 r5 r9 r10 r11 true) (
 oif ((r12.2 : Int) == 0) none (
 j6_1 d r3 r4 r5 r9 r10 r11 (((r14.1.tmod r12.2) : Int) != 0))))) (
 j6_1 d r3 r4 r5 r9 r10 r11 false)))))))))) := by kernel_rfl

end Go.Proofs.Ytngofhppopgicaa
