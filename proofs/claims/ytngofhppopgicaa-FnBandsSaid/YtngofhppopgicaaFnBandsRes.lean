/-
  The residual forms of the program's functions under the interpreter by value, printed by program (wip/pv/gen2.py); each equation is checked by the kernel.
  Conditions: none.
-/
import Derived.Test.YtngofhppopgicaaVDef
import Derived.Test.YtngofhppopgicaaProg
import Derived.KernelRfl
set_option linter.all false
set_option maxRecDepth 1000000
namespace Go.Proofs.Ytngofhppopgicaa
open Go.Ev Go.Pv

theorem fuel_is : ∃ n : Nat, n = 4194304 := ⟨_, rfl⟩
noncomputable def fuelN : Nat := Classical.choose fuel_is
theorem fuelN_eq : fuelN = 4194304 := Classical.choose_spec fuel_is
def pvSig : FuncId → Sig
  | 4 => ⟨[(.ro, (.sl (.int .u8))), (.ro, (.sl (.int .u8)))], [(false, .bool)]⟩
  | 22 => ⟨[(.ro, (.sl (.int .u8)))], [(false, (.sl (.int .i64))), (true, (.sl (.int .i64)))]⟩
  | 23 => ⟨[(.ro, (.sl (.int .i64))), (.ro, (.sl (.int .i64)))], [(true, (.sl (.int .i64))), (false, .bool)]⟩
  | 24 => ⟨[(.ro, (.sl (.int .i64))), (.ro, (.sl (.int .i64)))], [(true, (.sl (.int .i64))), (false, .bool)]⟩
  | 25 => ⟨[(.ro, (.sl (.int .u8)))], [(false, (.sl (.int .i64))), (true, (.sl (.int .i64)))]⟩
  | 26 => ⟨[(.ro, (.sl (.int .i64))), (.ro, (.sl (.int .i64)))], [(true, (.sl (.int .i64))), (false, .bool)]⟩
  | 27 => ⟨[(.ro, (.sl (.int .i64))), (.ro, (.sl (.int .i64)))], [(true, (.sl (.int .i64))), (false, .bool)]⟩
  | 28 => ⟨[(.ro, (.sl (.int .u8)))], [(false, (.sl (.int .i64))), (false, (.int .i64))]⟩
  | 29 => ⟨[(.ro, (.sl (.int .i64))), (.ro, (.int .i64))], [(false, (.int .i64)), (false, .bool)]⟩
  | 30 => ⟨[(.ro, (.sl (.int .i64))), (.ro, (.int .i64))], [(false, (.int .i64)), (false, .bool)]⟩
  | 31 => ⟨[(.ro, (.sl (.int .i64))), (.ro, (.sl (.int .i64)))], [(false, .bool)]⟩
  | 32 => ⟨[(.ro, (.sl (.int .i64)))], [(false, (.int .i64))]⟩
  | 33 => ⟨[(.ro, (.sl (.int .i64)))], [(false, .bool)]⟩
  | 34 => ⟨[(.ro, (.sl (.int .i64)))], [(false, .bool)]⟩
  | 115 => ⟨[(.ps, (.pair (.sl (.int .u8)) (.pair (.int .i64) (.int .u64)))), (.ro, (.sl (.int .i64)))], [(false, (.int .i64))]⟩
  | 116 => ⟨[(.ps, (.pair (.sl (.int .u8)) (.pair (.int .i64) (.int .u64))))], [(false, (.sl (.int .i64)))]⟩
  | 117 => ⟨[(.ps, (.pair (.sl (.int .u8)) (.pair (.int .i64) (.int .u64))))], [(true, (.sl (.int .i64)))]⟩
  | 118 => ⟨[(.ro, (.sl (.int .i64)))], [(false, .bool)]⟩
  | 119 => ⟨[(.ro, (.sl (.int .i64))), (.ro, (.sl (.int .i64)))], [(false, .bool)]⟩
  | 120 => ⟨[(.ps, (.pair (.sl (.int .u8)) (.pair (.int .i64) (.int .u64)))), (.ro, (.int .i64))], [(false, (.int .i64))]⟩
  | 121 => ⟨[(.ro, (.int .i64))], [(false, .bool)]⟩
  | 122 => ⟨[(.ro, (.sl (.int .i64)))], [(false, .bool)]⟩
  | 123 => ⟨[(.ro, (.int .i64))], [(false, .bool)]⟩
  | 131 => ⟨[(.ro, (.int .i64)), (.ro, (.int .i64)), (.ro, (.int .i64))], [(false, .bool)]⟩
  | 141 => ⟨[(.ps, (.pair (.sl (.int .u8)) (.pair (.int .i64) (.int .u64)))), (.ro, (.int .i64))], [(false, .bool)]⟩
  | 172 => ⟨[(.ro, (.sl (.int .i64))), (.ro, (.int .i64)), (.ro, (.int .i64))], [(false, .bool)]⟩
  | 173 => ⟨[(.ps, (.pair (.sl (.int .u8)) (.pair (.int .i64) (.int .u64))))], [(false, (.int .i64))]⟩
  | _ => ⟨[], []⟩
def pvLoops : FuncId → Nat → LoopA
  | 4, 0 => ⟨[(4, false, .bool), (23, false, (.int .i64)), (24, false, (.int .i64)), (139, false, (.int .i64))], [], [], []⟩
  | 23, 0 => ⟨[(6, true, (.sl (.int .i64))), (19, false, (.int .i64))], [], [], []⟩
  | 23, 1 => ⟨[(6, true, (.sl (.int .i64))), (24, false, (.int .i64))], [], [], []⟩
  | 24, 0 => ⟨[(6, true, (.sl (.int .i64))), (7, false, (.int .i64))], [], [], []⟩
  | 24, 1 => ⟨[(6, true, (.sl (.int .i64))), (20, false, (.int .i64))], [], [], []⟩
  | 26, 0 => ⟨[(20, false, (.int .i64))], [], [(6, (.int .i64))], []⟩
  | 27, 0 => ⟨[(16, false, (.int .i64))], [], [(6, (.int .i64))], []⟩
  | 31, 0 => ⟨[(4, false, .bool), (13, false, (.int .i64))], [], [], []⟩
  | 32, 0 => ⟨[(3, false, (.int .i64)), (8, false, (.int .i64))], [], [], []⟩
  | 33, 0 => ⟨[(2, false, .bool), (7, false, (.int .i64))], [], [], []⟩
  | 116, 0 => ⟨[(12, false, (.int .i64))], [(0, (.pair (.sl (.int .u8)) (.pair (.int .i64) (.int .u64))))], [(3, (.int .i64))], []⟩
  | 117, 0 => ⟨[(3, true, (.sl (.int .i64)))], [(0, (.pair (.sl (.int .u8)) (.pair (.int .i64) (.int .u64))))], [], []⟩
  | 118, 0 => ⟨[(2, false, .bool), (7, false, (.int .i64))], [], [], []⟩
  | 172, 0 => ⟨[(6, false, .bool), (11, false, (.int .i64))], [], [], []⟩
  | _, _ => ⟨[], [], [], []⟩
def pvEloops : FuncId → Nat → List (Nat × Value)
  | 4, 0 => [(4, (.bool false)), (5, (.slice none 0 0)), (6, (.slice none 0 0)), (9, (.slice none 0 0)), (23, (.int .i64 0)), (24, (.int .i64 0)), (137, (.slice none 0 0)), (138, (.int .i64 0)), (139, (.int .i64 0))]
  | 23, 0 => [(0, (.slice none 0 0)), (1, (.slice none 0 0)), (4, (.slice none 0 0)), (5, (.bool false)), (6, (.slice none 0 0)), (19, (.int .i64 0))]
  | 23, 1 => [(0, (.slice none 0 0)), (1, (.slice none 0 0)), (4, (.slice none 0 0)), (5, (.bool false)), (6, (.slice none 0 0)), (7, (.int .i64 0)), (19, (.int .i64 0)), (20, (.bool false)), (21, (.int .i64 0)), (22, (.slice none 0 0)), (23, (.int .i64 0)), (24, (.int .i64 0))]
  | 24, 0 => [(0, (.slice none 0 0)), (1, (.slice none 0 0)), (4, (.slice none 0 0)), (5, (.bool false)), (6, (.slice none 0 0)), (7, (.int .i64 0))]
  | 24, 1 => [(0, (.slice none 0 0)), (1, (.slice none 0 0)), (4, (.slice none 0 0)), (5, (.bool false)), (6, (.slice none 0 0)), (7, (.int .i64 0)), (14, (.int .i64 0)), (15, (.bool false)), (18, (.slice none 0 0)), (19, (.int .i64 0)), (20, (.int .i64 0))]
  | 26, 0 => [(0, (.slice none 0 0)), (4, (.slice none 0 0)), (5, (.bool false)), (6, (.slice none 0 0)), (18, (.slice none 0 0)), (19, (.int .i64 0)), (20, (.int .i64 0))]
  | 27, 0 => [(0, (.slice none 0 0)), (4, (.slice none 0 0)), (5, (.bool false)), (6, (.slice none 0 0)), (14, (.slice none 0 0)), (15, (.int .i64 0)), (16, (.int .i64 0))]
  | 31, 0 => [(0, (.slice none 0 0)), (1, (.slice none 0 0)), (4, (.bool false)), (12, (.int .i64 0)), (13, (.int .i64 0))]
  | 32, 0 => [(2, (.int .i64 0)), (3, (.int .i64 0)), (6, (.slice none 0 0)), (7, (.int .i64 0)), (8, (.int .i64 0))]
  | 33, 0 => [(0, (.slice none 0 0)), (2, (.bool false)), (5, (.slice none 0 0)), (6, (.int .i64 0)), (7, (.int .i64 0))]
  | 116, 0 => [(0, (.pointer (some ⟨0, 0, none⟩))), (2, (.slice none 0 0)), (3, (.slice none 0 0)), (4, (.int .i64 0)), (11, (.int .i64 0)), (12, (.int .i64 0))]
  | 117, 0 => [(0, (.pointer (some ⟨0, 0, none⟩))), (2, (.slice none 0 0)), (3, (.slice none 0 0)), (4, (.int .i64 0))]
  | 118, 0 => [(0, (.slice none 0 0)), (2, (.bool false)), (5, (.slice none 0 0)), (6, (.int .i64 0)), (7, (.int .i64 0))]
  | 172, 0 => [(1, (.int .i64 0)), (2, (.int .i64 0)), (6, (.bool false)), (9, (.slice none 0 0)), (10, (.int .i64 0)), (11, (.int .i64 0))]
  | _, _ => []
def pvInline : FuncId → Bool

  | _ => false
noncomputable def pvAnn : AnnV := ⟨fuelN, pvSig, pvLoops, pvEloops, pvInline⟩

/-- (*loop.example/g00838/spec.l1Cur).next -/
noncomputable def g173 (d : Nat) (x1 : ((List Int) × Int × Int)) : Option (Int × ((List Int) × Int × Int)) := (lev Try.prog pvAnn d).call 173 (x1)
/-- (*loop.example/g00838/spec.l1Cur).pick -/
noncomputable def g120 (d : Nat) (x1 : ((List Int) × Int × Int)) (n2 : Int) : Option (Int × ((List Int) × Int × Int)) := (lev Try.prog pvAnn d).call 120 (x1, n2)
/-- (*loop.example/g00838/spec.l1Cur).among -/
noncomputable def g115 (d : Nat) (x1 : ((List Int) × Int × Int)) (l2 : List Int) : Option (Int × ((List Int) × Int × Int)) := (lev Try.prog pvAnn d).call 115 (x1, l2)
/-- (*loop.example/g00838/spec.l1Cur).bandMap -/
noncomputable def g116 (d : Nat) (x1 : ((List Int) × Int × Int)) : Option ((List Int) × ((List Int) × Int × Int)) := (lev Try.prog pvAnn d).call 116 (x1)
/-- (*loop.example/g00838/spec.l1Cur).one -/
noncomputable def g141 (d : Nat) (x1 : ((List Int) × Int × Int)) (n2 : Int) : Option (Bool × ((List Int) × Int × Int)) := (lev Try.prog pvAnn d).call 141 (x1, n2)
/-- (*loop.example/g00838/spec.l1Cur).marks -/
noncomputable def g117 (d : Nat) (x1 : ((List Int) × Int × Int)) : Option ((List Int) × ((List Int) × Int × Int)) := (lev Try.prog pvAnn d).call 117 (x1)
/-- loop.example/g00838/spec.DrawSendOrder -/
noncomputable def g22 (d : Nat) (l1 : List Int) : Option ((List Int) × (List Int)) := (lev Try.prog pvAnn d).call 22 (l1)
/-- loop.example/g00838/impl.IsBandMap -/
noncomputable def g33 (d : Nat) (l1 : List Int) : Option Bool := (lev Try.prog pvAnn d).call 33 (l1)
/-- loop.example/g00838/impl.isMark -/
noncomputable def g121 (d : Nat) (n1 : Int) : Option Bool := (lev Try.prog pvAnn d).call 121 (n1)
/-- loop.example/g00838/impl.areMarks -/
noncomputable def g118 (d : Nat) (l1 : List Int) : Option Bool := (lev Try.prog pvAnn d).call 118 (l1)
/-- loop.example/g00838/impl.SendOrder -/
noncomputable def g23 (d : Nat) (l1 : List Int) (l2 : List Int) : Option ((List Int) × Bool) := (lev Try.prog pvAnn d).call 23 (l1, l2)
/-- loop.example/g00838/spec.l1In -/
noncomputable def g131 (d : Nat) (n1 : Int) (n2 : Int) (n3 : Int) : Option Bool := (lev Try.prog pvAnn d).call 131 (n1, n2, n3)
/-- loop.example/g00838/spec.l1All -/
noncomputable def g172 (d : Nat) (l1 : List Int) (n2 : Int) (n3 : Int) : Option Bool := (lev Try.prog pvAnn d).call 172 (l1, n2, n3)
/-- loop.example/g00838/spec.bdMap -/
noncomputable def g122 (d : Nat) (l1 : List Int) : Option Bool := (lev Try.prog pvAnn d).call 122 (l1)
/-- loop.example/g00838/spec.bdMarks -/
noncomputable def g119 (d : Nat) (l1 : List Int) (l2 : List Int) : Option Bool := (lev Try.prog pvAnn d).call 119 (l1, l2)
/-- loop.example/g00838/spec.SendOrder -/
noncomputable def g24 (d : Nat) (l1 : List Int) (l2 : List Int) : Option ((List Int) × Bool) := (lev Try.prog pvAnn d).call 24 (l1, l2)
/-- loop.example/g00838/spec.DrawBandCounts -/
noncomputable def g25 (d : Nat) (l1 : List Int) : Option ((List Int) × (List Int)) := (lev Try.prog pvAnn d).call 25 (l1)
/-- loop.example/g00838/impl.BandCounts -/
noncomputable def g26 (d : Nat) (l1 : List Int) (l2 : List Int) : Option ((List Int) × Bool) := (lev Try.prog pvAnn d).call 26 (l1, l2)
/-- loop.example/g00838/spec.BandCounts -/
noncomputable def g27 (d : Nat) (l1 : List Int) (l2 : List Int) : Option ((List Int) × Bool) := (lev Try.prog pvAnn d).call 27 (l1, l2)
/-- loop.example/g00838/spec.DrawBandOf -/
noncomputable def g28 (d : Nat) (l1 : List Int) : Option ((List Int) × Int) := (lev Try.prog pvAnn d).call 28 (l1)
/-- loop.example/g00838/impl.BandOf -/
noncomputable def g29 (d : Nat) (l1 : List Int) (n2 : Int) : Option (Int × Bool) := (lev Try.prog pvAnn d).call 29 (l1, n2)
/-- loop.example/g00838/spec.bdMark -/
noncomputable def g123 (d : Nat) (n1 : Int) : Option Bool := (lev Try.prog pvAnn d).call 123 (n1)
/-- loop.example/g00838/spec.BandOf -/
noncomputable def g30 (d : Nat) (l1 : List Int) (n2 : Int) : Option (Int × Bool) := (lev Try.prog pvAnn d).call 30 (l1, n2)
/-- loop.example/g00838/laws.qInts -/
noncomputable def g31 (d : Nat) (l1 : List Int) (l2 : List Int) : Option Bool := (lev Try.prog pvAnn d).call 31 (l1, l2)
/-- loop.example/g00838/laws.qSum -/
noncomputable def g32 (d : Nat) (l1 : List Int) : Option Int := (lev Try.prog pvAnn d).call 32 (l1)
/-- loop.example/g00838/spec.IsBandMap -/
noncomputable def g34 (d : Nat) (l1 : List Int) : Option Bool := (lev Try.prog pvAnn d).call 34 (l1)
/-- loop.example/g00838/laws.FnBands -/
noncomputable def g4 (d : Nat) (l1 : List Int) (l2 : List Int) : Option Bool := (lev Try.prog pvAnn d).call 4 (l1, l2)

noncomputable def j173_0 (d : Nat) (x1 : ((List Int) × Int × Int)) (n2 : Int) : Option (Int × ((List Int) × Int × Int)) :=
 oif (decide (((IntKind.i64.wrap (x1.2.1 + 1)) : Int) ≤ ((x1.1.length : Nat) : Int))) (
 some (n2, (x1.1, (IntKind.i64.wrap (x1.2.1 + 1)), (IntKind.u64.wrap ((IntKind.u64.wrap ((IntKind.u64.wrap (x1.2.2 * 6364136223846793005)) + (IntKind.u64.wrap n2))) + 1442695040888963407))))) (
 some ((IntKind.i64.wrap (IntKind.u64.wrap ((BitVec.ofInt IntKind.u64.bits ((IntKind.u64.wrap ((IntKind.u64.wrap ((IntKind.u64.wrap (x1.2.2 * 6364136223846793005)) + (IntKind.u64.wrap n2))) + 1442695040888963407)).fdiv (2 ^ (min (40 : Int).toNat IntKind.u64.bits))) &&& BitVec.ofInt IntKind.u64.bits 255).toNat : Int))), (x1.1, (IntKind.i64.wrap (x1.2.1 + 1)), (IntKind.u64.wrap ((IntKind.u64.wrap ((IntKind.u64.wrap (x1.2.2 * 6364136223846793005)) + (IntKind.u64.wrap n2))) + 1442695040888963407)))))
theorem e173 (d : Nat) (x1 : ((List Int) × Int × Int)) : g173 (d + 1) x1 =
 oif (decide ((x1.2.1 : Int) < ((x1.1.length : Nat) : Int))) (
 oif (decide (0 ≤ (x1.2.1 : Int))) (
 obind (x1.1[(x1.2.1 : Int).toNat]?) fun n2 =>
 j173_0 d x1 (IntKind.i64.wrap n2)) none) (
 j173_0 d x1 0) := by kernel_rfl

theorem e120 (d : Nat) (x1 : ((List Int) × Int × Int)) (n2 : Int) : g120 (d + 1) x1 n2 =
 oif (decide ((n2 : Int) ≤ 1)) (
 some (0, x1)) (
 obind (g173 d x1) fun r3 =>
 oif (decide ((n2 : Int) > 200)) (
 obind (g173 d r3.2) fun r4 =>
 oif ((n2 : Int) == 0) none (
 some (((IntKind.i64.wrap ((IntKind.i64.wrap (r3.1 * 256)) + r4.1)).tmod n2), r4.2))) (
 oif ((n2 : Int) == 0) none (
 some ((r3.1.tmod n2), r3.2)))) := by kernel_rfl

theorem e115 (d : Nat) (x1 : ((List Int) × Int × Int)) (l2 : List Int) : g115 (d + 1) x1 l2 =
 obind (g120 d x1 ((l2.length : Nat) : Int)) fun r3 =>
 oif (decide (0 ≤ (r3.1 : Int))) (
 obind (l2[(r3.1 : Int).toNat]?) fun n4 =>
 some (n4, r3.2)) none := by kernel_rfl

noncomputable def j116_0 (d : Nat)  (l4 : List Int) (n5 : Int) (n6 : Int) (l7 : List Int) : Option ((List Int) × ((List Int) × Int × Int)) :=
 obind (g120 d (l4, n5, n6) 30) fun r8 =>
 oif ((r8.1 : Int) == 0) (
 obind (g120 d r8.2 16) fun r9 =>
 obind (g115 d r9.2 [(-1), 7, 8]) fun r10 =>
 oif (decide (0 ≤ (r9.1 : Int))) (
 oif (Nat.blt ((r9.1 : Int).toNat) l7.length) (
 obind (l7[(r9.1 : Int).toNat]?) fun n11 =>
 some ((l7.set ((r9.1 : Int).toNat) r10.1), r10.2)) none) none) (
 oif ((r8.1 : Int) == 1) (
 oif (Nat.ble 15 l7.length) (
 some ((l7.take 15), r8.2)) none) (
 oif ((r8.1 : Int) == 2) (
 oif (Nat.ble ((l7.length + [0].length) * 8) roomMax) (
 some ((l7 ++ [0]), r8.2)) none) (
 some (l7, r8.2))))
noncomputable def l116_0_b (d : Nat) (r2 : (Int × ((List Int) × Int × Int))) (kx116_0_0 : (List Int) → Int → Int → (List Int) → Option ((List Int) × ((List Int) × Int × Int))) (ag3 : (Int × ((List Int) × Int × Int) × (List Int)) → Option ((List Int) × ((List Int) × Int × Int))) (n4 : Int) (x5 : ((List Int) × Int × Int)) (l6 : List Int) : Option ((List Int) × ((List Int) × Int × Int)) :=
 oif (decide ((n4 : Int) < (((List.replicate 16 (0 : Int)).length : Nat) : Int))) (
 obind (g120 d x5 (IntKind.i64.wrap ((1 : Int) + r2.1))) fun r7 =>
 oif (decide (0 ≤ (n4 : Int))) (
 oif (Nat.blt ((n4 : Int).toNat) l6.length) (
 obind (l6[(n4 : Int).toNat]?) fun n8 =>
 ag3 ((IntKind.i64.wrap (n4 + 1)), r7.2, (l6.set ((n4 : Int).toNat) r7.1))) none) none) (
 kx116_0_0 x5.1 x5.2.1 x5.2.2 l6)
noncomputable def l116_0 (d : Nat) (r2 : (Int × ((List Int) × Int × Int))) (kx116_0_0 : (List Int) → Int → Int → (List Int) → Option ((List Int) × ((List Int) × Int × Int))) (ag3 : (Int × ((List Int) × Int × Int) × (List Int)) → Option ((List Int) × ((List Int) × Int × Int))) (s : (Int × ((List Int) × Int × Int) × (List Int))) : Option ((List Int) × ((List Int) × Int × Int)) := l116_0_b d r2 kx116_0_0 ag3 s.1 s.2.1 s.2.2
theorem e116 (d : Nat) (x1 : ((List Int) × Int × Int)) : g116 (d + 1) x1 =
 oif (Nat.ble 16 16 && Nat.ble (16 * 8) roomMax) (
 obind (g120 d x1 4) fun r2 =>
 iterP (l116_0 d r2 (j116_0 d)) fuelN (0, r2.2, (List.replicate 16 (0 : Int)))) none := by kernel_rfl

theorem e141 (d : Nat) (x1 : ((List Int) × Int × Int)) (n2 : Int) : g141 (d + 1) x1 n2 =
 obind (g120 d x1 n2) fun r3 =>
 some (((r3.1 : Int) == 0), r3.2) := by kernel_rfl

noncomputable def j117_0 (d : Nat) (l12 : List Int) (b13 : Bool) (l14 : List Int) (n15 : Int) (n16 : Int) : Option ((List Int) × ((List Int) × Int × Int)) :=
 oif b13 (
 obind (g115 d (l14, n15, n16) [(-1), 65535, 65536]) fun r17 =>
 oif (Nat.blt 0 l12.length) (
 obind (l12[0]?) fun n18 =>
 some ((l12.set 0 r17.1), r17.2)) none) (
 some (l12, (l14, n15, n16)))
noncomputable def j117_1 (d : Nat)  (l9 : List Int) (n10 : Int) (n11 : Int) (l12 : List Int) : Option ((List Int) × ((List Int) × Int × Int)) :=
 oif (decide ((((l12.length : Nat) : Int) : Int) > 0)) (
 obind (g141 d (l9, n10, n11) 20) fun r13 =>
 j117_0 d l12 r13.1 r13.2.1 r13.2.2.1 r13.2.2.2) (
 j117_0 d l12 false l9 n10 n11)
noncomputable def l117_0_b (d : Nat) (n4 : Int) (kx117_0_0 : (List Int) → Int → Int → (List Int) → Option ((List Int) × ((List Int) × Int × Int))) (ag8 : ((List Int) × ((List Int) × Int × Int)) → Option ((List Int) × ((List Int) × Int × Int))) (l9 : List Int) (x10 : ((List Int) × Int × Int)) : Option ((List Int) × ((List Int) × Int × Int)) :=
 oif (decide ((((l9.length : Nat) : Int) : Int) < n4)) (
 obind (g120 d x10 40) fun r11 =>
 oif (Nat.ble ((l9.length + [r11.1].length) * 8) roomMax) (
 ag8 ((l9 ++ [r11.1]), r11.2)) none) (
 kx117_0_0 x10.1 x10.2.1 x10.2.2 l9)
noncomputable def l117_0 (d : Nat) (n4 : Int) (kx117_0_0 : (List Int) → Int → Int → (List Int) → Option ((List Int) × ((List Int) × Int × Int))) (ag8 : ((List Int) × ((List Int) × Int × Int)) → Option ((List Int) × ((List Int) × Int × Int))) (s : ((List Int) × ((List Int) × Int × Int))) : Option ((List Int) × ((List Int) × Int × Int)) := l117_0_b d n4 kx117_0_0 ag8 s.1 s.2
noncomputable def j117_2 (d : Nat)  (n4 : Int) (l5 : List Int) (n6 : Int) (n7 : Int) : Option ((List Int) × ((List Int) × Int × Int)) :=
 iterP (l117_0 d n4 (j117_1 d)) fuelN ([], (l5, n6, n7))
theorem e117 (d : Nat) (x1 : ((List Int) × Int × Int)) : g117 (d + 1) x1 =
 obind (g120 d x1 9) fun r2 =>
 obind (g141 d r2.2 24) fun r3 =>
 oif r3.1 (
 obind (g120 d r3.2 2) fun r4 =>
 j117_2 d (IntKind.i64.wrap ((40 : Int) + r4.1)) r4.2.1 r4.2.2.1 r4.2.2.2) (
 j117_2 d r2.1 r3.2.1 r3.2.2.1 r3.2.2.2) := by kernel_rfl

theorem e22 (d : Nat) (l1 : List Int) : g22 (d + 1) l1 =
 obind (g116 d (l1, 0, 0)) fun r2 =>
 obind (g117 d r2.2) fun r3 =>
 some (r2.1, r3.1) := by kernel_rfl

noncomputable def j33_0 (d : Nat) (l1 : List Int) (b3 : Bool) : Option Bool :=
 some ((((l1.length : Nat) : Int) : Int) == 16)
noncomputable def l33_0_b (d : Nat) (l1 : List Int) (kx33_0_0 : Bool → Option Bool) (ag2 : (Bool × Int) → Option Bool) (b3 : Bool) (n4 : Int) : Option Bool :=
 oif (decide ((n4 : Int) < ((l1.length : Nat) : Int))) (
 oif (decide (0 ≤ (n4 : Int))) (
 obind (l1[(n4 : Int).toNat]?) fun n5 =>
 oif (decide ((n5 : Int) < 0)) (
 some false) (
 oif (decide ((n5 : Int) ≥ 8)) (
 some false) (
 ag2 (b3, (IntKind.i64.wrap (n4 + 1)))))) none) (
 kx33_0_0 b3)
noncomputable def l33_0 (d : Nat) (l1 : List Int) (kx33_0_0 : Bool → Option Bool) (ag2 : (Bool × Int) → Option Bool) (s : (Bool × Int)) : Option Bool := l33_0_b d l1 kx33_0_0 ag2 s.1 s.2
theorem e33 (d : Nat) (l1 : List Int) : g33 (d + 1) l1 =
 iterP (l33_0 d l1 (j33_0 d l1)) fuelN (false, 0) := by kernel_rfl

theorem e121 (d : Nat) (n1 : Int) : g121 (d + 1) n1 =
 oif (decide ((n1 : Int) ≥ 0)) (
 some (decide ((n1 : Int) ≤ 65535))) (
 some false) := by kernel_rfl

noncomputable def j118_0 (d : Nat) (l1 : List Int) (b3 : Bool) : Option Bool :=
 some (decide ((((l1.length : Nat) : Int) : Int) ≤ 40))
noncomputable def l118_0_b (d : Nat) (l1 : List Int) (kx118_0_0 : Bool → Option Bool) (ag2 : (Bool × Int) → Option Bool) (b3 : Bool) (n4 : Int) : Option Bool :=
 oif (decide ((n4 : Int) < ((l1.length : Nat) : Int))) (
 oif (decide (0 ≤ (n4 : Int))) (
 obind (l1[(n4 : Int).toNat]?) fun n5 =>
 obind (g121 d n5) fun r6 =>
 oif (!r6) (
 some false) (
 ag2 (b3, (IntKind.i64.wrap (n4 + 1))))) none) (
 kx118_0_0 b3)
noncomputable def l118_0 (d : Nat) (l1 : List Int) (kx118_0_0 : Bool → Option Bool) (ag2 : (Bool × Int) → Option Bool) (s : (Bool × Int)) : Option Bool := l118_0_b d l1 kx118_0_0 ag2 s.1 s.2
theorem e118 (d : Nat) (l1 : List Int) : g118 (d + 1) l1 =
 iterP (l118_0 d l1 (j118_0 d l1)) fuelN (false, 0) := by kernel_rfl

noncomputable def j23_0 (d : Nat)  (l5 : List Int) : Option ((List Int) × Bool) :=
 some (l5, true)
noncomputable def j23_1 (d : Nat) (ag4 : ((List Int) × Int) → Option ((List Int) × Bool)) (n6 : Int) (n8 : Int) (l9 : List Int) : Option ((List Int) × Bool) :=
 ag4 (l9, (IntKind.i64.wrap (n6 + 1)))
noncomputable def l23_1_b (d : Nat) (l1 : List Int) (l2 : List Int) (n6 : Int) (kx23_1_0 : Int → (List Int) → Option ((List Int) × Bool)) (ag7 : ((List Int) × Int) → Option ((List Int) × Bool)) (l8 : List Int) (n9 : Int) : Option ((List Int) × Bool) :=
 oif (decide ((n9 : Int) < ((l2.length : Nat) : Int))) (
 oif (decide (0 ≤ (n9 : Int))) (
 obind (l2[(n9 : Int).toNat]?) fun n10 =>
 oif (decide (0 ≤ ((n10.tmod 16) : Int))) (
 obind (l1[((n10.tmod 16) : Int).toNat]?) fun n11 =>
 oif ((n11 : Int) == n6) (
 oif (Nat.ble ((l8.length + [n9].length) * 8) roomMax) (
 ag7 ((l8 ++ [n9]), (IntKind.i64.wrap (n9 + 1)))) none) (
 ag7 (l8, (IntKind.i64.wrap (n9 + 1))))) none) none) (
 kx23_1_0 n9 l8)
noncomputable def l23_1 (d : Nat) (l1 : List Int) (l2 : List Int) (n6 : Int) (kx23_1_0 : Int → (List Int) → Option ((List Int) × Bool)) (ag7 : ((List Int) × Int) → Option ((List Int) × Bool)) (s : ((List Int) × Int)) : Option ((List Int) × Bool) := l23_1_b d l1 l2 n6 kx23_1_0 ag7 s.1 s.2
noncomputable def l23_0_b (d : Nat) (l1 : List Int) (l2 : List Int) (kx23_0_0 : (List Int) → Option ((List Int) × Bool)) (ag4 : ((List Int) × Int) → Option ((List Int) × Bool)) (l5 : List Int) (n6 : Int) : Option ((List Int) × Bool) :=
 oif (decide ((n6 : Int) < 8)) (
 iterP (l23_1 d l1 l2 n6 (j23_1 d ag4 n6)) fuelN (l5, 0)) (
 kx23_0_0 l5)
noncomputable def l23_0 (d : Nat) (l1 : List Int) (l2 : List Int) (kx23_0_0 : (List Int) → Option ((List Int) × Bool)) (ag4 : ((List Int) × Int) → Option ((List Int) × Bool)) (s : ((List Int) × Int)) : Option ((List Int) × Bool) := l23_0_b d l1 l2 kx23_0_0 ag4 s.1 s.2
noncomputable def j23_2 (d : Nat) (l1 : List Int) (l2 : List Int) (b3 : Bool) : Option ((List Int) × Bool) :=
 oif b3 (
 some ([], false)) (
 iterP (l23_0 d l1 l2 (j23_0 d)) fuelN (([] : List Int), 0))
theorem e23 (d : Nat) (l1 : List Int) (l2 : List Int) : g23 (d + 1) l1 l2 =
 obind (g33 d l1) fun r3 =>
 oif (!r3) (
 j23_2 d l1 l2 true) (
 obind (g118 d l2) fun r4 =>
 j23_2 d l1 l2 (!r4)) := by kernel_rfl

theorem e131 (d : Nat) (n1 : Int) (n2 : Int) (n3 : Int) : g131 (d + 1) n1 n2 n3 =
 oif (decide ((n1 : Int) ≥ n2)) (
 some (decide ((n1 : Int) ≤ n3))) (
 some false) := by kernel_rfl

noncomputable def j172_0 (d : Nat)  (b5 : Bool) : Option Bool :=
 some true
noncomputable def l172_0_b (d : Nat) (l1 : List Int) (n2 : Int) (n3 : Int) (kx172_0_0 : Bool → Option Bool) (ag4 : (Bool × Int) → Option Bool) (b5 : Bool) (n6 : Int) : Option Bool :=
 oif (decide ((n6 : Int) < ((l1.length : Nat) : Int))) (
 oif (decide (0 ≤ (n6 : Int))) (
 obind (l1[(n6 : Int).toNat]?) fun n7 =>
 obind (g131 d n7 n2 n3) fun r8 =>
 oif (!r8) (
 some false) (
 ag4 (b5, (IntKind.i64.wrap (n6 + 1))))) none) (
 kx172_0_0 b5)
noncomputable def l172_0 (d : Nat) (l1 : List Int) (n2 : Int) (n3 : Int) (kx172_0_0 : Bool → Option Bool) (ag4 : (Bool × Int) → Option Bool) (s : (Bool × Int)) : Option Bool := l172_0_b d l1 n2 n3 kx172_0_0 ag4 s.1 s.2
theorem e172 (d : Nat) (l1 : List Int) (n2 : Int) (n3 : Int) : g172 (d + 1) l1 n2 n3 =
 iterP (l172_0 d l1 n2 n3 (j172_0 d)) fuelN (false, 0) := by kernel_rfl

theorem e122 (d : Nat) (l1 : List Int) : g122 (d + 1) l1 =
 oif ((((l1.length : Nat) : Int) : Int) == 16) (
 obind (g172 d l1 0 7) fun r2 =>
 some r2) (
 some false) := by kernel_rfl

theorem e119 (d : Nat) (l1 : List Int) (l2 : List Int) : g119 (d + 1) l1 l2 =
 obind (g122 d l1) fun r3 =>
 oif r3 (
 oif (decide ((((l2.length : Nat) : Int) : Int) ≤ 40)) (
 obind (g172 d l2 0 65535) fun r4 =>
 some r4) (
 some false)) (
 some false) := by kernel_rfl

noncomputable def j24_0 (d : Nat)  (l5 : List Int) : Option ((List Int) × Bool) :=
 some (l5, true)
noncomputable def j24_1 (d : Nat) (ag4 : ((List Int) × Int) → Option ((List Int) × Bool)) (n6 : Int) (n8 : Int) (l9 : List Int) : Option ((List Int) × Bool) :=
 ag4 (l9, (IntKind.i64.wrap (n6 + 1)))
noncomputable def l24_1_b (d : Nat) (l1 : List Int) (l2 : List Int) (n6 : Int) (kx24_1_0 : Int → (List Int) → Option ((List Int) × Bool)) (ag7 : ((List Int) × Int) → Option ((List Int) × Bool)) (l8 : List Int) (n9 : Int) : Option ((List Int) × Bool) :=
 oif (decide ((n9 : Int) < ((l2.length : Nat) : Int))) (
 oif (decide (0 ≤ (n9 : Int))) (
 obind (l2[(n9 : Int).toNat]?) fun n10 =>
 oif (decide (0 ≤ ((n10.tmod 16) : Int))) (
 obind (l1[((n10.tmod 16) : Int).toNat]?) fun n11 =>
 oif ((n11 : Int) == n6) (
 oif (Nat.ble ((l8.length + [n9].length) * 8) roomMax) (
 ag7 ((l8 ++ [n9]), (IntKind.i64.wrap (n9 + 1)))) none) (
 ag7 (l8, (IntKind.i64.wrap (n9 + 1))))) none) none) (
 kx24_1_0 n9 l8)
noncomputable def l24_1 (d : Nat) (l1 : List Int) (l2 : List Int) (n6 : Int) (kx24_1_0 : Int → (List Int) → Option ((List Int) × Bool)) (ag7 : ((List Int) × Int) → Option ((List Int) × Bool)) (s : ((List Int) × Int)) : Option ((List Int) × Bool) := l24_1_b d l1 l2 n6 kx24_1_0 ag7 s.1 s.2
noncomputable def l24_0_b (d : Nat) (l1 : List Int) (l2 : List Int) (kx24_0_0 : (List Int) → Option ((List Int) × Bool)) (ag4 : ((List Int) × Int) → Option ((List Int) × Bool)) (l5 : List Int) (n6 : Int) : Option ((List Int) × Bool) :=
 oif (decide ((n6 : Int) < 8)) (
 iterP (l24_1 d l1 l2 n6 (j24_1 d ag4 n6)) fuelN (l5, 0)) (
 kx24_0_0 l5)
noncomputable def l24_0 (d : Nat) (l1 : List Int) (l2 : List Int) (kx24_0_0 : (List Int) → Option ((List Int) × Bool)) (ag4 : ((List Int) × Int) → Option ((List Int) × Bool)) (s : ((List Int) × Int)) : Option ((List Int) × Bool) := l24_0_b d l1 l2 kx24_0_0 ag4 s.1 s.2
theorem e24 (d : Nat) (l1 : List Int) (l2 : List Int) : g24 (d + 1) l1 l2 =
 obind (g119 d l1 l2) fun r3 =>
 oif (!r3) (
 some ([], false)) (
 iterP (l24_0 d l1 l2 (j24_0 d)) fuelN ([], 0)) := by kernel_rfl

theorem e25 (d : Nat) (l1 : List Int) : g25 (d + 1) l1 =
 obind (g22 d l1) fun r2 =>
 some (r2.1, r2.2) := by kernel_rfl

noncomputable def j26_0 (d : Nat)  (l5 : List Int) : Option ((List Int) × Bool) :=
 some (l5, true)
noncomputable def l26_0_b (d : Nat) (l1 : List Int) (l2 : List Int) (kx26_0_0 : (List Int) → Option ((List Int) × Bool)) (ag4 : (Int × (List Int)) → Option ((List Int) × Bool)) (n5 : Int) (l6 : List Int) : Option ((List Int) × Bool) :=
 oif (decide ((n5 : Int) < ((l2.length : Nat) : Int))) (
 oif (decide (0 ≤ (n5 : Int))) (
 obind (l2[(n5 : Int).toNat]?) fun n7 =>
 oif (decide (0 ≤ ((n7.tmod 16) : Int))) (
 obind (l1[((n7.tmod 16) : Int).toNat]?) fun n8 =>
 oif (decide (0 ≤ (n8 : Int))) (
 oif (Nat.blt ((n8 : Int).toNat) l6.length) (
 obind (l6[(n8 : Int).toNat]?) fun n9 =>
 oif (decide (0 ≤ (n8 : Int))) (
 oif (Nat.blt ((n8 : Int).toNat) l6.length) (
 obind (l6[(n8 : Int).toNat]?) fun n10 =>
 ag4 ((IntKind.i64.wrap (n5 + 1)), (l6.set ((n8 : Int).toNat) (IntKind.i64.wrap (n9 + 1))))) none) none) none) none) none) none) (
 kx26_0_0 l6)
noncomputable def l26_0 (d : Nat) (l1 : List Int) (l2 : List Int) (kx26_0_0 : (List Int) → Option ((List Int) × Bool)) (ag4 : (Int × (List Int)) → Option ((List Int) × Bool)) (s : (Int × (List Int))) : Option ((List Int) × Bool) := l26_0_b d l1 l2 kx26_0_0 ag4 s.1 s.2
noncomputable def j26_1 (d : Nat) (l1 : List Int) (l2 : List Int) (b3 : Bool) : Option ((List Int) × Bool) :=
 oif b3 (
 some ([], false)) (
 oif (Nat.ble 8 8 && Nat.ble (8 * 8) roomMax) (
 iterP (l26_0 d l1 l2 (j26_0 d)) fuelN (0, (List.replicate 8 (0 : Int)))) none)
theorem e26 (d : Nat) (l1 : List Int) (l2 : List Int) : g26 (d + 1) l1 l2 =
 obind (g33 d l1) fun r3 =>
 oif (!r3) (
 j26_1 d l1 l2 true) (
 obind (g118 d l2) fun r4 =>
 j26_1 d l1 l2 (!r4)) := by kernel_rfl

noncomputable def j27_0 (d : Nat)  (l5 : List Int) : Option ((List Int) × Bool) :=
 some (l5, true)
noncomputable def l27_0_b (d : Nat) (l1 : List Int) (l2 : List Int) (kx27_0_0 : (List Int) → Option ((List Int) × Bool)) (ag4 : (Int × (List Int)) → Option ((List Int) × Bool)) (n5 : Int) (l6 : List Int) : Option ((List Int) × Bool) :=
 oif (decide ((n5 : Int) < ((l2.length : Nat) : Int))) (
 oif (decide (0 ≤ (n5 : Int))) (
 obind (l2[(n5 : Int).toNat]?) fun n7 =>
 oif (decide (0 ≤ ((n7.tmod 16) : Int))) (
 obind (l1[((n7.tmod 16) : Int).toNat]?) fun n8 =>
 oif (decide (0 ≤ (n8 : Int))) (
 oif (Nat.blt ((n8 : Int).toNat) l6.length) (
 obind (l6[(n8 : Int).toNat]?) fun n9 =>
 oif (decide (0 ≤ (n8 : Int))) (
 oif (Nat.blt ((n8 : Int).toNat) l6.length) (
 obind (l6[(n8 : Int).toNat]?) fun n10 =>
 ag4 ((IntKind.i64.wrap (n5 + 1)), (l6.set ((n8 : Int).toNat) (IntKind.i64.wrap (n9 + 1))))) none) none) none) none) none) none) (
 kx27_0_0 l6)
noncomputable def l27_0 (d : Nat) (l1 : List Int) (l2 : List Int) (kx27_0_0 : (List Int) → Option ((List Int) × Bool)) (ag4 : (Int × (List Int)) → Option ((List Int) × Bool)) (s : (Int × (List Int))) : Option ((List Int) × Bool) := l27_0_b d l1 l2 kx27_0_0 ag4 s.1 s.2
theorem e27 (d : Nat) (l1 : List Int) (l2 : List Int) : g27 (d + 1) l1 l2 =
 obind (g119 d l1 l2) fun r3 =>
 oif (!r3) (
 some ([], false)) (
 oif (Nat.ble 8 8 && Nat.ble (8 * 8) roomMax) (
 iterP (l27_0 d l1 l2 (j27_0 d)) fuelN (0, (List.replicate 8 (0 : Int)))) none) := by kernel_rfl

theorem e28 (d : Nat) (l1 : List Int) : g28 (d + 1) l1 =
 obind (g116 d (l1, 0, 0)) fun r2 =>
 obind (g120 d r2.2 60000) fun r3 =>
 obind (g115 d r3.2 [0, 1, 15, 16, r3.1, 65535, 65536, (-1)]) fun r4 =>
 some (r2.1, r4.1) := by kernel_rfl

theorem e29 (d : Nat) (l1 : List Int) (n2 : Int) : g29 (d + 1) l1 n2 =
 obind (g33 d l1) fun r3 =>
 oif (!r3) (
 some (0, false)) (
 obind (g121 d n2) fun r4 =>
 oif (!r4) (
 some (0, false)) (
 oif (decide (0 ≤ ((n2.tmod 16) : Int))) (
 obind (l1[((n2.tmod 16) : Int).toNat]?) fun n5 =>
 some (n5, true)) none)) := by kernel_rfl

theorem e123 (d : Nat) (n1 : Int) : g123 (d + 1) n1 =
 obind (g131 d n1 0 65535) fun r2 =>
 some r2 := by kernel_rfl

theorem e30 (d : Nat) (l1 : List Int) (n2 : Int) : g30 (d + 1) l1 n2 =
 obind (g122 d l1) fun r3 =>
 oif (!r3) (
 some (0, false)) (
 obind (g123 d n2) fun r4 =>
 oif (!r4) (
 some (0, false)) (
 oif (decide (0 ≤ ((n2.tmod 16) : Int))) (
 obind (l1[((n2.tmod 16) : Int).toNat]?) fun n5 =>
 some (n5, true)) none)) := by kernel_rfl

noncomputable def j31_0 (d : Nat)  (b4 : Bool) : Option Bool :=
 some true
noncomputable def l31_0_b (d : Nat) (l1 : List Int) (l2 : List Int) (kx31_0_0 : Bool → Option Bool) (ag3 : (Bool × Int) → Option Bool) (b4 : Bool) (n5 : Int) : Option Bool :=
 oif (decide ((n5 : Int) < ((l1.length : Nat) : Int))) (
 oif (decide (0 ≤ (n5 : Int))) (
 obind (l1[(n5 : Int).toNat]?) fun n6 =>
 oif (decide (0 ≤ (n5 : Int))) (
 obind (l2[(n5 : Int).toNat]?) fun n7 =>
 oif ((n6 : Int) != n7) (
 some false) (
 ag3 (b4, (IntKind.i64.wrap (n5 + 1))))) none) none) (
 kx31_0_0 b4)
noncomputable def l31_0 (d : Nat) (l1 : List Int) (l2 : List Int) (kx31_0_0 : Bool → Option Bool) (ag3 : (Bool × Int) → Option Bool) (s : (Bool × Int)) : Option Bool := l31_0_b d l1 l2 kx31_0_0 ag3 s.1 s.2
theorem e31 (d : Nat) (l1 : List Int) (l2 : List Int) : g31 (d + 1) l1 l2 =
 oif ((((l1.length : Nat) : Int) : Int) != ((l2.length : Nat) : Int)) (
 some false) (
 iterP (l31_0 d l1 l2 (j31_0 d)) fuelN (false, 0)) := by kernel_rfl

noncomputable def j32_0 (d : Nat)  (n3 : Int) : Option Int :=
 some n3
noncomputable def l32_0_b (d : Nat) (l1 : List Int) (kx32_0_0 : Int → Option Int) (ag2 : (Int × Int) → Option Int) (n3 : Int) (n4 : Int) : Option Int :=
 oif (decide ((n4 : Int) < ((l1.length : Nat) : Int))) (
 oif (decide (0 ≤ (n4 : Int))) (
 obind (l1[(n4 : Int).toNat]?) fun n5 =>
 ag2 ((IntKind.i64.wrap (n3 + n5)), (IntKind.i64.wrap (n4 + 1)))) none) (
 kx32_0_0 n3)
noncomputable def l32_0 (d : Nat) (l1 : List Int) (kx32_0_0 : Int → Option Int) (ag2 : (Int × Int) → Option Int) (s : (Int × Int)) : Option Int := l32_0_b d l1 kx32_0_0 ag2 s.1 s.2
theorem e32 (d : Nat) (l1 : List Int) : g32 (d + 1) l1 =
 iterP (l32_0 d l1 (j32_0 d)) fuelN (0, 0) := by kernel_rfl

theorem e34 (d : Nat) (l1 : List Int) : g34 (d + 1) l1 =
 obind (g122 d l1) fun r2 =>
 some r2 := by kernel_rfl

noncomputable def j4_0 (d : Nat) (r3 : ((List Int) × (List Int))) (r5 : ((List Int) × Bool)) (b14 : Bool) : Option Bool :=
 some ((((r5.1.length : Nat) : Int) : Int) == ((r3.2.length : Nat) : Int))
noncomputable def j4_1 (d : Nat) (ag13 : (Bool × Int × Int × Int) → Option Bool) (b14 : Bool) (n17 : Int) (n18 : Int) (r22 : (Int × Bool)) (b23 : Bool) (b24 : Bool) (b25 : Bool) (b26 : Bool) (b27 : Bool) (b28 : Bool) (b29 : Bool) (b30 : Bool) : Option Bool :=
 oif b30 (
 some false) (
 ag13 (b14, r22.1, n18, (IntKind.i64.wrap (n17 + 1))))
noncomputable def l4_0_b (d : Nat) (r3 : ((List Int) × (List Int))) (r5 : ((List Int) × Bool)) (kx4_0_0 : Bool → Option Bool) (ag13 : (Bool × Int × Int × Int) → Option Bool) (b14 : Bool) (n15 : Int) (n16 : Int) (n17 : Int) : Option Bool :=
 oif (decide ((n17 : Int) < ((r5.1.length : Nat) : Int))) (
 oif (decide (0 ≤ (n17 : Int))) (
 oif (Nat.blt ((n17 : Int).toNat) r5.1.length) (
 obind (r5.1[(n17 : Int).toNat]?) fun n18 =>
 oif (decide (0 ≤ (n18 : Int))) (
 oif (Nat.blt ((n18 : Int).toNat) r3.2.length) (
 obind (r3.2[(n18 : Int).toNat]?) fun n19 =>
 obind (g29 d r3.1 n19) fun r20 =>
 oif (decide (0 ≤ (n18 : Int))) (
 oif (Nat.blt ((n18 : Int).toNat) r3.2.length) (
 obind (r3.2[(n18 : Int).toNat]?) fun n21 =>
 obind (g30 d r3.1 n21) fun r22 =>
 oif (!r20.2) (
 j4_1 d ag13 b14 n17 n18 r22 true true true true true true true true) (
 oif (!r22.2) (
 j4_1 d ag13 b14 n17 n18 r22 false (!r22.2) true true true true true true) (
 oif ((r20.1 : Int) != r22.1) (
 j4_1 d ag13 b14 n17 n18 r22 false (!r22.2) false ((r20.1 : Int) != r22.1) true true true true) (
 oif (decide ((r22.1 : Int) < n15)) (
 j4_1 d ag13 b14 n17 n18 r22 false (!r22.2) false ((r20.1 : Int) != r22.1) false (decide ((r22.1 : Int) < n15)) true true) (
 oif ((r22.1 : Int) == n15) (
 j4_1 d ag13 b14 n17 n18 r22 false (!r22.2) false ((r20.1 : Int) != r22.1) false (decide ((r22.1 : Int) < n15)) false (decide ((n18 : Int) < n16))) (
 j4_1 d ag13 b14 n17 n18 r22 false (!r22.2) false ((r20.1 : Int) != r22.1) false (decide ((r22.1 : Int) < n15)) false false)))))) none) none) none) none) none) none) (
 kx4_0_0 b14)
noncomputable def l4_0 (d : Nat) (r3 : ((List Int) × (List Int))) (r5 : ((List Int) × Bool)) (kx4_0_0 : Bool → Option Bool) (ag13 : (Bool × Int × Int × Int) → Option Bool) (s : (Bool × Int × Int × Int)) : Option Bool := l4_0_b d r3 r5 kx4_0_0 ag13 s.1 s.2.1 s.2.2.1 s.2.2.2
noncomputable def j4_2 (d : Nat) (r3 : ((List Int) × (List Int))) (r4 : ((List Int) × Bool)) (r5 : ((List Int) × Bool)) (b12 : Bool) : Option Bool :=
 oif b12 (
 some false) (
 oif (!r4.2) (
 some true) (
 iterP (l4_0 d r3 r5 (j4_0 d r3 r5)) fuelN (false, 0, (-1), 0)))
theorem e4 (d : Nat) (l1 : List Int) (l2 : List Int) : g4 (d + 1) l1 l2 =
 oif (decide (((IntKind.i64.wrap (((l1.length : Nat) : Int) + ((l2.length : Nat) : Int))) : Int) > 1048576)) (
 some true) (
 obind (g22 d l1) fun r3 =>
 obind (g23 d r3.1 r3.2) fun r4 =>
 obind (g24 d r3.1 r3.2) fun r5 =>
 obind (g25 d l2) fun r6 =>
 obind (g26 d r6.1 r6.2) fun r7 =>
 obind (g27 d r6.1 r6.2) fun r8 =>
 obind (g28 d l2) fun r9 =>
 obind (g29 d r9.1 r9.2) fun r10 =>
 obind (g30 d r9.1 r9.2) fun r11 =>
 oif (!(r4.2 == r5.2)) (
 j4_2 d r3 r4 r5 true) (
 obind (g31 d r4.1 r5.1) fun r12 =>
 oif (!r12) (
 j4_2 d r3 r4 r5 true) (
 oif (!(r7.2 == r8.2)) (
 j4_2 d r3 r4 r5 true) (
 obind (g31 d r7.1 r8.1) fun r13 =>
 oif (!r13) (
 j4_2 d r3 r4 r5 true) (
 oif r7.2 (
 obind (g32 d r8.1) fun r14 =>
 oif ((r14 : Int) != ((r6.2.length : Nat) : Int)) (
 j4_2 d r3 r4 r5 true) (
 oif (!(r10.2 == r11.2)) (
 j4_2 d r3 r4 r5 true) (
 oif ((r10.1 : Int) != r11.1) (
 j4_2 d r3 r4 r5 true) (
 obind (g33 d r9.1) fun r15 =>
 obind (g34 d r9.1) fun r16 =>
 j4_2 d r3 r4 r5 (!(r15 == r16)))))) (
 oif (!(r10.2 == r11.2)) (
 j4_2 d r3 r4 r5 true) (
 oif ((r10.1 : Int) != r11.1) (
 j4_2 d r3 r4 r5 true) (
 obind (g33 d r9.1) fun r17 =>
 obind (g34 d r9.1) fun r18 =>
 j4_2 d r3 r4 r5 (!(r17 == r18)))))))))) := by kernel_rfl

end Go.Proofs.Ytngofhppopgicaa
