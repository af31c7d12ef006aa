/-
  The residual forms of the program's functions under the interpreter by value, printed by program (wip/pv/gen2.py); each equation is checked by the kernel.
  Conditions: none.
-/
import Derived.Test.YtbciiigglpmlmaaDoorVDef
import Derived.Test.YtbciiigglpmlmaaDoorProg
import Derived.Test.YtbciiigglpmlmaaDoorPureW
import Derived.KernelRfl
set_option linter.all false
set_option maxRecDepth 1000000
namespace Go.Proofs.YtbciiigglpmlmaaDoor
open Go.Ev Go.Pv

theorem fuel_is : ∃ n : Nat, n = 4194304 := ⟨_, rfl⟩
noncomputable def fuelN : Nat := Classical.choose fuel_is
theorem fuelN_eq : fuelN = 4194304 := Classical.choose_spec fuel_is
def pvSig : FuncId → Sig
  | 3 => ⟨[(.ro, .str), (.ro, .str)], [(false, .bool)]⟩
  | 7 => ⟨[(.ro, .str), (.ro, .str)], [(false, .str), (false, .bool)]⟩
  | 8 => ⟨[(.ro, .str), (.ro, .str)], [(false, .str), (false, .bool)]⟩
  | 56 => ⟨[(.ro, .str)], [(true, (.sl .str)), (false, .bool)]⟩
  | 57 => ⟨[(.ro, .str)], [(true, (.sl .str)), (false, .bool)]⟩
  | 86 => ⟨[(.ro, .str), (.ro, (.int .u8))], [(true, (.sl .str))]⟩
  | 111 => ⟨[(.ro, .str), (.ro, .str)], [(true, (.sl .str))]⟩
  | 122 => ⟨[(.ro, .str), (.ro, .str)], [(false, (.int .i64))]⟩
  | 140 => ⟨[(.ro, .str), (.ro, .str), (.ro, (.int .i64)), (.ro, (.int .i64))], [(true, (.sl .str))]⟩
  | 146 => ⟨[(.ro, .str), (.ro, .str)], [(false, (.int .i64))]⟩
  | _ => ⟨[], []⟩
def pvLoops : FuncId → Nat → LoopA
  | 86, 0 => ⟨[(5, true, (.sl .str)), (6, false, (.int .i64)), (7, false, (.int .i64))], [], [], []⟩
  | 140, 0 => ⟨[(0, false, .str), (10, false, (.int .i64))], [], [(9, .str)], []⟩
  | _, _ => ⟨[], [], [], []⟩
def pvEloops : FuncId → Nat → List (Nat × Value)
  | 86, 0 => [(0, (.string ⟨#[]⟩)), (1, (.int .u8 0)), (4, (.slice none 0 0)), (5, (.slice none 0 0)), (6, (.int .i64 0)), (7, (.int .i64 0))]
  | 140, 0 => [(0, (.string ⟨#[]⟩)), (1, (.string ⟨#[]⟩)), (2, (.int .i64 0)), (3, (.int .i64 0)), (8, (.slice none 0 0)), (9, (.slice none 0 0)), (10, (.int .i64 0))]
  | _, _ => []
def pvInline : FuncId → Bool
  | 131 => true
  | 132 => true
  | _ => false
def pvOwn : FuncId → Bool

  | _ => false
def pvExt : FuncId → Option (List Value → Nat → Go.Ev.Heap → Option (Value × Go.Ev.Heap))
  | 122 => some (strX cntG)
  | 146 => some (strX idxG)
  | _ => none
def pvVext : (f : FuncId) → Option (TupT (pvSig f).ptys → Option (TupT (pvSig f).rtys))
  | 122 => some (fun a => strV cntG a.1 a.2)
  | 146 => some (fun a => strV idxG a.1 a.2)
  | _ => none
noncomputable def pvAnn : AnnV := ⟨fuelN, pvSig, pvLoops, pvEloops, pvInline, pvOwn, pvExt, pvVext⟩

/-- loop.example/g00838/spec.l1Split -/
noncomputable def g86 (d : Nat) (s1 : ByteArray) (n2 : Int) : Option (List ByteArray) := (lev Tryd.prog pvAnn d).call 86 (s1, n2)
/-- loop.example/g00838/spec.csLines -/
noncomputable def g56 (d : Nat) (s1 : ByteArray) : Option ((List ByteArray) × Bool) := (lev Tryd.prog pvAnn d).call 56 (s1)
/-- loop.example/g00838/spec.JoinScripts -/
noncomputable def g7 (d : Nat) (s1 : ByteArray) (s2 : ByteArray) : Option (ByteArray × Bool) := (lev Tryd.prog pvAnn d).call 7 (s1, s2)
/-- strings.Count -/
noncomputable def g122 (d : Nat) (s1 : ByteArray) (s2 : ByteArray) : Option Int := (lev Tryd.prog pvAnn d).call 122 (s1, s2)
/-- strings.Index -/
noncomputable def g146 (d : Nat) (s1 : ByteArray) (s2 : ByteArray) : Option Int := (lev Tryd.prog pvAnn d).call 146 (s1, s2)
/-- strings.genSplit -/
noncomputable def g140 (d : Nat) (s1 : ByteArray) (s2 : ByteArray) (n3 : Int) (n4 : Int) : Option (List ByteArray) := (lev Tryd.prog pvAnn d).call 140 (s1, s2, n3, n4)
/-- strings.Split -/
noncomputable def g111 (d : Nat) (s1 : ByteArray) (s2 : ByteArray) : Option (List ByteArray) := (lev Tryd.prog pvAnn d).call 111 (s1, s2)
/-- loop.example/g00838/impl.linesOf -/
noncomputable def g57 (d : Nat) (s1 : ByteArray) : Option ((List ByteArray) × Bool) := (lev Tryd.prog pvAnn d).call 57 (s1)
/-- loop.example/g00838/impl.JoinScripts -/
noncomputable def g8 (d : Nat) (s1 : ByteArray) (s2 : ByteArray) : Option (ByteArray × Bool) := (lev Tryd.prog pvAnn d).call 8 (s1, s2)
/-- loop.example/g00838/laws.FnExactJoinScripts -/
noncomputable def g3 (d : Nat) (s1 : ByteArray) (s2 : ByteArray) : Option Bool := (lev Tryd.prog pvAnn d).call 3 (s1, s2)

noncomputable def j86_0 (d : Nat) (s1 : ByteArray) (n4 : Int) (l5 : List ByteArray) : Option (List ByteArray) :=
 oif (decide (0 ≤ (n4 : Int))) (
 oif (Nat.ble ((n4 : Int).toNat) ((s1 : ByteArray).size) && Nat.ble ((s1 : ByteArray).size) (s1 : ByteArray).size) (
 oif (Nat.ble ((l5.length + [((s1 : ByteArray).extract ((n4 : Int).toNat) ((s1 : ByteArray).size))].length) * 16) roomMax) (
 some (l5 ++ [((s1 : ByteArray).extract ((n4 : Int).toNat) ((s1 : ByteArray).size))])) none) none) none
noncomputable def l86_0_b (d : Nat) (s1 : ByteArray) (n2 : Int) (kx86_0_0 : Int → (List ByteArray) → Option (List ByteArray)) (ag3 : ((List ByteArray) × Int × Int) → Option (List ByteArray)) (l4 : List ByteArray) (n5 : Int) (n6 : Int) : Option (List ByteArray) :=
 oif (decide ((n6 : Int) < ((s1 : ByteArray).size : Int))) (
 oif (decide (0 ≤ (n6 : Int))) (
 obind ((s1 : ByteArray).data.toList[(n6 : Int).toNat]?) fun c7 =>
 oif (((c7.toNat : Int) : Int) == n2) (
 oif (decide (0 ≤ (n6 : Int))) (
 oif (decide (0 ≤ (n5 : Int))) (
 oif (Nat.ble ((n5 : Int).toNat) ((n6 : Int).toNat) && Nat.ble ((n6 : Int).toNat) (s1 : ByteArray).size) (
 oif (Nat.ble ((l4.length + [((s1 : ByteArray).extract ((n5 : Int).toNat) ((n6 : Int).toNat))].length) * 16) roomMax) (
 ag3 ((l4 ++ [((s1 : ByteArray).extract ((n5 : Int).toNat) ((n6 : Int).toNat))]), (IntKind.i64.wrap (n6 + 1)), (IntKind.i64.wrap (n6 + 1)))) none) none) none) none) (
 ag3 (l4, n5, (IntKind.i64.wrap (n6 + 1))))) none) (
 kx86_0_0 n5 l4)
noncomputable def l86_0 (d : Nat) (s1 : ByteArray) (n2 : Int) (kx86_0_0 : Int → (List ByteArray) → Option (List ByteArray)) (ag3 : ((List ByteArray) × Int × Int) → Option (List ByteArray)) (s : ((List ByteArray) × Int × Int)) : Option (List ByteArray) := l86_0_b d s1 n2 kx86_0_0 ag3 s.1 s.2.1 s.2.2
theorem e86 (d : Nat) (s1 : ByteArray) (n2 : Int) : g86 (d + 1) s1 n2 =
 iterP (l86_0 d s1 n2 (j86_0 d s1)) fuelN ([], 0, 0) := by kernel_rfl

noncomputable def j56_0 (d : Nat) (s1 : ByteArray) (b2 : Bool) : Option ((List ByteArray) × Bool) :=
 oif b2 (
 some ([], false)) (
 obind (g86 d s1 10) fun r3 =>
 oif (decide (0 ≤ ((IntKind.i64.wrap (((r3.length : Nat) : Int) - 1)) : Int))) (
 oif (Nat.ble (((IntKind.i64.wrap (((r3.length : Nat) : Int) - 1)) : Int).toNat) r3.length) (
 some ((r3.take (((IntKind.i64.wrap (((r3.length : Nat) : Int) - 1)) : Int).toNat)), (decide ((((((IntKind.i64.wrap (((r3.length : Nat) : Int) - 1)) : Int).toNat : Nat) : Int) : Int) ≤ 40)))) none) none)
theorem e56 (d : Nat) (s1 : ByteArray) : g56 (d + 1) s1 =
 oif (decide ((((s1 : ByteArray).size : Int) : Int) > 2000)) (
 j56_0 d s1 true) (
 oif (!((s1 : ByteArray).toList == ((⟨#[]⟩ : ByteArray) : ByteArray).toList)) (
 oif (decide (0 ≤ ((IntKind.i64.wrap (((s1 : ByteArray).size : Int) - 1)) : Int))) (
 obind ((s1 : ByteArray).data.toList[((IntKind.i64.wrap (((s1 : ByteArray).size : Int) - 1)) : Int).toNat]?) fun c2 =>
 j56_0 d s1 (((c2.toNat : Int) : Int) != 10)) none) (
 j56_0 d s1 false)) := by kernel_rfl

noncomputable def j7_0 (d : Nat) (s1 : ByteArray) (s2 : ByteArray) (b6 : Bool) : Option (ByteArray × Bool) :=
 oif b6 (
 some ((⟨#[]⟩ : ByteArray), false)) (
 oif (Nat.ble ((s1 : ByteArray).size + (s2 : ByteArray).size) 9223372036854775807) (
 some (((s1 : ByteArray) ++ (s2 : ByteArray)), true)) none)
theorem e7 (d : Nat) (s1 : ByteArray) (s2 : ByteArray) : g7 (d + 1) s1 s2 =
 obind (g56 d s1) fun r3 =>
 obind (g56 d s2) fun r4 =>
 oif (Nat.ble ((s1 : ByteArray).size + (s2 : ByteArray).size) 9223372036854775807) (
 obind (g56 d ((s1 : ByteArray) ++ (s2 : ByteArray))) fun r5 =>
 oif (!r3.2) (
 j7_0 d s1 s2 true) (
 oif (!r4.2) (
 j7_0 d s1 s2 true) (
 j7_0 d s1 s2 (!r5.2)))) none := by kernel_rfl

theorem e122 (d : Nat) (s1 : ByteArray) (s2 : ByteArray) : g122 (d + 1) s1 s2 =
 strV cntG s1 s2 := by kernel_rfl

theorem e146 (d : Nat) (s1 : ByteArray) (s2 : ByteArray) : g146 (d + 1) s1 s2 =
 strV idxG s1 s2 := by kernel_rfl

noncomputable def j140_0 (d : Nat)  (s7 : ByteArray) (n8 : Int) (l9 : List ByteArray) : Option (List ByteArray) :=
 oif (decide (0 ≤ (n8 : Int))) (
 oif (Nat.blt ((n8 : Int).toNat) l9.length) (
 obind (l9[(n8 : Int).toNat]?) fun s10 =>
 oif (decide (0 ≤ ((IntKind.i64.wrap (n8 + 1)) : Int))) (
 oif (Nat.ble (((IntKind.i64.wrap (n8 + 1)) : Int).toNat) ((l9.set ((n8 : Int).toNat) s7).length)) (
 some ((l9.set ((n8 : Int).toNat) s7).take (((IntKind.i64.wrap (n8 + 1)) : Int).toNat))) none) none) none) none
noncomputable def l140_0_b (d : Nat) (s1 : ByteArray) (s2 : ByteArray) (n3 : Int) (n5 : Int) (kx140_0_0 : ByteArray → Int → (List ByteArray) → Option (List ByteArray)) (ag6 : (ByteArray × Int × (List ByteArray)) → Option (List ByteArray)) (s7 : ByteArray) (n8 : Int) (l9 : List ByteArray) : Option (List ByteArray) :=
 oif (decide ((n8 : Int) < (IntKind.i64.wrap ((if (IntKind.i64.wrap (((s1 : ByteArray).size : Int) + 1)) < n5 then (IntKind.i64.wrap (((s1 : ByteArray).size : Int) + 1)) else n5) - 1)))) (
 obind (g146 d s7 s2) fun r10 =>
 oif (decide ((r10 : Int) < 0)) (
 kx140_0_0 s7 n8 l9) (
 oif (decide (0 ≤ ((IntKind.i64.wrap (r10 + n3)) : Int))) (
 oif (Nat.ble 0 (((IntKind.i64.wrap (r10 + n3)) : Int).toNat) && Nat.ble (((IntKind.i64.wrap (r10 + n3)) : Int).toNat) (s7 : ByteArray).size) (
 oif (decide (0 ≤ (n8 : Int))) (
 oif (Nat.blt ((n8 : Int).toNat) l9.length) (
 obind (l9[(n8 : Int).toNat]?) fun s11 =>
 oif (decide (0 ≤ ((IntKind.i64.wrap (r10 + ((s2 : ByteArray).size : Int))) : Int))) (
 oif (Nat.ble (((IntKind.i64.wrap (r10 + ((s2 : ByteArray).size : Int))) : Int).toNat) ((s7 : ByteArray).size) && Nat.ble ((s7 : ByteArray).size) (s7 : ByteArray).size) (
 ag6 (((s7 : ByteArray).extract (((IntKind.i64.wrap (r10 + ((s2 : ByteArray).size : Int))) : Int).toNat) ((s7 : ByteArray).size)), (IntKind.i64.wrap (n8 + 1)), (l9.set ((n8 : Int).toNat) ((s7 : ByteArray).extract 0 (((IntKind.i64.wrap (r10 + n3)) : Int).toNat))))) none) none) none) none) none) none)) (
 kx140_0_0 s7 n8 l9)
noncomputable def l140_0 (d : Nat) (s1 : ByteArray) (s2 : ByteArray) (n3 : Int) (n5 : Int) (kx140_0_0 : ByteArray → Int → (List ByteArray) → Option (List ByteArray)) (ag6 : (ByteArray × Int × (List ByteArray)) → Option (List ByteArray)) (s : (ByteArray × Int × (List ByteArray))) : Option (List ByteArray) := l140_0_b d s1 s2 n3 n5 kx140_0_0 ag6 s.1 s.2.1 s.2.2
noncomputable def j140_1 (d : Nat) (s1 : ByteArray) (s2 : ByteArray) (n3 : Int) (n5 : Int) : Option (List ByteArray) :=
 oif (decide (0 ≤ ((if (IntKind.i64.wrap (((s1 : ByteArray).size : Int) + 1)) < n5 then (IntKind.i64.wrap (((s1 : ByteArray).size : Int) + 1)) else n5) : Int))) (
 oif (decide (0 ≤ ((if (IntKind.i64.wrap (((s1 : ByteArray).size : Int) + 1)) < n5 then (IntKind.i64.wrap (((s1 : ByteArray).size : Int) + 1)) else n5) : Int))) (
 oif (Nat.ble (((if (IntKind.i64.wrap (((s1 : ByteArray).size : Int) + 1)) < n5 then (IntKind.i64.wrap (((s1 : ByteArray).size : Int) + 1)) else n5) : Int).toNat) (((if (IntKind.i64.wrap (((s1 : ByteArray).size : Int) + 1)) < n5 then (IntKind.i64.wrap (((s1 : ByteArray).size : Int) + 1)) else n5) : Int).toNat) && Nat.ble ((((if (IntKind.i64.wrap (((s1 : ByteArray).size : Int) + 1)) < n5 then (IntKind.i64.wrap (((s1 : ByteArray).size : Int) + 1)) else n5) : Int).toNat) * 16) roomMax) (
 iterP (l140_0 d s1 s2 n3 n5 (j140_0 d)) fuelN (s1, 0, (List.replicate (((if (IntKind.i64.wrap (((s1 : ByteArray).size : Int) + 1)) < n5 then (IntKind.i64.wrap (((s1 : ByteArray).size : Int) + 1)) else n5) : Int).toNat) ((⟨#[]⟩ : ByteArray) : ByteArray)))) none) none) none
theorem e140 (d : Nat) (s1 : ByteArray) (s2 : ByteArray) (n3 : Int) (n4 : Int) : g140 (d + 1) s1 s2 n3 n4 =
 oif ((n4 : Int) == 0) (
 some []) (
 oif ((s2 : ByteArray).toList == ((⟨#[]⟩ : ByteArray) : ByteArray).toList) (
 none) (
 oif (decide ((n4 : Int) < 0)) (
 obind (g122 d s1 s2) fun r5 =>
 j140_1 d s1 s2 n3 (IntKind.i64.wrap (r5 + 1))) (
 j140_1 d s1 s2 n3 n4))) := by kernel_rfl

theorem e111 (d : Nat) (s1 : ByteArray) (s2 : ByteArray) : g111 (d + 1) s1 s2 =
 obind (g140 d s1 s2 0 (-1)) fun r3 =>
 some r3 := by kernel_rfl

noncomputable def j57_0 (d : Nat) (r2 : List ByteArray) (b3 : Bool) : Option ((List ByteArray) × Bool) :=
 oif b3 (
 some ([], false)) (
 oif (decide (0 ≤ ((IntKind.i64.wrap (((r2.length : Nat) : Int) - 1)) : Int))) (
 oif (Nat.ble (((IntKind.i64.wrap (((r2.length : Nat) : Int) - 1)) : Int).toNat) r2.length) (
 some ((r2.take (((IntKind.i64.wrap (((r2.length : Nat) : Int) - 1)) : Int).toNat)), true)) none) none)
theorem e57 (d : Nat) (s1 : ByteArray) : g57 (d + 1) s1 =
 obind (g111 d s1 (⟨#[10]⟩ : ByteArray)) fun r2 =>
 oif (decide ((((s1 : ByteArray).size : Int) : Int) > 2000)) (
 j57_0 d r2 true) (
 oif (decide (((IntKind.i64.wrap (((r2.length : Nat) : Int) - 1)) : Int) > 40)) (
 j57_0 d r2 true) (
 oif (decide (0 ≤ ((IntKind.i64.wrap (((r2.length : Nat) : Int) - 1)) : Int))) (
 oif (Nat.blt (((IntKind.i64.wrap (((r2.length : Nat) : Int) - 1)) : Int).toNat) r2.length) (
 obind (r2[((IntKind.i64.wrap (((r2.length : Nat) : Int) - 1)) : Int).toNat]?) fun s3 =>
 j57_0 d r2 (!((s3 : ByteArray).toList == ((⟨#[]⟩ : ByteArray) : ByteArray).toList))) none) none)) := by kernel_rfl

noncomputable def j8_0 (d : Nat) (s1 : ByteArray) (s2 : ByteArray) (b5 : Bool) : Option (ByteArray × Bool) :=
 oif b5 (
 some ((⟨#[]⟩ : ByteArray), false)) (
 oif (Nat.ble ((s1 : ByteArray).size + (s2 : ByteArray).size) 9223372036854775807) (
 obind (g57 d ((s1 : ByteArray) ++ (s2 : ByteArray))) fun r6 =>
 oif (!r6.2) (
 some ((⟨#[]⟩ : ByteArray), false)) (
 oif (Nat.ble ((s1 : ByteArray).size + (s2 : ByteArray).size) 9223372036854775807) (
 some (((s1 : ByteArray) ++ (s2 : ByteArray)), true)) none)) none)
theorem e8 (d : Nat) (s1 : ByteArray) (s2 : ByteArray) : g8 (d + 1) s1 s2 =
 obind (g57 d s1) fun r3 =>
 obind (g57 d s2) fun r4 =>
 oif (!r3.2) (
 j8_0 d s1 s2 true) (
 j8_0 d s1 s2 (!r4.2)) := by kernel_rfl

theorem e3 (d : Nat) (s1 : ByteArray) (s2 : ByteArray) : g3 (d + 1) s1 s2 =
 oif (decide ((((s1 : ByteArray).size : Int) : Int) > 1048576)) (
 some true) (
 oif (decide ((((s2 : ByteArray).size : Int) : Int) > 1048576)) (
 some true) (
 obind (g7 d s1 s2) fun r3 =>
 obind (g8 d s1 s2) fun r4 =>
 oif (!((r4.1 : ByteArray).toList == (r3.1 : ByteArray).toList)) (
 some false) (
 oif (!(r4.2 == r3.2)) (
 some false) (
 some true)))) := by kernel_rfl

end Go.Proofs.YtbciiigglpmlmaaDoor
