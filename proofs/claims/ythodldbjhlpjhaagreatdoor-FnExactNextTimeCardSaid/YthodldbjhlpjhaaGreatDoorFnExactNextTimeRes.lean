/-
  The residual forms of the program's functions under the interpreter by value, printed by program (wip/pv/gen2.py); each equation is checked by the kernel.
  Conditions: none.
-/
import Derived.Test.YthodldbjhlpjhaaGreatDoorFnExactNextTimeResA
import Derived.KernelRfl
set_option linter.all false
set_option maxRecDepth 1000000
namespace Go.Proofs.YthodldbjhlpjhaaGreatDoor
open Go.Ev Go.Pv
open IntKind (i64 u64)
theorem e37 (d:Nat) (l1:List t1) (n2:Int):g37 (d+1) l1 n2 =
 oif (decide (((i64.wrap (n2 - (l1.length:Int))):Int) < 0)) (
 some (-1)) (
 some (i64.wrap (n2 - (l1.length:Int)))):=by kernel_rfl
theorem e38 (d:Nat) (l1:List Int) (n2:Int):g38 (d+1) l1 n2 =
 oif (decide (((i64.wrap (n2 - (l1.length:Int))):Int) < 0)) (
 some (-1)) (
 some (i64.wrap (n2 - (l1.length:Int)))):=by kernel_rfl
theorem e39 (d:Nat) (l1:List t5) (n2:Int):g39 (d+1) l1 n2 =
 oif (decide (((i64.wrap (n2 - (l1.length:Int))):Int) < 0)) (
 some (-1)) (
 some (i64.wrap (n2 - (l1.length:Int)))):=by kernel_rfl
theorem e15 (d:Nat) (x1:t0) (n2:Int):g15 (d+1) x1 n2 =
 oif (decide (((i64.wrap (n2 - (x1.1.size:Int))):Int) < 0)) (
 some (-1)) (
 obind (g37 d x1.2.1 (i64.wrap (n2 - (x1.1.size:Int)))) fun r3 =>
 oif (decide (r3 < 0)) (
 some (-1)) (
 obind (g38 d x1.2.2.1 r3) fun r4 =>
 oif (decide (r4 < 0)) (
 some (-1)) (
 obind (g38 d x1.2.2.2.1 r4) fun r5 =>
 oif (decide (r5 < 0)) (
 some (-1)) (
 obind (g38 d x1.2.2.2.2.1 r5) fun r6 =>
 oif (decide (r6 < 0)) (
 some (-1)) (
 obind (g38 d x1.2.2.2.2.2.1 r6) fun r7 =>
 oif (decide (r7 < 0)) (
 some (-1)) (
 obind (g39 d x1.2.2.2.2.2.2.1 r7) fun r8 =>
 oif (decide (r8 < 0)) (
 some (-1)) (
 obind (g38 d x1.2.2.2.2.2.2.2.1 r8) fun r9 =>
 oif (decide (r9 < 0)) (
 some (-1)) (
 some r9)))))))):=by kernel_rfl
theorem e16 (d:Nat) (x1:t9) (n2:Int):g16 (d+1) x1 n2 =
 obind (g38 d x1.1 n2) fun r3 =>
 oif (decide (r3 < 0)) (
 some (-1)) (
 obind (g38 d x1.2 r3) fun r4 =>
 oif (decide (r4 < 0)) (
 some (-1)) (
 some r4)):=by kernel_rfl
theorem e40 (d:Nat) (l1:List t3) (n2:Int):g40 (d+1) l1 n2 =
 oif (decide (((i64.wrap (n2 - (l1.length:Int))):Int) < 0)) (
 some (-1)) (
 some (i64.wrap (n2 - (l1.length:Int)))):=by kernel_rfl
noncomputable def j17_0 (d:Nat) (n4:Int) (n5:Int):Option Int :=
 some n4
noncomputable def l17_0_b (d:Nat) (l1:List (List t3)) (kx17_0_0:Int→Int→Option Int) (ag3:(Int×Int×Int)→Option Int) (n4:Int) (n5:Int) (n6:Int):Option Int :=
 oif (decide (n6 < (l1.length:Int))) (
 oif (decide (0≤n6)) (
 obind (l1[n6.toNat]?) fun l7 =>
 obind (g40 d l7 n4) fun r8 =>
 oif (decide (r8 < 0)) (
 some (-1)) (
 ag3 (r8,n5,(i64.wrap (n6+1))))) none) (
 kx17_0_0 n4 n5)
noncomputable def l17_0 (d:Nat) (l1:List (List t3)) (kx17_0_0:Int→Int→Option Int) (ag3:(Int×Int×Int)→Option Int) (s:(Int×Int×Int)):Option Int:=l17_0_b d l1 kx17_0_0 ag3 s.1 s.2.1 s.2.2
theorem e17 (d:Nat) (l1:List (List t3)) (n2:Int):g17 (d+1) l1 n2 =
 oif (decide (((i64.wrap (n2 - (l1.length:Int))):Int) < 0)) (
 some (-1)) (
 iterP (l17_0 d l1 (j17_0 d)) fuelN ((i64.wrap (n2 - (l1.length:Int))),0,0)):=by kernel_rfl
theorem e6 (d:Nat) (x1:t4) (n2:Int):g6 (d+1) x1 n2 =
 obind (g15 d x1.1 n2) fun r3 =>
 oif (decide (r3 < 0)) (
 some (-1)) (
 obind (g16 d x1.2.1 r3) fun r4 =>
 oif (decide (r4 < 0)) (
 some (-1)) (
 obind (g17 d x1.2.2.1 r4) fun r5 =>
 oif (decide (r5 < 0)) (
 some (-1)) (
 some r5))):=by kernel_rfl
theorem e75 (d:Nat) (x1:t1):g75 (d+1) x1 =
 some x1:=by kernel_rfl
noncomputable def j46_0 (d:Nat) (l3:List t1):Option (List t1) :=
 some l3
noncomputable def l46_0_b (d:Nat) (l1:List t1) (kx46_0_0:(List t1)→Option (List t1)) (ag2:(Int×(List t1))→Option (List t1)) (n3:Int) (l4:List t1):Option (List t1) :=
 oif (decide (n3 < (l1.length:Int))) (
 oif (decide (0≤n3)) (
 obind (l1[n3.toNat]?) fun x5 =>
 obind (g75 d x5) fun r6 =>
 oif (decide (0≤n3)) (
 oif (Nat.blt (n3.toNat) l4.length) (
 obind (l4[n3.toNat]?) fun x7 =>
 ag2 ((i64.wrap (n3+1)),(l4.set (n3.toNat) r6))) none) none) none) (
 kx46_0_0 l4)
noncomputable def l46_0 (d:Nat) (l1:List t1) (kx46_0_0:(List t1)→Option (List t1)) (ag2:(Int×(List t1))→Option (List t1)) (s:(Int×(List t1))):Option (List t1):=l46_0_b d l1 kx46_0_0 ag2 s.1 s.2
theorem e46 (d:Nat) (l1:List t1):g46 (d+1) l1 =
 oif (decide (0≤(l1.length:Int))) (
 oif (decide (0≤(l1.length:Int))) (
 oif (Nat.ble ((l1.length:Int).toNat) ((l1.length:Int).toNat)&&Nat.ble (((l1.length:Int).toNat)*64) roomMax) (
 iterP (l46_0 d l1 (j46_0 d)) fuelN (0,(List.replicate ((l1.length:Int).toNat) ((0,0,0,0,0,0,0,0):t1)))) none) none) none:=by kernel_rfl
noncomputable def j47_0 (d:Nat) (l3:List Int):Option (List Int) :=
 some l3
noncomputable def l47_0_b (d:Nat) (l1:List Int) (kx47_0_0:(List Int)→Option (List Int)) (ag2:(Int×(List Int))→Option (List Int)) (n3:Int) (l4:List Int):Option (List Int) :=
 oif (decide (n3 < (l1.length:Int))) (
 oif (decide (0≤n3)) (
 obind (l1[n3.toNat]?) fun n5 =>
 oif (decide (0≤n3)) (
 oif (Nat.blt (n3.toNat) l4.length) (
 obind (l4[n3.toNat]?) fun n6 =>
 ag2 ((i64.wrap (n3+1)),(l4.set (n3.toNat) n5))) none) none) none) (
 kx47_0_0 l4)
noncomputable def l47_0 (d:Nat) (l1:List Int) (kx47_0_0:(List Int)→Option (List Int)) (ag2:(Int×(List Int))→Option (List Int)) (s:(Int×(List Int))):Option (List Int):=l47_0_b d l1 kx47_0_0 ag2 s.1 s.2
theorem e47 (d:Nat) (l1:List Int):g47 (d+1) l1 =
 oif (decide (0≤(l1.length:Int))) (
 oif (decide (0≤(l1.length:Int))) (
 oif (Nat.ble ((l1.length:Int).toNat) ((l1.length:Int).toNat)&&Nat.ble (((l1.length:Int).toNat)*8) roomMax) (
 iterP (l47_0 d l1 (j47_0 d)) fuelN (0,(List.replicate ((l1.length:Int).toNat) (0:Int)))) none) none) none:=by kernel_rfl
theorem e76 (d:Nat) (x1:t5):g76 (d+1) x1 =
 some x1:=by kernel_rfl
noncomputable def j48_0 (d:Nat) (l3:List t5):Option (List t5) :=
 some l3
noncomputable def l48_0_b (d:Nat) (l1:List t5) (kx48_0_0:(List t5)→Option (List t5)) (ag2:(Int×(List t5))→Option (List t5)) (n3:Int) (l4:List t5):Option (List t5) :=
 oif (decide (n3 < (l1.length:Int))) (
 oif (decide (0≤n3)) (
 obind (l1[n3.toNat]?) fun x5 =>
 obind (g76 d x5) fun r6 =>
 oif (decide (0≤n3)) (
 oif (Nat.blt (n3.toNat) l4.length) (
 obind (l4[n3.toNat]?) fun x7 =>
 ag2 ((i64.wrap (n3+1)),(l4.set (n3.toNat) r6))) none) none) none) (
 kx48_0_0 l4)
noncomputable def l48_0 (d:Nat) (l1:List t5) (kx48_0_0:(List t5)→Option (List t5)) (ag2:(Int×(List t5))→Option (List t5)) (s:(Int×(List t5))):Option (List t5):=l48_0_b d l1 kx48_0_0 ag2 s.1 s.2
theorem e48 (d:Nat) (l1:List t5):g48 (d+1) l1 =
 oif (decide (0≤(l1.length:Int))) (
 oif (decide (0≤(l1.length:Int))) (
 oif (Nat.ble ((l1.length:Int).toNat) ((l1.length:Int).toNat)&&Nat.ble (((l1.length:Int).toNat)*40) roomMax) (
 iterP (l48_0 d l1 (j48_0 d)) fuelN (0,(List.replicate ((l1.length:Int).toNat) ((0,0,0,0,0):t5)))) none) none) none:=by kernel_rfl
theorem e19 (d:Nat) (x1:t0):g19 (d+1) x1 =
 obind (g46 d x1.2.1) fun r2 =>
 obind (g47 d x1.2.2.1) fun r3 =>
 obind (g47 d x1.2.2.2.1) fun r4 =>
 obind (g47 d x1.2.2.2.2.1) fun r5 =>
 obind (g47 d x1.2.2.2.2.2.1) fun r6 =>
 obind (g48 d x1.2.2.2.2.2.2.1) fun r7 =>
 obind (g47 d x1.2.2.2.2.2.2.2.1) fun r8 =>
 some (x1.1,r2,r3,r4,r5,r6,r7,r8,x1.2.2.2.2.2.2.2.2):=by kernel_rfl
theorem e20 (d:Nat) (x1:t9):g20 (d+1) x1 =
 obind (g47 d x1.1) fun r2 =>
 obind (g47 d x1.2) fun r3 =>
 some (r2,r3):=by kernel_rfl
theorem e77 (d:Nat) (x1:t3):g77 (d+1) x1 =
 some x1:=by kernel_rfl
noncomputable def j49_0 (d:Nat) (l3:List t3):Option (List t3) :=
 some l3
noncomputable def l49_0_b (d:Nat) (l1:List t3) (kx49_0_0:(List t3)→Option (List t3)) (ag2:(Int×(List t3))→Option (List t3)) (n3:Int) (l4:List t3):Option (List t3) :=
 oif (decide (n3 < (l1.length:Int))) (
 oif (decide (0≤n3)) (
 obind (l1[n3.toNat]?) fun x5 =>
 obind (g77 d x5) fun r6 =>
 oif (decide (0≤n3)) (
 oif (Nat.blt (n3.toNat) l4.length) (
 obind (l4[n3.toNat]?) fun x7 =>
 ag2 ((i64.wrap (n3+1)),(l4.set (n3.toNat) r6))) none) none) none) (
 kx49_0_0 l4)
noncomputable def l49_0 (d:Nat) (l1:List t3) (kx49_0_0:(List t3)→Option (List t3)) (ag2:(Int×(List t3))→Option (List t3)) (s:(Int×(List t3))):Option (List t3):=l49_0_b d l1 kx49_0_0 ag2 s.1 s.2
theorem e49 (d:Nat) (l1:List t3):g49 (d+1) l1 =
 oif (decide (0≤(l1.length:Int))) (
 oif (decide (0≤(l1.length:Int))) (
 oif (Nat.ble ((l1.length:Int).toNat) ((l1.length:Int).toNat)&&Nat.ble (((l1.length:Int).toNat)*48) roomMax) (
 iterP (l49_0 d l1 (j49_0 d)) fuelN (0,(List.replicate ((l1.length:Int).toNat) ((0,0,0,0,0,0):t3)))) none) none) none:=by kernel_rfl
noncomputable def j21_0 (d:Nat) (l3:List (List t3)):Option (List (List t3)) :=
 some l3
noncomputable def l21_0_b (d:Nat) (l1:List (List t3)) (kx21_0_0:(List (List t3))→Option (List (List t3))) (ag2:(Int×(List (List t3)))→Option (List (List t3))) (n3:Int) (l4:List (List t3)):Option (List (List t3)) :=
 oif (decide (n3 < (l1.length:Int))) (
 oif (decide (0≤n3)) (
 obind (l1[n3.toNat]?) fun l5 =>
 obind (g49 d l5) fun r6 =>
 oif (decide (0≤n3)) (
 oif (Nat.blt (n3.toNat) l4.length) (
 obind (l4[n3.toNat]?) fun l7 =>
 ag2 ((i64.wrap (n3+1)),(l4.set (n3.toNat) r6))) none) none) none) (
 kx21_0_0 l4)
noncomputable def l21_0 (d:Nat) (l1:List (List t3)) (kx21_0_0:(List (List t3))→Option (List (List t3))) (ag2:(Int×(List (List t3)))→Option (List (List t3))) (s:(Int×(List (List t3)))):Option (List (List t3)):=l21_0_b d l1 kx21_0_0 ag2 s.1 s.2
theorem e21 (d:Nat) (l1:List (List t3)):g21 (d+1) l1 =
 oif (decide (0≤(l1.length:Int))) (
 oif (decide (0≤(l1.length:Int))) (
 oif (Nat.ble ((l1.length:Int).toNat) ((l1.length:Int).toNat)&&Nat.ble (((l1.length:Int).toNat)*24) roomMax) (
 iterP (l21_0 d l1 (j21_0 d)) fuelN (0,(List.replicate ((l1.length:Int).toNat) ([]:List t3)))) none) none) none:=by kernel_rfl
theorem e8 (d:Nat) (x1:t4):g8 (d+1) x1 =
 obind (g19 d x1.1) fun r2 =>
 obind (g20 d x1.2.1) fun r3 =>
 obind (g21 d x1.2.2.1) fun r4 =>
 some (r2,r3,r4,x1.2.2.2):=by kernel_rfl
theorem e89 (d:Nat) (x1:t1) (x2:t1):g89 (d+1) x1 x2 =
 oif (x1.1 != x2.1) (
 some false) (
 oif (x1.2.1 != x2.2.1) (
 some false) (
 oif (x1.2.2.1 != x2.2.2.1) (
 some false) (
 oif (x1.2.2.2.1 != x2.2.2.2.1) (
 some false) (
 oif (x1.2.2.2.2.1 != x2.2.2.2.2.1) (
 some false) (
 oif (x1.2.2.2.2.2.1 != x2.2.2.2.2.2.1) (
 some false) (
 oif (x1.2.2.2.2.2.2.1 != x2.2.2.2.2.2.2.1) (
 some false) (
 oif (x1.2.2.2.2.2.2.2 != x2.2.2.2.2.2.2.2) (
 some false) (
 some true)))))))):=by kernel_rfl
noncomputable def j59_0 (d:Nat) (b4:Bool):Option Bool :=
 some true
noncomputable def l59_0_b (d:Nat) (l1:List t1) (l2:List t1) (kx59_0_0:Bool→Option Bool) (ag3:t7→Option Bool) (b4:Bool) (n5:Int):Option Bool :=
 oif (decide (n5 < (l1.length:Int))) (
 oif (decide (0≤n5)) (
 obind (l1[n5.toNat]?) fun x6 =>
 oif (decide (0≤n5)) (
 obind (l2[n5.toNat]?) fun x7 =>
 obind (g89 d x6 x7) fun r8 =>
 oif (!r8) (
 some false) (
 ag3 (b4,(i64.wrap (n5+1))))) none) none) (
 kx59_0_0 b4)
noncomputable def l59_0 (d:Nat) (l1:List t1) (l2:List t1) (kx59_0_0:Bool→Option Bool) (ag3:t7→Option Bool) (s:t7):Option Bool:=l59_0_b d l1 l2 kx59_0_0 ag3 s.1 s.2
theorem e59 (d:Nat) (l1:List t1) (l2:List t1):g59 (d+1) l1 l2 =
 oif ((l1.length:Int) != (l2.length:Int)) (
 some false) (
 iterP (l59_0 d l1 l2 (j59_0 d)) fuelN (false,0)):=by kernel_rfl
noncomputable def j60_0 (d:Nat) (b4:Bool):Option Bool :=
 some true
noncomputable def l60_0_b (d:Nat) (l1:List Int) (l2:List Int) (kx60_0_0:Bool→Option Bool) (ag3:t7→Option Bool) (b4:Bool) (n5:Int):Option Bool :=
 oif (decide (n5 < (l1.length:Int))) (
 oif (decide (0≤n5)) (
 obind (l1[n5.toNat]?) fun n6 =>
 oif (decide (0≤n5)) (
 obind (l2[n5.toNat]?) fun n7 =>
 oif (n6 != n7) (
 some false) (
 ag3 (b4,(i64.wrap (n5+1))))) none) none) (
 kx60_0_0 b4)
noncomputable def l60_0 (d:Nat) (l1:List Int) (l2:List Int) (kx60_0_0:Bool→Option Bool) (ag3:t7→Option Bool) (s:t7):Option Bool:=l60_0_b d l1 l2 kx60_0_0 ag3 s.1 s.2
theorem e60 (d:Nat) (l1:List Int) (l2:List Int):g60 (d+1) l1 l2 =
 oif ((l1.length:Int) != (l2.length:Int)) (
 some false) (
 iterP (l60_0 d l1 l2 (j60_0 d)) fuelN (false,0)):=by kernel_rfl
theorem e90 (d:Nat) (x1:t5) (x2:t5):g90 (d+1) x1 x2 =
 oif (x1.1 != x2.1) (
 some false) (
 oif (x1.2.1 != x2.2.1) (
 some false) (
 oif (x1.2.2.1 != x2.2.2.1) (
 some false) (
 oif (x1.2.2.2.1 != x2.2.2.2.1) (
 some false) (
 oif (x1.2.2.2.2 != x2.2.2.2.2) (
 some false) (
 some true))))):=by kernel_rfl
noncomputable def j61_0 (d:Nat) (b4:Bool):Option Bool :=
 some true
noncomputable def l61_0_b (d:Nat) (l1:List t5) (l2:List t5) (kx61_0_0:Bool→Option Bool) (ag3:t7→Option Bool) (b4:Bool) (n5:Int):Option Bool :=
 oif (decide (n5 < (l1.length:Int))) (
 oif (decide (0≤n5)) (
 obind (l1[n5.toNat]?) fun x6 =>
 oif (decide (0≤n5)) (
 obind (l2[n5.toNat]?) fun x7 =>
 obind (g90 d x6 x7) fun r8 =>
 oif (!r8) (
 some false) (
 ag3 (b4,(i64.wrap (n5+1))))) none) none) (
 kx61_0_0 b4)
noncomputable def l61_0 (d:Nat) (l1:List t5) (l2:List t5) (kx61_0_0:Bool→Option Bool) (ag3:t7→Option Bool) (s:t7):Option Bool:=l61_0_b d l1 l2 kx61_0_0 ag3 s.1 s.2
theorem e61 (d:Nat) (l1:List t5) (l2:List t5):g61 (d+1) l1 l2 =
 oif ((l1.length:Int) != (l2.length:Int)) (
 some false) (
 iterP (l61_0 d l1 l2 (j61_0 d)) fuelN (false,0)):=by kernel_rfl
theorem e29 (d:Nat) (x1:t0) (x2:t0):g29 (d+1) x1 x2 =
 oif (!(x1.1.toList==x2.1.toList)) (
 some false) (
 obind (g59 d x1.2.1 x2.2.1) fun r3 =>
 oif (!r3) (
 some false) (
 obind (g60 d x1.2.2.1 x2.2.2.1) fun r4 =>
 oif (!r4) (
 some false) (
 obind (g60 d x1.2.2.2.1 x2.2.2.2.1) fun r5 =>
 oif (!r5) (
 some false) (
 obind (g60 d x1.2.2.2.2.1 x2.2.2.2.2.1) fun r6 =>
 oif (!r6) (
 some false) (
 obind (g60 d x1.2.2.2.2.2.1 x2.2.2.2.2.2.1) fun r7 =>
 oif (!r7) (
 some false) (
 obind (g61 d x1.2.2.2.2.2.2.1 x2.2.2.2.2.2.2.1) fun r8 =>
 oif (!r8) (
 some false) (
 obind (g60 d x1.2.2.2.2.2.2.2.1 x2.2.2.2.2.2.2.2.1) fun r9 =>
 oif (!r9) (
 some false) (
 oif (x1.2.2.2.2.2.2.2.2 != x2.2.2.2.2.2.2.2.2) (
 some false) (
 some true))))))))):=by kernel_rfl
theorem e30 (d:Nat) (x1:t9) (x2:t9):g30 (d+1) x1 x2 =
 obind (g60 d x1.1 x2.1) fun r3 =>
 oif (!r3) (
 some false) (
 obind (g60 d x1.2 x2.2) fun r4 =>
 oif (!r4) (
 some false) (
 some true)):=by kernel_rfl
theorem e91 (d:Nat) (x1:t3) (x2:t3):g91 (d+1) x1 x2 =
 oif (x1.1 != x2.1) (
 some false) (
 oif (x1.2.1 != x2.2.1) (
 some false) (
 oif (x1.2.2.1 != x2.2.2.1) (
 some false) (
 oif (x1.2.2.2.1 != x2.2.2.2.1) (
 some false) (
 oif (x1.2.2.2.2.1 != x2.2.2.2.2.1) (
 some false) (
 oif (x1.2.2.2.2.2 != x2.2.2.2.2.2) (
 some false) (
 some true)))))):=by kernel_rfl
noncomputable def j62_0 (d:Nat) (b4:Bool):Option Bool :=
 some true
noncomputable def l62_0_b (d:Nat) (l1:List t3) (l2:List t3) (kx62_0_0:Bool→Option Bool) (ag3:t7→Option Bool) (b4:Bool) (n5:Int):Option Bool :=
 oif (decide (n5 < (l1.length:Int))) (
 oif (decide (0≤n5)) (
 obind (l1[n5.toNat]?) fun x6 =>
 oif (decide (0≤n5)) (
 obind (l2[n5.toNat]?) fun x7 =>
 obind (g91 d x6 x7) fun r8 =>
 oif (!r8) (
 some false) (
 ag3 (b4,(i64.wrap (n5+1))))) none) none) (
 kx62_0_0 b4)
noncomputable def l62_0 (d:Nat) (l1:List t3) (l2:List t3) (kx62_0_0:Bool→Option Bool) (ag3:t7→Option Bool) (s:t7):Option Bool:=l62_0_b d l1 l2 kx62_0_0 ag3 s.1 s.2
theorem e62 (d:Nat) (l1:List t3) (l2:List t3):g62 (d+1) l1 l2 =
 oif ((l1.length:Int) != (l2.length:Int)) (
 some false) (
 iterP (l62_0 d l1 l2 (j62_0 d)) fuelN (false,0)):=by kernel_rfl
noncomputable def j31_0 (d:Nat) (b4:Bool):Option Bool :=
 some true
noncomputable def l31_0_b (d:Nat) (l1:List (List t3)) (l2:List (List t3)) (kx31_0_0:Bool→Option Bool) (ag3:t7→Option Bool) (b4:Bool) (n5:Int):Option Bool :=
 oif (decide (n5 < (l1.length:Int))) (
 oif (decide (0≤n5)) (
 obind (l1[n5.toNat]?) fun l6 =>
 oif (decide (0≤n5)) (
 obind (l2[n5.toNat]?) fun l7 =>
 obind (g62 d l6 l7) fun r8 =>
 oif (!r8) (
 some false) (
 ag3 (b4,(i64.wrap (n5+1))))) none) none) (
 kx31_0_0 b4)
noncomputable def l31_0 (d:Nat) (l1:List (List t3)) (l2:List (List t3)) (kx31_0_0:Bool→Option Bool) (ag3:t7→Option Bool) (s:t7):Option Bool:=l31_0_b d l1 l2 kx31_0_0 ag3 s.1 s.2
theorem e31 (d:Nat) (l1:List (List t3)) (l2:List (List t3)):g31 (d+1) l1 l2 =
 oif ((l1.length:Int) != (l2.length:Int)) (
 some false) (
 iterP (l31_0 d l1 l2 (j31_0 d)) fuelN (false,0)):=by kernel_rfl
theorem e10 (d:Nat) (x1:t4) (x2:t4):g10 (d+1) x1 x2 =
 obind (g29 d x1.1 x2.1) fun r3 =>
 oif (!r3) (
 some false) (
 obind (g30 d x1.2.1 x2.2.1) fun r4 =>
 oif (!r4) (
 some false) (
 obind (g31 d x1.2.2.1 x2.2.2.1) fun r5 =>
 oif (!r5) (
 some false) (
 oif (x1.2.2.2.1 != x2.2.2.2.1) (
 some false) (
 oif (x1.2.2.2.2 != x2.2.2.2.2) (
 some false) (
 some true))))):=by kernel_rfl
theorem e69 (d:Nat) (x1:t0) (n2:Int):g69 (d+1) x1 n2 =
 oif (decide (0≤n2)) (
 obind (x1.2.2.2.1[n2.toNat]?) fun n3 =>
 some (decide (n3 < 0))) none:=by kernel_rfl
noncomputable def j35_0 (d:Nat) (l3:List Int):Option (List Int) :=
 some l3
noncomputable def l35_0_b (d:Nat) (x1:t0) (kx35_0_0:(List Int)→Option (List Int)) (ag2:((List Int)×Int)→Option (List Int)) (l3:List Int) (n4:Int):Option (List Int) :=
 oif (decide (n4 < (x1.2.1.length:Int))) (
 obind (g69 d x1 n4) fun r5 =>
 oif r5 (
 oif (Nat.ble ((l3.length+[n4].length)*8) roomMax) (
 ag2 ((l3++[n4]),(i64.wrap (n4+1)))) none) (
 ag2 (l3,(i64.wrap (n4+1))))) (
 kx35_0_0 l3)
noncomputable def l35_0 (d:Nat) (x1:t0) (kx35_0_0:(List Int)→Option (List Int)) (ag2:((List Int)×Int)→Option (List Int)) (s:((List Int)×Int)):Option (List Int):=l35_0_b d x1 kx35_0_0 ag2 s.1 s.2
theorem e35 (d:Nat) (x1:t0):g35 (d+1) x1 =
 iterP (l35_0 d x1 (j35_0 d)) fuelN ([],0):=by kernel_rfl
theorem e42 (d:Nat) (n1:Int) (n2:Int) (n3:Int):g42 (d+1) n1 n2 n3 =
 oif (decide (n1≥n2)) (
 some (decide (n1≤n3))) (
 some false):=by kernel_rfl
noncomputable def j123_0 (d:Nat) (l1:List t1) (x2:t1) (n4:Int):Option (List t1) :=
 oif (decide (0≤n4)) (
 oif (Nat.ble (n4.toNat) l1.length) (
 oif (Nat.ble ((([]:List t1).length+(l1.take (n4.toNat)).length)*64) roomMax) (
 oif (Nat.ble (((([]:List t1)++(l1.take (n4.toNat))).length+[x2].length)*64) roomMax) (
 oif (decide (0≤n4)) (
 oif (Nat.ble (n4.toNat) l1.length) (
 oif (Nat.ble ((((([]:List t1)++(l1.take (n4.toNat)))++[x2]).length+(l1.drop (n4.toNat)).length)*64) roomMax) (
 some (((([]:List t1)++(l1.take (n4.toNat)))++[x2])++(l1.drop (n4.toNat)))) none) none) none) none) none) none) none
noncomputable def l123_0_b (d:Nat) (l1:List t1) (x2:t1) (kx123_0_0:Int→Option (List t1)) (ag3:Int→Option (List t1)) (n4:Int):Option (List t1) :=
 oif (decide (n4 < (l1.length:Int))) (
 oif (decide (0≤n4)) (
 obind (l1[n4.toNat]?) fun x5 =>
 oif (decide (x5.1 < x2.1)) (
 ag3 (i64.wrap (n4+1))) (
 kx123_0_0 n4)) none) (
 kx123_0_0 n4)
noncomputable def l123_0 (d:Nat) (l1:List t1) (x2:t1) (kx123_0_0:Int→Option (List t1)) (ag3:Int→Option (List t1)) (s:Int):Option (List t1):=l123_0_b d l1 x2 kx123_0_0 ag3 s
theorem Qq3 (d:Nat) (l1:List t1) (x2:t1):g123 (d+1) l1 x2 =
 iterP (l123_0 d l1 x2 (j123_0 d l1 x2)) fuelN 0:=by kernel_rfl
noncomputable def j96_0 (d:Nat) (x1:t0) (s3:ByteArray) (n4:Int) (l5:List t1) (l6:List t5):Option t2 :=
 obind (g42 d x1.2.2.2.2.2.2.2.2 0 (i64.wrap ((x1.2.1.length:Int) - 1))) fun r7 =>
 oif r7 (
 oif (decide (0≤x1.2.2.2.2.2.2.2.2)) (
 obind (x1.2.1[x1.2.2.2.2.2.2.2.2.toNat]?) fun x8 =>
 some (s3,l5,l6,x8.1)) none) (
 some (s3,l5,l6,n4))
noncomputable def l96_0_b (d:Nat) (x1:t0) (kx96_0_0:ByteArray→Int→(List t1)→(List t5)→Option t2) (ag2:(Int×t2)→Option t2) (n3:Int) (x4:t2):Option t2 :=
 oif (decide (n3 < (x1.2.1.length:Int))) (
 oif (decide (0≤n3)) (
 obind (x1.2.1[n3.toNat]?) fun x5 =>
 obind (g123 d x4.2.1 x5) fun r6 =>
 ag2 ((i64.wrap (n3+1)),(x4.1,r6,x4.2.2))) none) (
 kx96_0_0 x4.1 x4.2.2.2 x4.2.1 x4.2.2.1)
noncomputable def l96_0 (d:Nat) (x1:t0) (kx96_0_0:ByteArray→Int→(List t1)→(List t5)→Option t2) (ag2:(Int×t2)→Option t2) (s:(Int×t2)):Option t2:=l96_0_b d x1 kx96_0_0 ag2 s.1 s.2
theorem e96 (d:Nat) (x1:t0):g96 (d+1) x1 =
 oif (Nat.ble ((([]:List t5).length+x1.2.2.2.2.2.2.1.length)*40) roomMax) (
 iterP (l96_0 d x1 (j96_0 d x1)) fuelN (0,(x1.1,[],(([]:List t5)++x1.2.2.2.2.2.2.1),0))) none:=by kernel_rfl
noncomputable def j174_0 (d:Nat) (b4:Bool):Option Bool :=
 some false
noncomputable def l174_0_b (d:Nat) (l1:List ByteArray) (s2:ByteArray) (kx174_0_0:Bool→Option Bool) (ag3:t7→Option Bool) (b4:Bool) (n5:Int):Option Bool :=
 oif (decide (n5 < (l1.length:Int))) (
 oif (decide (0≤n5)) (
 obind (l1[n5.toNat]?) fun s6 =>
 oif (s6.toList==s2.toList) (
 some true) (
 ag3 (b4,(i64.wrap (n5+1))))) none) (
 kx174_0_0 b4)
noncomputable def l174_0 (d:Nat) (l1:List ByteArray) (s2:ByteArray) (kx174_0_0:Bool→Option Bool) (ag3:t7→Option Bool) (s:t7):Option Bool:=l174_0_b d l1 s2 kx174_0_0 ag3 s.1 s.2
theorem Qq4 (d:Nat) (l1:List ByteArray) (s2:ByteArray):g174 (d+1) l1 s2 =
 iterP (l174_0 d l1 s2 (j174_0 d)) fuelN (false,0):=by kernel_rfl
theorem Qq5 (d:Nat):g175 (d+1) =
 some [(⟨#[113,100,105,115,99]⟩:ByteArray),(⟨#[100,101,102,97,117,108,116]⟩:ByteArray),(⟨#[99,108,97,115,115]⟩:ByteArray),(⟨#[114,97,116,101]⟩:ByteArray),(⟨#[99,101,105,108]⟩:ByteArray),(⟨#[98,117,114,115,116]⟩:ByteArray),(⟨#[99,98,117,114,115,116]⟩:ByteArray),(⟨#[112,114,105,111]⟩:ByteArray),(⟨#[108,105,109,105,116]⟩:ByteArray),(⟨#[102,105,108,116,101,114]⟩:ByteArray),(⟨#[115,111,117,114,99,101]⟩:ByteArray),(⟨#[100,101,115,116]⟩:ByteArray),(⟨#[112,111,114,116]⟩:ByteArray),(⟨#[109,97,114,107]⟩:ByteArray)]:=by kernel_rfl
theorem Qq6 (d:Nat) (s1:ByteArray):g157 (d+1) s1 =
 obind (g175 d) fun r2 =>
 obind (g174 d r2 s1) fun r3 =>
 some r3:=by kernel_rfl
noncomputable def j124_0 (d:Nat) (s1:ByteArray) (b3:Bool):Option Bool :=
 obind (g42 d (s1.size:Int) 1 8) fun r4 =>
 oif r4 (
 obind (g157 d s1) fun r5 =>
 some (!r5)) (
 some false)
noncomputable def l124_0_b (d:Nat) (s1:ByteArray) (kx124_0_0:Bool→Option Bool) (ag2:t7→Option Bool) (b3:Bool) (n4:Int):Option Bool :=
 oif (decide (n4 < (s1.size:Int))) (
 oif (decide (0≤n4)) (
 obind (s1.data.toList[n4.toNat]?) fun c5 =>
 oif (decide ((c5.toNat:Int) < 97)) (
 some false) (
 oif (decide (0≤n4)) (
 obind (s1.data.toList[n4.toNat]?) fun c6 =>
 oif (decide ((c6.toNat:Int) > 122)) (
 some false) (
 ag2 (b3,(i64.wrap (n4+1))))) none)) none) (
 kx124_0_0 b3)
noncomputable def l124_0 (d:Nat) (s1:ByteArray) (kx124_0_0:Bool→Option Bool) (ag2:t7→Option Bool) (s:t7):Option Bool:=l124_0_b d s1 kx124_0_0 ag2 s.1 s.2
theorem Qq7 (d:Nat) (s1:ByteArray):g124 (d+1) s1 =
 iterP (l124_0 d s1 (j124_0 d s1)) fuelN (false,0):=by kernel_rfl
theorem Qq8 (d:Nat) (x1:t1):g158 (d+1) x1 =
 obind (g42 d x1.1 1 999) fun r2 =>
 oif r2 (
 obind (g42 d x1.2.2.1 1 100000) fun r3 =>
 oif r3 (
 obind (g42 d x1.2.2.2.1 x1.2.2.1 100000) fun r4 =>
 oif r4 (
 obind (g42 d x1.2.2.2.2.1 1500 1000000) fun r5 =>
 oif r5 (
 obind (g42 d x1.2.2.2.2.2.1 1500 1000000) fun r6 =>
 oif r6 (
 obind (g42 d x1.2.2.2.2.2.2.1 0 7) fun r7 =>
 some r7) (
 some false)) (
 some false)) (
 some false)) (
 some false)) (
 some false):=by kernel_rfl
noncomputable def j131_0 (d:Nat) (n4:Int):Option Int :=
 some (-1)
noncomputable def l131_0_b (d:Nat) (x1:t2) (n2:Int) (kx131_0_0:Int→Option Int) (ag3:t8→Option Int) (n4:Int) (n5:Int):Option Int :=
 oif (decide (n5 < (x1.2.1.length:Int))) (
 oif (decide (0≤n5)) (
 obind (x1.2.1[n5.toNat]?) fun x6 =>
 oif (x6.1==n2) (
 some n5) (
 ag3 (n4,(i64.wrap (n5+1))))) none) (
 kx131_0_0 n4)
noncomputable def l131_0 (d:Nat) (x1:t2) (n2:Int) (kx131_0_0:Int→Option Int) (ag3:t8→Option Int) (s:t8):Option Int:=l131_0_b d x1 n2 kx131_0_0 ag3 s.1 s.2
theorem Qq9 (d:Nat) (x1:t2) (n2:Int):g131 (d+1) x1 n2 =
 iterP (l131_0 d x1 n2 (j131_0 d)) fuelN (0,0):=by kernel_rfl
noncomputable def j159_0 (d:Nat) (l4:List Int):Option (List Int) :=
 some l4
noncomputable def j159_1 (d:Nat) (kx159_0_0:(List Int)→Option (List Int)) (x1:t2) (ag3:(Int×(List Int))→Option (List Int)) (n4:Int) (l5:List Int) (b6:Bool) (b7:Bool):Option (List Int) :=
 oif b7 (
 oif (Nat.ble ((l5.length+[n4].length)*8) roomMax) (
 oif (decide (0≤n4)) (
 obind (x1.2.1[n4.toNat]?) fun x8 =>
 obind (g131 d x1 x8.2.1) fun r9 =>
 ag3 (r9,(l5++[n4]))) none) none) (
 kx159_0_0 l5)
noncomputable def l159_0_b (d:Nat) (x1:t2) (kx159_0_0:(List Int)→Option (List Int)) (ag3:(Int×(List Int))→Option (List Int)) (n4:Int) (l5:List Int):Option (List Int) :=
 oif (decide (n4≥0)) (
 j159_1 d kx159_0_0 x1 ag3 n4 l5 true (decide ((l5.length:Int)≤8))) (
 j159_1 d kx159_0_0 x1 ag3 n4 l5 false false)
noncomputable def l159_0 (d:Nat) (x1:t2) (kx159_0_0:(List Int)→Option (List Int)) (ag3:(Int×(List Int))→Option (List Int)) (s:(Int×(List Int))):Option (List Int):=l159_0_b d x1 kx159_0_0 ag3 s.1 s.2
theorem Qqa (d:Nat) (x1:t2) (n2:Int):g159 (d+1) x1 n2 =
 iterP (l159_0 d x1 (j159_0 d)) fuelN (n2,[]):=by kernel_rfl
noncomputable def j132_0 (d:Nat) (l4:List Int):Option (List Int) :=
 some l4
noncomputable def l132_0_b (d:Nat) (x1:t2) (n2:Int) (kx132_0_0:(List Int)→Option (List Int)) (ag3:((List Int)×Int)→Option (List Int)) (l4:List Int) (n5:Int):Option (List Int) :=
 oif (decide (n5 < (x1.2.1.length:Int))) (
 oif (decide (0≤n5)) (
 obind (x1.2.1[n5.toNat]?) fun x6 =>
 oif (decide (0≤n2)) (
 obind (x1.2.1[n2.toNat]?) fun x7 =>
 oif (x6.2.1==x7.1) (
 oif (Nat.ble ((l4.length+[n5].length)*8) roomMax) (
 ag3 ((l4++[n5]),(i64.wrap (n5+1)))) none) (
 ag3 (l4,(i64.wrap (n5+1))))) none) none) (
 kx132_0_0 l4)
noncomputable def l132_0 (d:Nat) (x1:t2) (n2:Int) (kx132_0_0:(List Int)→Option (List Int)) (ag3:((List Int)×Int)→Option (List Int)) (s:((List Int)×Int)):Option (List Int):=l132_0_b d x1 n2 kx132_0_0 ag3 s.1 s.2
theorem Qqb (d:Nat) (x1:t2) (n2:Int):g132 (d+1) x1 n2 =
 iterP (l132_0 d x1 n2 (j132_0 d)) fuelN ([],0):=by kernel_rfl
noncomputable def j160_0 (d:Nat) (n6:Int):Option Int :=
 some n6
noncomputable def l160_0_b (d:Nat) (x1:t2) (r4:List Int) (kx160_0_0:Int→Option Int) (ag5:t8→Option Int) (n6:Int) (n7:Int):Option Int :=
 oif (decide (n7 < (r4.length:Int))) (
 oif (decide (0≤n7)) (
 oif (Nat.blt (n7.toNat) r4.length) (
 obind (r4[n7.toNat]?) fun n8 =>
 oif (decide (0≤n8)) (
 obind (x1.2.1[n8.toNat]?) fun x9 =>
 ag5 ((i64.wrap (n6 - x9.2.2.1)),(i64.wrap (n7+1)))) none) none) none) (
 kx160_0_0 n6)
noncomputable def l160_0 (d:Nat) (x1:t2) (r4:List Int) (kx160_0_0:Int→Option Int) (ag5:t8→Option Int) (s:t8):Option Int:=l160_0_b d x1 r4 kx160_0_0 ag5 s.1 s.2
theorem Qqc (d:Nat) (x1:t2) (n2:Int):g160 (d+1) x1 n2 =
 oif (decide (0≤n2)) (
 obind (x1.2.1[n2.toNat]?) fun x3 =>
 obind (g132 d x1 n2) fun r4 =>
 iterP (l160_0 d x1 r4 (j160_0 d)) fuelN (x3.2.2.1,0)) none:=by kernel_rfl
theorem Qqd (d:Nat) (x1:t2) (n2:Int):g161 (d+1) x1 n2 =
 obind (g132 d x1 n2) fun r3 =>
 some ((r3.length:Int)==0):=by kernel_rfl
noncomputable def j125_0 (d:Nat) (b6:Bool):Option Bool :=
 some true
noncomputable def j125_1 (d:Nat) (ag5:t7→Option Bool) (b6:Bool) (n7:Int) (b14:Bool) (b15:Bool) (b16:Bool) (b17:Bool) (b18:Bool):Option Bool :=
 oif b18 (
 some false) (
 ag5 (b6,(i64.wrap (n7+1))))
noncomputable def j125_2 (d:Nat) (x1:t2) (ag5:t7→Option Bool) (b6:Bool) (n7:Int) (x8:t1) (b10:Bool) (b11:Bool) (b12:Bool) (b13:Bool):Option Bool :=
 oif b13 (
 some false) (
 obind (g161 d x1 n7) fun r14 =>
 oif r14 (
 obind (g42 d x8.2.2.2.2.2.2.2 1 60) fun r15 =>
 oif (!r15) (
 j125_1 d ag5 b6 n7 r14 true (!r15) true true) (
 obind (g161 d x1 n7) fun r16 =>
 oif (!r16) (
 j125_1 d ag5 b6 n7 r14 true (!r15) false (x8.2.2.2.2.2.2.2 != 0)) (
 j125_1 d ag5 b6 n7 r14 true (!r15) false false))) (
 obind (g161 d x1 n7) fun r17 =>
 oif (!r17) (
 j125_1 d ag5 b6 n7 r14 false false false (x8.2.2.2.2.2.2.2 != 0)) (
 j125_1 d ag5 b6 n7 r14 false false false false)))
noncomputable def l125_1_b (d:Nat) (x1:t2) (kx125_1_0:Bool→Option Bool) (ag5:t7→Option Bool) (b6:Bool) (n7:Int):Option Bool :=
 oif (decide (n7 < (x1.2.1.length:Int))) (
 oif (decide (0≤n7)) (
 obind (x1.2.1[n7.toNat]?) fun x8 =>
 obind (g159 d x1 n7) fun r9 =>
 oif (decide ((r9.length:Int) > 8)) (
 j125_2 d x1 ag5 b6 n7 x8 true true true true) (
 oif (decide (0≤((i64.wrap ((r9.length:Int) - 1)):Int))) (
 oif (Nat.blt (((i64.wrap ((r9.length:Int) - 1)):Int).toNat) r9.length) (
 obind (r9[((i64.wrap ((r9.length:Int) - 1)):Int).toNat]?) fun n10 =>
 oif (decide (0≤n10)) (
 obind (x1.2.1[n10.toNat]?) fun x11 =>
 oif (x11.2.1 != 0) (
 j125_2 d x1 ag5 b6 n7 x8 false (x11.2.1 != 0) true true) (
 obind (g160 d x1 n7) fun r12 =>
 j125_2 d x1 ag5 b6 n7 x8 false (x11.2.1 != 0) false (decide (r12 < 0)))) none) none) none)) none) (
 kx125_1_0 b6)
noncomputable def l125_1 (d:Nat) (x1:t2) (kx125_1_0:Bool→Option Bool) (ag5:t7→Option Bool) (s:t7):Option Bool:=l125_1_b d x1 kx125_1_0 ag5 s.1 s.2
noncomputable def j125_3 (d:Nat) (x1:t2) (b3:Bool) (n4:Int):Option Bool :=
 oif (n4 != 1) (
 some false) (
 iterP (l125_1 d x1 (j125_0 d)) fuelN (b3,0))
noncomputable def j125_4 (d:Nat) (ag2:(Bool×Int×Int)→Option Bool) (b3:Bool) (n4:Int) (n5:Int) (x6:t1) (b7:Bool) (b8:Bool) (b9:Bool) (b10:Bool):Option Bool :=
 oif b10 (
 some false) (
 oif (x6.2.1==0) (
 ag2 (b3,(i64.wrap (n4+1)),(i64.wrap (n5+1)))) (
 ag2 (b3,n4,(i64.wrap (n5+1)))))
noncomputable def l125_0_b (d:Nat) (x1:t2) (kx125_0_0:Bool→Int→Option Bool) (ag2:(Bool×Int×Int)→Option Bool) (b3:Bool) (n4:Int) (n5:Int):Option Bool :=
 oif (decide (n5 < (x1.2.1.length:Int))) (
 oif (decide (0≤n5)) (
 obind (x1.2.1[n5.toNat]?) fun x6 =>
 obind (g158 d x6) fun r7 =>
 oif (!r7) (
 j125_4 d ag2 b3 n4 n5 x6 r7 (!r7) true true) (
 oif (decide (n5 > 0)) (
 oif (decide (0≤((i64.wrap (n5 - 1)):Int))) (
 obind (x1.2.1[((i64.wrap (n5 - 1)):Int).toNat]?) fun x8 =>
 j125_4 d ag2 b3 n4 n5 x6 r7 (!r7) false (decide (x8.1≥x6.1))) none) (
 j125_4 d ag2 b3 n4 n5 x6 r7 (!r7) false false))) none) (
 kx125_0_0 b3 n4)
noncomputable def l125_0 (d:Nat) (x1:t2) (kx125_0_0:Bool→Int→Option Bool) (ag2:(Bool×Int×Int)→Option Bool) (s:(Bool×Int×Int)):Option Bool:=l125_0_b d x1 kx125_0_0 ag2 s.1 s.2.1 s.2.2
theorem Qqe (d:Nat) (x1:t2):g125 (d+1) x1 =
 iterP (l125_0 d x1 (j125_3 d x1)) fuelN (false,0,0):=by kernel_rfl
theorem Qqf (d:Nat) (x1:t2) (n2:Int):g127 (d+1) x1 n2 =
 obind (g131 d x1 n2) fun r3 =>
 oif (decide (r3≥0)) (
 obind (g161 d x1 r3) fun r4 =>
 some r4) (
 some false):=by kernel_rfl
theorem Qqg (d:Nat) (x1:t5):g162 (d+1) x1 =
 obind (g42 d x1.1 1 99) fun r2 =>
 oif r2 (
 obind (g42 d x1.2.1 0 3) fun r3 =>
 oif r3 (
 obind (g42 d x1.2.2.1 0 65535) fun r4 =>
 oif r4 (
 obind (g42 d x1.2.2.2.1 0 65535) fun r5 =>
 oif r5 (
 some (((i64.wrap ((BitVec.ofInt i64.bits x1.2.2.2.1 &&& BitVec.ofInt i64.bits x1.2.2.1).toNat:Int)):Int)==x1.2.2.2.1)) (
 some false)) (
 some false)) (
 some false)) (
 some false):=by kernel_rfl
noncomputable def j126_0 (d:Nat) (x1:t2) (b3:Bool):Option Bool :=
 some (decide ((x1.2.2.1.length:Int)≤16))
noncomputable def j126_1 (d:Nat) (ag2:t7→Option Bool) (b3:Bool) (n4:Int) (b6:Bool) (b7:Bool) (b8:Bool) (b9:Bool) (b10:Bool) (b11:Bool):Option Bool :=
 oif b11 (
 some false) (
 ag2 (b3,(i64.wrap (n4+1))))
noncomputable def l126_0_b (d:Nat) (x1:t2) (kx126_0_0:Bool→Option Bool) (ag2:t7→Option Bool) (b3:Bool) (n4:Int):Option Bool :=
 oif (decide (n4 < (x1.2.2.1.length:Int))) (
 oif (decide (0≤n4)) (
 obind (x1.2.2.1[n4.toNat]?) fun x5 =>
 obind (g162 d x5) fun r6 =>
 oif (!r6) (
 j126_1 d ag2 b3 n4 r6 (!r6) true true true true) (
 oif (decide (n4 > 0)) (
 oif (decide (0≤((i64.wrap (n4 - 1)):Int))) (
 obind (x1.2.2.1[((i64.wrap (n4 - 1)):Int).toNat]?) fun x7 =>
 oif (decide (x7.1≥x5.1)) (
 j126_1 d ag2 b3 n4 r6 (!r6) false (decide (x7.1≥x5.1)) true true) (
 obind (g127 d x1 x5.2.2.2.2) fun r8 =>
 j126_1 d ag2 b3 n4 r6 (!r6) false (decide (x7.1≥x5.1)) false (!r8))) none) (
 obind (g127 d x1 x5.2.2.2.2) fun r9 =>
 j126_1 d ag2 b3 n4 r6 (!r6) false false false (!r9)))) none) (
 kx126_0_0 b3)
noncomputable def l126_0 (d:Nat) (x1:t2) (kx126_0_0:Bool→Option Bool) (ag2:t7→Option Bool) (s:t7):Option Bool:=l126_0_b d x1 kx126_0_0 ag2 s.1 s.2
theorem Qqh (d:Nat) (x1:t2):g126 (d+1) x1 =
 iterP (l126_0 d x1 (j126_0 d x1)) fuelN (false,0):=by kernel_rfl
theorem e97 (d:Nat) (x1:t2):g97 (d+1) x1 =
 obind (g124 d x1.1) fun r2 =>
 oif r2 (
 obind (g42 d (x1.2.1.length:Int) 1 24) fun r3 =>
 oif r3 (
 obind (g125 d x1) fun r4 =>
 oif r4 (
 obind (g126 d x1) fun r5 =>
 oif r5 (
 oif (x1.2.2.2==0) (
 some true) (
 obind (g127 d x1 x1.2.2.2) fun r6 =>
 some r6)) (
 some false)) (
 some false)) (
 some false)) (
 some false):=by kernel_rfl
noncomputable def j128_0 (d:Nat) (b4:Bool):Option Bool :=
 some true
noncomputable def l128_0_b (d:Nat) (l1:List Int) (l2:List Int) (kx128_0_0:Bool→Option Bool) (ag3:t7→Option Bool) (b4:Bool) (n5:Int):Option Bool :=
 oif (decide (n5 < (l1.length:Int))) (
 oif (decide (0≤n5)) (
 obind (l1[n5.toNat]?) fun n6 =>
 oif (decide (0≤n5)) (
 obind (l2[n5.toNat]?) fun n7 =>
 oif (n6 != n7) (
 some false) (
 ag3 (b4,(i64.wrap (n5+1))))) none) none) (
 kx128_0_0 b4)
noncomputable def l128_0 (d:Nat) (l1:List Int) (l2:List Int) (kx128_0_0:Bool→Option Bool) (ag3:t7→Option Bool) (s:t7):Option Bool:=l128_0_b d l1 l2 kx128_0_0 ag3 s.1 s.2
theorem Qqi (d:Nat) (l1:List Int) (l2:List Int):g128 (d+1) l1 l2 =
 oif ((l1.length:Int) != (l2.length:Int)) (
 some false) (
 iterP (l128_0 d l1 l2 (j128_0 d)) fuelN (false,0)):=by kernel_rfl
noncomputable def j98_0 (d:Nat) (x1:t0) (x2:t0) (b7:Bool):Option Bool :=
 obind (g128 d x1.2.2.1 x2.2.2.1) fun r8 =>
 oif r8 (
 obind (g128 d x1.2.2.2.1 x2.2.2.2.1) fun r9 =>
 oif r9 (
 obind (g128 d x1.2.2.2.2.1 x2.2.2.2.2.1) fun r10 =>
 oif r10 (
 obind (g128 d x1.2.2.2.2.2.1 x2.2.2.2.2.2.1) fun r11 =>
 oif r11 (
 obind (g128 d x1.2.2.2.2.2.2.2.1 x2.2.2.2.2.2.2.2.1) fun r12 =>
 some r12) (
 some false)) (
 some false)) (
 some false)) (
 some false)
noncomputable def l98_1_b (d:Nat) (x1:t0) (x2:t0) (kx98_1_0:Bool→Option Bool) (ag6:t7→Option Bool) (b7:Bool) (n8:Int):Option Bool :=
 oif (decide (n8 < (x1.2.2.2.2.2.2.1.length:Int))) (
 oif (decide (0≤n8)) (
 obind (x1.2.2.2.2.2.2.1[n8.toNat]?) fun x9 =>
 oif (decide (0≤n8)) (
 obind (x2.2.2.2.2.2.2.1[n8.toNat]?) fun x10 =>
 oif (!((x9.1==x10.1)&&((x9.2.1==x10.2.1)&&((x9.2.2.1==x10.2.2.1)&&((x9.2.2.2.1==x10.2.2.2.1)&&((x9.2.2.2.2==x10.2.2.2.2)&&true)))))) (
 some false) (
 ag6 (b7,(i64.wrap (n8+1))))) none) none) (
 kx98_1_0 b7)
noncomputable def l98_1 (d:Nat) (x1:t0) (x2:t0) (kx98_1_0:Bool→Option Bool) (ag6:t7→Option Bool) (s:t7):Option Bool:=l98_1_b d x1 x2 kx98_1_0 ag6 s.1 s.2
noncomputable def j98_1 (d:Nat) (x1:t0) (x2:t0) (b5:Bool):Option Bool :=
 iterP (l98_1 d x1 x2 (j98_0 d x1 x2)) fuelN (b5,0)
noncomputable def l98_0_b (d:Nat) (x1:t0) (x2:t0) (kx98_0_0:Bool→Option Bool) (ag4:t7→Option Bool) (b5:Bool) (n6:Int):Option Bool :=
 oif (decide (n6 < (x1.2.1.length:Int))) (
 oif (decide (0≤n6)) (
 obind (x1.2.1[n6.toNat]?) fun x7 =>
 oif (decide (0≤n6)) (
 obind (x2.2.1[n6.toNat]?) fun x8 =>
 oif (!((x7.1==x8.1)&&((x7.2.1==x8.2.1)&&((x7.2.2.1==x8.2.2.1)&&((x7.2.2.2.1==x8.2.2.2.1)&&((x7.2.2.2.2.1==x8.2.2.2.2.1)&&((x7.2.2.2.2.2.1==x8.2.2.2.2.2.1)&&((x7.2.2.2.2.2.2.1==x8.2.2.2.2.2.2.1)&&((x7.2.2.2.2.2.2.2==x8.2.2.2.2.2.2.2)&&true))))))))) (
 some false) (
 ag4 (b5,(i64.wrap (n6+1))))) none) none) (
 kx98_0_0 b5)
noncomputable def l98_0 (d:Nat) (x1:t0) (x2:t0) (kx98_0_0:Bool→Option Bool) (ag4:t7→Option Bool) (s:t7):Option Bool:=l98_0_b d x1 x2 kx98_0_0 ag4 s.1 s.2
noncomputable def j98_2 (d:Nat) (x1:t0) (x2:t0) (b3:Bool):Option Bool :=
 oif b3 (
 some false) (
 iterP (l98_0 d x1 x2 (j98_1 d x1 x2)) fuelN (false,0))
theorem e98 (d:Nat) (x1:t0) (x2:t0):g98 (d+1) x1 x2 =
 oif (!(x1.1.toList==x2.1.toList)) (
 j98_2 d x1 x2 true) (
 oif ((x1.2.1.length:Int) != (x2.2.1.length:Int)) (
 j98_2 d x1 x2 true) (
 oif ((x1.2.2.2.2.2.2.1.length:Int) != (x2.2.2.2.2.2.2.1.length:Int)) (
 j98_2 d x1 x2 true) (
 j98_2 d x1 x2 (x1.2.2.2.2.2.2.2.2 != x2.2.2.2.2.2.2.2.2)))):=by kernel_rfl
noncomputable def j129_0 (d:Nat) (l5:List Int):Option (List Int) :=
 some l5
noncomputable def l129_0_b (d:Nat) (x1:t2) (r3:List Int) (kx129_0_0:(List Int)→Option (List Int)) (ag4:((List Int)×Int)→Option (List Int)) (l5:List Int) (n6:Int):Option (List Int) :=
 oif (decide (n6 < (r3.length:Int))) (
 oif (decide (0≤n6)) (
 oif (Nat.blt (n6.toNat) r3.length) (
 obind (r3[n6.toNat]?) fun n7 =>
 obind (g129 d x1 n7) fun r8 =>
 oif (Nat.ble ((l5.length+r8.length)*8) roomMax) (
 ag4 ((l5++r8),(i64.wrap (n6+1)))) none) none) none) (
 kx129_0_0 l5)
noncomputable def l129_0 (d:Nat) (x1:t2) (r3:List Int) (kx129_0_0:(List Int)→Option (List Int)) (ag4:((List Int)×Int)→Option (List Int)) (s:((List Int)×Int)):Option (List Int):=l129_0_b d x1 r3 kx129_0_0 ag4 s.1 s.2
theorem Qqj (d:Nat) (x1:t2) (n2:Int):g129 (d+1) x1 n2 =
 obind (g132 d x1 n2) fun r3 =>
 iterP (l129_0 d x1 r3 (j129_0 d)) fuelN ([n2],0):=by kernel_rfl
noncomputable def j130_0 (d:Nat) (n3:Int):Option Int :=
 some n3
noncomputable def l130_0_b (d:Nat) (x1:t2) (kx130_0_0:Int→Option Int) (ag2:Int→Option Int) (n3:Int):Option Int :=
 oif (decide (0≤n3)) (
 obind (x1.2.1[n3.toNat]?) fun x4 =>
 oif (x4.2.1 != 0) (
 ag2 (i64.wrap (n3+1))) (
 kx130_0_0 n3)) none
noncomputable def l130_0 (d:Nat) (x1:t2) (kx130_0_0:Int→Option Int) (ag2:Int→Option Int) (s:Int):Option Int:=l130_0_b d x1 kx130_0_0 ag2 s
theorem Qqk (d:Nat) (x1:t2):g130 (d+1) x1 =
 iterP (l130_0 d x1 (j130_0 d)) fuelN 0:=by kernel_rfl
noncomputable def j99_0 (d:Nat) (x1:t2) (l5:List Int) (s17:ByteArray) (n18:Int) (l19:List t1) (l20:List Int) (l21:List Int) (l22:List Int) (l23:List Int) (l24:List t5) (l25:List Int):Option t0 :=
 oif (x1.2.2.2 != 0) (
 obind (g131 d x1 x1.2.2.2) fun r26 =>
 oif (decide (0≤r26)) (
 oif (Nat.blt (r26.toNat) l5.length) (
 obind (l5[r26.toNat]?) fun n27 =>
 some (s17,l19,l20,l21,l22,l23,l24,l25,n27)) none) none) (
 some (s17,l19,l20,l21,l22,l23,l24,l25,n18))
noncomputable def l99_3_b (d:Nat) (x1:t2) (l5:List Int) (kx99_3_0:ByteArray→Int→(List t1)→(List Int)→(List Int)→(List Int)→(List Int)→(List t5)→(List Int)→Option t0) (ag16:(Int×t0)→Option t0) (n17:Int) (x18:t0):Option t0 :=
 oif (decide (n17 < (x1.2.2.1.length:Int))) (
 oif (decide (0≤n17)) (
 obind (x1.2.2.1[n17.toNat]?) fun x19 =>
 obind (g131 d x1 x19.2.2.2.2) fun r20 =>
 oif (decide (0≤r20)) (
 oif (Nat.blt (r20.toNat) l5.length) (
 obind (l5[r20.toNat]?) fun n21 =>
 oif (Nat.ble ((x18.2.2.2.2.2.2.2.1.length+[n21].length)*8) roomMax) (
 ag16 ((i64.wrap (n17+1)),(x18.1,x18.2.1,x18.2.2.1,x18.2.2.2.1,x18.2.2.2.2.1,x18.2.2.2.2.2.1,x18.2.2.2.2.2.2.1,(x18.2.2.2.2.2.2.2.1++[n21]),x18.2.2.2.2.2.2.2.2))) none) none) none) none) (
 kx99_3_0 x18.1 x18.2.2.2.2.2.2.2.2 x18.2.1 x18.2.2.1 x18.2.2.2.1 x18.2.2.2.2.1 x18.2.2.2.2.2.1 x18.2.2.2.2.2.2.1 x18.2.2.2.2.2.2.2.1)
noncomputable def l99_3 (d:Nat) (x1:t2) (l5:List Int) (kx99_3_0:ByteArray→Int→(List t1)→(List Int)→(List Int)→(List Int)→(List Int)→(List t5)→(List Int)→Option t0) (ag16:(Int×t0)→Option t0) (s:(Int×t0)):Option t0:=l99_3_b d x1 l5 kx99_3_0 ag16 s.1 s.2
noncomputable def j99_1 (d:Nat) (x1:t2) (l5:List Int) (s7:ByteArray) (n8:Int) (l9:List t1) (l10:List Int) (l11:List Int) (l12:List Int) (l13:List Int) (l14:List t5) (l15:List Int):Option t0 :=
 iterP (l99_3 d x1 l5 (j99_0 d x1 l5)) fuelN (0,(s7,l9,l10,l11,l12,l13,l14,l15,n8))
noncomputable def j99_2 (d:Nat) (x1:t2) (ag6:(Int×t0)→Option t0) (n7:Int) (x8:t0) (n9:Int) (x10:t1) (n13:Int) (n14:Int) (n17:Int) (b18:Bool):Option t0 :=
 oif (Nat.ble ((x8.2.2.1.length+[n13].length)*8) roomMax) (
 oif (Nat.ble ((x8.2.2.2.1.length+[n17].length)*8) roomMax) (
 oif (Nat.ble ((x8.2.2.2.2.1.length+[n14].length)*8) roomMax) (
 obind (g129 d x1 n9) fun r19 =>
 oif (Nat.ble ((x8.2.2.2.2.2.1.length+[(i64.wrap (n7+(r19.length:Int)))].length)*8) roomMax) (
 ag6 ((i64.wrap (n7+1)),(x8.1,(x8.2.1++[x10]),(x8.2.2.1++[n13]),(x8.2.2.2.1++[n17]),(x8.2.2.2.2.1++[n14]),(x8.2.2.2.2.2.1++[(i64.wrap (n7+(r19.length:Int)))]),x8.2.2.2.2.2.2))) none) none) none) none
noncomputable def j99_3 (d:Nat) (x1:t2) (l5:List Int) (ag6:(Int×t0)→Option t0) (n7:Int) (x8:t0) (n9:Int) (x10:t1) (n13:Int) (n14:Int) (b15:Bool):Option t0 :=
 obind (g132 d x1 n9) fun r16 =>
 oif (decide ((r16.length:Int) > 0)) (
 oif (Nat.blt 0 r16.length) (
 obind (r16[0]?) fun n17 =>
 oif (decide (0≤n17)) (
 oif (Nat.blt (n17.toNat) l5.length) (
 obind (l5[n17.toNat]?) fun n18 =>
 j99_2 d x1 ag6 n7 x8 n9 x10 n13 n14 n18 true) none) none) none) (
 j99_2 d x1 ag6 n7 x8 n9 x10 n13 n14 (-1) false)
noncomputable def j99_4 (d:Nat) (x1:t2) (l5:List Int) (ag6:(Int×t0)→Option t0) (n7:Int) (x8:t0) (n9:Int) (x10:t1) (n13:Int) (n16:Int) (n17:Int):Option t0 :=
 j99_3 d x1 l5 ag6 n7 x8 n9 x10 n13 n16 true
noncomputable def j99_5 (d:Nat) (l5:List Int) (r14:List Int) (ag15:t8→Option t0) (n16:Int) (n17:Int) (b19:Bool) (b20:Bool):Option t0 :=
 oif b20 (
 oif (decide (0≤((i64.wrap (n17+1)):Int))) (
 oif (Nat.blt (((i64.wrap (n17+1)):Int).toNat) r14.length) (
 obind (r14[((i64.wrap (n17+1)):Int).toNat]?) fun n21 =>
 oif (decide (0≤n21)) (
 oif (Nat.blt (n21.toNat) l5.length) (
 obind (l5[n21.toNat]?) fun n22 =>
 ag15 (n22,(i64.wrap (n17+1)))) none) none) none) none) (
 ag15 (n16,(i64.wrap (n17+1))))
noncomputable def l99_2_b (d:Nat) (l5:List Int) (n9:Int) (r14:List Int) (kx99_2_0:Int→Int→Option t0) (ag15:t8→Option t0) (n16:Int) (n17:Int):Option t0 :=
 oif (decide (n17 < (r14.length:Int))) (
 oif (decide (0≤n17)) (
 oif (Nat.blt (n17.toNat) r14.length) (
 obind (r14[n17.toNat]?) fun n18 =>
 oif (n18==n9) (
 j99_5 d l5 r14 ag15 n16 n17 true (decide (((i64.wrap (n17+1)):Int) < (r14.length:Int)))) (
 j99_5 d l5 r14 ag15 n16 n17 false false)) none) none) (
 kx99_2_0 n16 n17)
noncomputable def l99_2 (d:Nat) (l5:List Int) (n9:Int) (r14:List Int) (kx99_2_0:Int→Int→Option t0) (ag15:t8→Option t0) (s:t8):Option t0:=l99_2_b d l5 n9 r14 kx99_2_0 ag15 s.1 s.2
noncomputable def l99_1_b (d:Nat) (x1:t2) (r3:List Int) (l5:List Int) (kx99_1_0:ByteArray→Int→(List t1)→(List Int)→(List Int)→(List Int)→(List Int)→(List t5)→(List Int)→Option t0) (ag6:(Int×t0)→Option t0) (n7:Int) (x8:t0):Option t0 :=
 oif (decide (n7 < (r3.length:Int))) (
 oif (decide (0≤n7)) (
 oif (Nat.blt (n7.toNat) r3.length) (
 obind (r3[n7.toNat]?) fun n9 =>
 oif (decide (0≤n9)) (
 obind (x1.2.1[n9.toNat]?) fun x10 =>
 oif (Nat.ble ((x8.2.1.length+[x10].length)*64) roomMax) (
 oif (decide (0≤n9)) (
 obind (x1.2.1[n9.toNat]?) fun x11 =>
 obind (g131 d x1 x11.2.1) fun r12 =>
 oif (decide (r12≥0)) (
 oif (decide (0≤r12)) (
 oif (Nat.blt (r12.toNat) l5.length) (
 obind (l5[r12.toNat]?) fun n13 =>
 obind (g132 d x1 r12) fun r14 =>
 iterP (l99_2 d l5 n9 r14 (j99_4 d x1 l5 ag6 n7 x8 n9 x10 n13)) fuelN ((-1),0)) none) none) (
 j99_3 d x1 l5 ag6 n7 x8 n9 x10 (-1) (-1) false)) none) none) none) none) none) (
 kx99_1_0 x8.1 x8.2.2.2.2.2.2.2.2 x8.2.1 x8.2.2.1 x8.2.2.2.1 x8.2.2.2.2.1 x8.2.2.2.2.2.1 x8.2.2.2.2.2.2.1 x8.2.2.2.2.2.2.2.1)
noncomputable def l99_1 (d:Nat) (x1:t2) (r3:List Int) (l5:List Int) (kx99_1_0:ByteArray→Int→(List t1)→(List Int)→(List Int)→(List Int)→(List Int)→(List t5)→(List Int)→Option t0) (ag6:(Int×t0)→Option t0) (s:(Int×t0)):Option t0:=l99_1_b d x1 r3 l5 kx99_1_0 ag6 s.1 s.2
noncomputable def j99_6 (d:Nat) (x1:t2) (r3:List Int) (l5:List Int):Option t0 :=
 oif (Nat.ble ((([]:List t5).length+x1.2.2.1.length)*40) roomMax) (
 iterP (l99_1 d x1 r3 l5 (j99_1 d x1 l5)) fuelN (0,(x1.1,[],[],[],[],[],(([]:List t5)++x1.2.2.1),[],(-1)))) none
noncomputable def l99_0_b (d:Nat) (r3:List Int) (kx99_0_0:(List Int)→Option t0) (ag4:(Int×(List Int))→Option t0) (n5:Int) (l6:List Int):Option t0 :=
 oif (decide (n5 < (r3.length:Int))) (
 oif (decide (0≤n5)) (
 oif (Nat.blt (n5.toNat) r3.length) (
 obind (r3[n5.toNat]?) fun n7 =>
 oif (decide (0≤n7)) (
 oif (Nat.blt (n7.toNat) l6.length) (
 obind (l6[n7.toNat]?) fun n8 =>
 ag4 ((i64.wrap (n5+1)),(l6.set (n7.toNat) n5))) none) none) none) none) (
 kx99_0_0 l6)
noncomputable def l99_0 (d:Nat) (r3:List Int) (kx99_0_0:(List Int)→Option t0) (ag4:(Int×(List Int))→Option t0) (s:(Int×(List Int))):Option t0:=l99_0_b d r3 kx99_0_0 ag4 s.1 s.2
theorem e99 (d:Nat) (x1:t2):g99 (d+1) x1 =
 obind (g130 d x1) fun r2 =>
 obind (g129 d x1 r2) fun r3 =>
 oif (decide (0≤(r3.length:Int))) (
 oif (decide (0≤(r3.length:Int))) (
 oif (Nat.ble ((r3.length:Int).toNat) ((r3.length:Int).toNat)&&Nat.ble (((r3.length:Int).toNat)*8) roomMax) (
 iterP (l99_0 d r3 (j99_6 d x1 r3)) fuelN (0,(List.replicate ((r3.length:Int).toNat) (0:Int)))) none) none) none:=by kernel_rfl
noncomputable def j71_0 (d:Nat) (x1:t0) (b2:Bool):Option Bool :=
 oif b2 (
 some false) (
 obind (g96 d x1) fun r3 =>
 obind (g97 d r3) fun r4 =>
 oif r4 (
 obind (g99 d r3) fun r5 =>
 obind (g98 d x1 r5) fun r6 =>
 some r6) (
 some false))
theorem e71 (d:Nat) (x1:t0):g71 (d+1) x1 =
 oif (decide ((x1.2.1.length:Int) > 24)) (
 j71_0 d x1 true) (
 j71_0 d x1 (decide ((x1.2.2.2.2.2.2.1.length:Int) > 16))):=by kernel_rfl
noncomputable def j72_0 (d:Nat) (b5:Bool):Option Bool :=
 some true
noncomputable def l72_0_b (d:Nat) (x1:t0) (x2:t9) (kx72_0_0:Bool→Option Bool) (ag4:t7→Option Bool) (b5:Bool) (n6:Int):Option Bool :=
 oif (decide (n6 < (x1.2.1.length:Int))) (
 oif (decide (0≤n6)) (
 obind (x1.2.1[n6.toNat]?) fun x7 =>
 oif (decide (0≤n6)) (
 obind (x2.1[n6.toNat]?) fun n8 =>
 obind (g42 d n8 0 x7.2.2.2.2.1) fun r9 =>
 oif (!r9) (
 some false) (
 oif (decide (0≤n6)) (
 obind (x2.2[n6.toNat]?) fun n10 =>
 obind (g42 d n10 0 x7.2.2.2.2.2.1) fun r11 =>
 oif (!r11) (
 some false) (
 ag4 (b5,(i64.wrap (n6+1))))) none)) none) none) (
 kx72_0_0 b5)
noncomputable def l72_0 (d:Nat) (x1:t0) (x2:t9) (kx72_0_0:Bool→Option Bool) (ag4:t7→Option Bool) (s:t7):Option Bool:=l72_0_b d x1 x2 kx72_0_0 ag4 s.1 s.2
noncomputable def j72_1 (d:Nat) (x1:t0) (x2:t9) (b3:Bool):Option Bool :=
 oif b3 (
 some false) (
 iterP (l72_0 d x1 x2 (j72_0 d)) fuelN (false,0))
theorem e72 (d:Nat) (x1:t0) (x2:t9):g72 (d+1) x1 x2 =
 oif ((x2.1.length:Int) != (x1.2.1.length:Int)) (
 j72_1 d x1 x2 true) (
 j72_1 d x1 x2 ((x2.2.length:Int) != (x1.2.1.length:Int))):=by kernel_rfl
theorem e41 (d:Nat) (x1:t0) (x2:t9):g41 (d+1) x1 x2 =
 obind (g71 d x1) fun r3 =>
 oif r3 (
 obind (g72 d x1 x2) fun r4 =>
 some r4) (
 some false):=by kernel_rfl
theorem e73 (d:Nat) (n1:Int):g73 (d+1) n1 =
 obind (g42 d n1 0 65535) fun r2 =>
 some r2:=by kernel_rfl
theorem e43 (d:Nat) (x1:t3):g43 (d+1) x1 =
 obind (g42 d x1.1 1 100000) fun r2 =>
 oif r2 (
 obind (g73 d x1.2.1) fun r3 =>
 oif r3 (
 obind (g73 d x1.2.2.1) fun r4 =>
 oif r4 (
 obind (g73 d x1.2.2.2.1) fun r5 =>
 oif r5 (
 obind (g73 d x1.2.2.2.2.1) fun r6 =>
 oif r6 (
 obind (g42 d x1.2.2.2.2.2 1 1500) fun r7 =>
 some r7) (
 some false)) (
 some false)) (
 some false)) (
 some false)) (
 some false):=by kernel_rfl
theorem Qql (d:Nat) (x1:t3) (n2:Int):g133 (d+1) x1 n2 =
 oif (decide (0≤n2)) (
 oif (Nat.blt (n2.toNat) ([x1.2.1,x1.2.2.1,x1.2.2.2.1,x1.2.2.2.2.1].length)) (
 obind ([x1.2.1,x1.2.2.1,x1.2.2.2.1,x1.2.2.2.2.1][n2.toNat]?) fun n3 =>
 some n3) none) none:=by kernel_rfl
theorem Qqm (d:Nat) (x1:t5) (x2:t3):g100 (d+1) x1 x2 =
 obind (g133 d x2 x1.2.1) fun r3 =>
 some (((i64.wrap ((BitVec.ofInt i64.bits r3 &&& BitVec.ofInt i64.bits x1.2.2.1).toNat:Int)):Int)==x1.2.2.2.1):=by kernel_rfl
noncomputable def j74_0 (d:Nat) (n4:Int):Option Int :=
 some (-1)
noncomputable def l74_0_b (d:Nat) (l1:List t5) (x2:t3) (kx74_0_0:Int→Option Int) (ag3:t8→Option Int) (n4:Int) (n5:Int):Option Int :=
 oif (decide (n5 < (l1.length:Int))) (
 oif (decide (0≤n5)) (
 obind (l1[n5.toNat]?) fun x6 =>
 obind (g100 d x6 x2) fun r7 =>
 oif r7 (
 some n5) (
 ag3 (n4,(i64.wrap (n5+1))))) none) (
 kx74_0_0 n4)
noncomputable def l74_0 (d:Nat) (l1:List t5) (x2:t3) (kx74_0_0:Int→Option Int) (ag3:t8→Option Int) (s:t8):Option Int:=l74_0_b d l1 x2 kx74_0_0 ag3 s.1 s.2
theorem e74 (d:Nat) (l1:List t5) (x2:t3):g74 (d+1) l1 x2 =
 iterP (l74_0 d l1 x2 (j74_0 d)) fuelN (0,0):=by kernel_rfl
theorem e44 (d:Nat) (x1:t0) (x2:t3):g44 (d+1) x1 x2 =
 obind (g74 d x1.2.2.2.2.2.2.1 x2) fun r3 =>
 oif (decide (r3≥0)) (
 oif (decide (0≤r3)) (
 obind (x1.2.2.2.2.2.2.2.1[r3.toNat]?) fun n4 =>
 some n4) none) (
 some x1.2.2.2.2.2.2.2.2):=by kernel_rfl
noncomputable def j45_0 (d:Nat) (b4:Bool):Option Bool :=
 some false
noncomputable def l45_0_b (d:Nat) (l1:List Int) (n2:Int) (kx45_0_0:Bool→Option Bool) (ag3:t7→Option Bool) (b4:Bool) (n5:Int):Option Bool :=
 oif (decide (n5 < (l1.length:Int))) (
 oif (decide (0≤n5)) (
 obind (l1[n5.toNat]?) fun n6 =>
 oif (n6==n2) (
 some true) (
 ag3 (b4,(i64.wrap (n5+1))))) none) (
 kx45_0_0 b4)
noncomputable def l45_0 (d:Nat) (l1:List Int) (n2:Int) (kx45_0_0:Bool→Option Bool) (ag3:t7→Option Bool) (s:t7):Option Bool:=l45_0_b d l1 n2 kx45_0_0 ag3 s.1 s.2
theorem e45 (d:Nat) (l1:List Int) (n2:Int):g45 (d+1) l1 n2 =
 iterP (l45_0 d l1 n2 (j45_0 d)) fuelN (false,0):=by kernel_rfl
noncomputable def j18_0 (d:Nat) (b6:Bool):Option Bool :=
 some true
noncomputable def j18_1 (d:Nat) (ag5:(Bool×(List Int)×Int)→Option Bool) (n8:Int) (b13:Bool) (n14:Int) (l15:List Int):Option Bool :=
 ag5 (b13,l15,(i64.wrap (n8+1)))
noncomputable def l18_1_b (d:Nat) (x1:t4) (r3:List Int) (n8:Int) (l9:List t3) (kx18_1_0:Bool→Int→(List Int)→Option Bool) (ag12:(Bool×(List Int)×Int)→Option Bool) (b13:Bool) (l14:List Int) (n15:Int):Option Bool :=
 oif (decide (n15 < (l9.length:Int))) (
 oif (decide (0≤n15)) (
 obind (l9[n15.toNat]?) fun x16 =>
 obind (g43 d x16) fun r17 =>
 oif (!r17) (
 some false) (
 obind (g44 d x1.1 x16) fun r18 =>
 oif (decide (0≤n8)) (
 oif (Nat.blt (n8.toNat) r3.length) (
 obind (r3[n8.toNat]?) fun n19 =>
 oif (r18 != n19) (
 some false) (
 obind (g45 d l14 x16.1) fun r20 =>
 oif r20 (
 some false) (
 oif (Nat.ble ((l14.length+[x16.1].length)*8) roomMax) (
 ag12 (b13,(l14++[x16.1]),(i64.wrap (n15+1)))) none))) none) none)) none) (
 kx18_1_0 b13 n15 l14)
noncomputable def l18_1 (d:Nat) (x1:t4) (r3:List Int) (n8:Int) (l9:List t3) (kx18_1_0:Bool→Int→(List Int)→Option Bool) (ag12:(Bool×(List Int)×Int)→Option Bool) (s:(Bool×(List Int)×Int)):Option Bool:=l18_1_b d x1 r3 n8 l9 kx18_1_0 ag12 s.1 s.2.1 s.2.2
noncomputable def l18_0_b (d:Nat) (x1:t4) (r3:List Int) (kx18_0_0:Bool→Option Bool) (ag5:(Bool×(List Int)×Int)→Option Bool) (b6:Bool) (l7:List Int) (n8:Int):Option Bool :=
 oif (decide (n8 < (x1.2.2.1.length:Int))) (
 oif (decide (0≤n8)) (
 obind (x1.2.2.1[n8.toNat]?) fun l9 =>
 oif (decide (0≤n8)) (
 oif (Nat.blt (n8.toNat) r3.length) (
 obind (r3[n8.toNat]?) fun n10 =>
 oif (decide (0≤n10)) (
 obind (x1.1.2.1[n10.toNat]?) fun x11 =>
 oif (decide ((l9.length:Int) > x11.2.2.2.2.2.2.2)) (
 some false) (
 iterP (l18_1 d x1 r3 n8 l9 (j18_1 d ag5 n8)) fuelN (b6,l7,0))) none) none) none) none) (
 kx18_0_0 b6)
noncomputable def l18_0 (d:Nat) (x1:t4) (r3:List Int) (kx18_0_0:Bool→Option Bool) (ag5:(Bool×(List Int)×Int)→Option Bool) (s:(Bool×(List Int)×Int)):Option Bool:=l18_0_b d x1 r3 kx18_0_0 ag5 s.1 s.2.1 s.2.2
noncomputable def j18_2 (d:Nat) (x1:t4) (r3:List Int) (b4:Bool):Option Bool :=
 oif b4 (
 some false) (
 iterP (l18_0 d x1 r3 (j18_0 d)) fuelN (false,[],0))
theorem e18 (d:Nat) (x1:t4):g18 (d+1) x1 =
 obind (g41 d x1.1 x1.2.1) fun r2 =>
 oif (!r2) (
 some false) (
 obind (g35 d x1.1) fun r3 =>
 oif ((x1.2.2.1.length:Int) != (r3.length:Int)) (
 j18_2 d x1 r3 true) (
 obind (g42 d x1.2.2.2.1 (-1) (i64.wrap ((r3.length:Int) - 1))) fun r4 =>
 oif (!r4) (
 j18_2 d x1 r3 true) (
 obind (g42 d x1.2.2.2.2 0 1000000) fun r5 =>
 j18_2 d x1 r3 (!r5)))):=by kernel_rfl
noncomputable def j92_0 (d:Nat) (l4:List Int):Option (List Int) :=
 some l4
noncomputable def l92_0_b (d:Nat) (x1:t0) (kx92_0_0:(List Int)→Option (List Int)) (ag3:(Int×(List Int))→Option (List Int)) (n4:Int) (l5:List Int):Option (List Int) :=
 oif (decide (n4≥0)) (
 oif (Nat.ble ((l5.length+[n4].length)*8) roomMax) (
 oif (decide (0≤n4)) (
 obind (x1.2.2.1[n4.toNat]?) fun n6 =>
 ag3 (n6,(l5++[n4]))) none) none) (
 kx92_0_0 l5)
noncomputable def l92_0 (d:Nat) (x1:t0) (kx92_0_0:(List Int)→Option (List Int)) (ag3:(Int×(List Int))→Option (List Int)) (s:(Int×(List Int))):Option (List Int):=l92_0_b d x1 kx92_0_0 ag3 s.1 s.2
theorem e92 (d:Nat) (x1:t0) (n2:Int):g92 (d+1) x1 n2 =
 iterP (l92_0 d x1 (j92_0 d)) fuelN (n2,[]):=by kernel_rfl
theorem e93 (d:Nat) (n1:Int) (n2:Int):g93 (d+1) n1 n2 =
 oif (decide (n1 > n2)) (
 some n1) (
 some n2):=by kernel_rfl
noncomputable def j94_0 (d:Nat) (x1:(Int×Int×Int)) (n2:Int) (b3:Bool):Option Int :=
 oif b3 (
 some (-1)) (
 oif (x1.1==0) none (
 some (i64.wrap ((i64.wrap ((i64.wrap ((i64.wrap (n2 - x1.2.2))+x1.1)) - 1)).tdiv x1.1))))
theorem e94 (d:Nat) (x1:(Int×Int×Int)) (n2:Int):g94 (d+1) x1 n2 =
 oif (decide (x1.2.2≥n2)) (
 some 0) (
 oif (decide (n2 > x1.2.1)) (
 j94_0 d x1 n2 true) (
 j94_0 d x1 n2 (x1.1==0))):=by kernel_rfl
noncomputable def j63_0 (d:Nat) (x1:t4) (n6:Int) (n7:Int):Option (Int×t4) :=
 obind (g93 d n6 n7) fun r8 =>
 some (r8,x1)
noncomputable def l63_0_b (d:Nat) (x1:t4) (n3:Int) (r4:List Int) (kx63_0_0:Int→Int→Option (Int×t4)) (ag5:(Int×Int×Int)→Option (Int×t4)) (n6:Int) (n7:Int) (n8:Int):Option (Int×t4) :=
 oif (decide (n8 < (r4.length:Int))) (
 oif (decide (0≤n8)) (
 oif (Nat.blt (n8.toNat) r4.length) (
 obind (r4[n8.toNat]?) fun n9 =>
 oif (decide (0≤n9)) (
 obind (x1.1.2.1[n9.toNat]?) fun x10 =>
 oif (decide (0≤n9)) (
 obind (x1.2.1.2[n9.toNat]?) fun n11 =>
 obind (g94 d (x10.2.2.2.1,x10.2.2.2.2.2.1,n11) n3) fun r12 =>
 obind (g93 d n6 r12) fun r13 =>
 oif (decide (0≤n9)) (
 obind (x1.2.1.1[n9.toNat]?) fun n14 =>
 obind (g94 d (x10.2.2.1,x10.2.2.2.2.1,n14) n3) fun r15 =>
 oif (decide (n7 < 0)) (
 ag5 (r13,r15,(i64.wrap (n8+1)))) (
 oif (decide (r15 < n7)) (
 ag5 (r13,r15,(i64.wrap (n8+1)))) (
 ag5 (r13,n7,(i64.wrap (n8+1)))))) none) none) none) none) none) (
 kx63_0_0 n6 n7)
noncomputable def l63_0 (d:Nat) (x1:t4) (n3:Int) (r4:List Int) (kx63_0_0:Int→Int→Option (Int×t4)) (ag5:(Int×Int×Int)→Option (Int×t4)) (s:(Int×Int×Int)):Option (Int×t4):=l63_0_b d x1 n3 r4 kx63_0_0 ag5 s.1 s.2.1 s.2.2
theorem e63 (d:Nat) (x1:t4) (n2:Int) (n3:Int):g63 (d+1) x1 n2 n3 =
 obind (g92 d x1.1 n2) fun r4 =>
 iterP (l63_0 d x1 n3 r4 (j63_0 d x1)) fuelN (0,(-1),0):=by kernel_rfl
noncomputable def j32_0 (d:Nat) (n4:Int) (s5:ByteArray) (l6:List t1) (l7:List Int) (l8:List Int) (l9:List Int) (l10:List Int) (l11:List t5) (l12:List Int) (n13:Int) (l14:List Int) (l15:List Int) (l16:List (List t3)) (n17:Int) (n18:Int):Option (Int×t4) :=
 some (n4,((s5,l6,l7,l8,l9,l10,l11,l12,n13),(l14,l15),l16,n17,n18))
noncomputable def j32_1 (d:Nat) (ag3:(Int×Int×t4)→Option (Int×t4)) (n5:Int) (n7:Int) (n8:Int) (n9:Int) (l10:List t3) (l11:List t3) (n12:Int) (b13:Bool) (s14:ByteArray) (l15:List t1) (l16:List Int) (l17:List Int) (l18:List Int) (l19:List Int) (l20:List t5) (l21:List Int) (n22:Int) (l23:List Int) (l24:List Int) (l25:List (List t3)) (n26:Int) (n27:Int):Option (Int×t4) :=
 ag3 (n7,(i64.wrap (n5+1)),((s14,l15,l16,l17,l18,l19,l20,l21,n22),(l23,l24),l25,n26,n27))
noncomputable def j32_2 (d:Nat) (ag3:(Int×Int×t4)→Option (Int×t4)) (n5:Int) (n7:Int) (l8:List t3) (r11:(Int×t4)) (n14:Int) (b15:Bool):Option (Int×t4) :=
 j32_1 d ag3 n5 n14 n7 n7 l8 l8 (l8.length:Int) false r11.2.1.1 r11.2.1.2.1 r11.2.1.2.2.1 r11.2.1.2.2.2.1 r11.2.1.2.2.2.2.1 r11.2.1.2.2.2.2.2.1 r11.2.1.2.2.2.2.2.2.1 r11.2.1.2.2.2.2.2.2.2.1 r11.2.1.2.2.2.2.2.2.2.2 r11.2.2.1.1 r11.2.2.1.2 r11.2.2.2.1 r11.2.2.2.2.1 r11.2.2.2.2.2
noncomputable def j32_3 (d:Nat) (ag3:(Int×Int×t4)→Option (Int×t4)) (n4:Int) (n5:Int) (n7:Int) (l8:List t3) (r11:(Int×t4)) (b12:Bool) (b13:Bool):Option (Int×t4) :=
 oif b13 (
 j32_2 d ag3 n5 n7 l8 r11 r11.1 true) (
 j32_2 d ag3 n5 n7 l8 r11 n4 false)
noncomputable def l32_0_b (d:Nat) (r2:List Int) (kx32_0_0:Int→ByteArray→(List t1)→(List Int)→(List Int)→(List Int)→(List Int)→(List t5)→(List Int)→Int→(List Int)→(List Int)→(List (List t3))→Int→Int→Option (Int×t4)) (ag3:(Int×Int×t4)→Option (Int×t4)) (n4:Int) (n5:Int) (x6:t4):Option (Int×t4) :=
 oif (decide (n5 < (r2.length:Int))) (
 oif (decide (0≤n5)) (
 oif (Nat.blt (n5.toNat) r2.length) (
 obind (r2[n5.toNat]?) fun n7 =>
 oif (decide (0≤n5)) (
 obind (x6.2.2.1[n5.toNat]?) fun l8 =>
 oif ((l8.length:Int)==0) (
 j32_1 d ag3 n5 n4 n7 n7 l8 l8 (l8.length:Int) true x6.1.1 x6.1.2.1 x6.1.2.2.1 x6.1.2.2.2.1 x6.1.2.2.2.2.1 x6.1.2.2.2.2.2.1 x6.1.2.2.2.2.2.2.1 x6.1.2.2.2.2.2.2.2.1 x6.1.2.2.2.2.2.2.2.2 x6.2.1.1 x6.2.1.2 x6.2.2.1 x6.2.2.2.1 x6.2.2.2.2) (
 oif (decide (0≤n5)) (
 obind (x6.2.2.1[n5.toNat]?) fun l9 =>
 obind (l9[0]?) fun x10 =>
 obind (g63 d x6 n7 x10.2.2.2.2.2) fun r11 =>
 oif (decide (n4 < 0)) (
 j32_3 d ag3 n4 n5 n7 l8 r11 true true) (
 j32_3 d ag3 n4 n5 n7 l8 r11 false (decide (r11.1 < n4)))) none)) none) none) none) (
 kx32_0_0 n4 x6.1.1 x6.1.2.1 x6.1.2.2.1 x6.1.2.2.2.1 x6.1.2.2.2.2.1 x6.1.2.2.2.2.2.1 x6.1.2.2.2.2.2.2.1 x6.1.2.2.2.2.2.2.2.1 x6.1.2.2.2.2.2.2.2.2 x6.2.1.1 x6.2.1.2 x6.2.2.1 x6.2.2.2.1 x6.2.2.2.2)
noncomputable def l32_0 (d:Nat) (r2:List Int) (kx32_0_0:Int→ByteArray→(List t1)→(List Int)→(List Int)→(List Int)→(List Int)→(List t5)→(List Int)→Int→(List Int)→(List Int)→(List (List t3))→Int→Int→Option (Int×t4)) (ag3:(Int×Int×t4)→Option (Int×t4)) (s:(Int×Int×t4)):Option (Int×t4):=l32_0_b d r2 kx32_0_0 ag3 s.1 s.2.1 s.2.2
theorem e32 (d:Nat) (x1:t4):g32 (d+1) x1 =
 obind (g35 d x1.1) fun r2 =>
 iterP (l32_0 d r2 (j32_0 d)) fuelN ((-1),0,x1):=by kernel_rfl
theorem e11 (d:Nat) (x1:t4):g11 (d+1) x1 =
 obind (g18 d x1) fun r2 =>
 oif (!r2) (
 some (0,false)) (
 obind (g32 d x1) fun r3 =>
 oif (decide (r3.1 < 0)) (
 some (0,false)) (
 obind (g32 d r3.2) fun r4 =>
 some (r4.1,true))):=by kernel_rfl
theorem e78 (d:Nat) (l1:List t1):g78 (d+1) l1 =
 nilB l1.length (
 some []) (
 oif (Nat.ble ((([]:List t1).length+l1.length)*64) roomMax) (
 some (([]:List t1)++l1)) none):=by kernel_rfl
theorem e79 (d:Nat) (l1:List t5):g79 (d+1) l1 =
 nilB l1.length (
 some []) (
 oif (Nat.ble ((([]:List t5).length+l1.length)*40) roomMax) (
 some (([]:List t5)++l1)) none):=by kernel_rfl
theorem e82 (d:Nat) (n1:Int) (n2:Int):g82 (d+1) n1 n2 =
 oif (decide (n1 < n2)) (
 some (-1)) (
 oif (decide (n1 > n2)) (
 some 1) (
 some 0)):=by kernel_rfl
noncomputable def j134_0 (d:Nat) (l6:List t1):Option (List t1) :=
 some l6
noncomputable def j134_1 (d:Nat) (ag5:(Int×(List t1))→Option (List t1)) (n6:Int) (n9:Int) (n10:Int) (b11:Bool) (b12:Bool) (l13:List t1):Option (List t1) :=
 ag5 ((i64.wrap (n6+1)),l13)
noncomputable def j134_2 (d:Nat) (kx134_1_0:Int→Int→Bool→Bool→(List t1)→Option (List t1)) (n2:Int) (ag8:(Int×(List t1))→Option (List t1)) (n9:Int) (l10:List t1) (b11:Bool) (b12:Bool):Option (List t1) :=
 oif b12 (
 oif (decide (0≤((i64.wrap (n9 - 1)):Int))) (
 oif (Nat.blt (((i64.wrap (n9 - 1)):Int).toNat) l10.length) (
 obind (l10[((i64.wrap (n9 - 1)):Int).toNat]?) fun x13 =>
 oif (decide (0≤n9)) (
 oif (Nat.blt (n9.toNat) l10.length) (
 obind (l10[n9.toNat]?) fun x14 =>
 oif (decide (0≤n9)) (
 oif (Nat.blt (n9.toNat) l10.length) (
 obind (l10[n9.toNat]?) fun x15 =>
 oif (decide (0≤((i64.wrap (n9 - 1)):Int))) (
 oif (Nat.blt (((i64.wrap (n9 - 1)):Int).toNat) ((l10.set (n9.toNat) x13).length)) (
 obind ((l10.set (n9.toNat) x13)[((i64.wrap (n9 - 1)):Int).toNat]?) fun x16 =>
 ag8 ((i64.wrap (n9 - 1)),((l10.set (n9.toNat) x13).set (((i64.wrap (n9 - 1)):Int).toNat) x14))) none) none) none) none) none) none) none) none) (
 kx134_1_0 n9 n9 (decide (n9 > n2)) b11 l10)
noncomputable def l134_1_b (d:Nat) (n2:Int) (kx134_1_0:Int→Int→Bool→Bool→(List t1)→Option (List t1)) (ag8:(Int×(List t1))→Option (List t1)) (n9:Int) (l10:List t1):Option (List t1) :=
 oif (decide (n9 > n2)) (
 oif (decide (0≤n9)) (
 oif (Nat.blt (n9.toNat) l10.length) (
 obind (l10[n9.toNat]?) fun x11 =>
 oif (decide (0≤((i64.wrap (n9 - 1)):Int))) (
 oif (Nat.blt (((i64.wrap (n9 - 1)):Int).toNat) l10.length) (
 obind (l10[((i64.wrap (n9 - 1)):Int).toNat]?) fun x12 =>
 obind (g82 d x11.1 x12.1) fun r13 =>
 j134_2 d kx134_1_0 n2 ag8 n9 l10 true (decide (r13 < 0))) none) none) none) none) (
 j134_2 d kx134_1_0 n2 ag8 n9 l10 false false)
noncomputable def l134_1 (d:Nat) (n2:Int) (kx134_1_0:Int→Int→Bool→Bool→(List t1)→Option (List t1)) (ag8:(Int×(List t1))→Option (List t1)) (s:(Int×(List t1))):Option (List t1):=l134_1_b d n2 kx134_1_0 ag8 s.1 s.2
noncomputable def l134_0_b (d:Nat) (n2:Int) (n3:Int) (kx134_0_0:(List t1)→Option (List t1)) (ag5:(Int×(List t1))→Option (List t1)) (n6:Int) (l7:List t1):Option (List t1) :=
 oif (decide (n6 < n3)) (
 iterP (l134_1 d n2 (j134_1 d ag5 n6)) fuelN (n6,l7)) (
 kx134_0_0 l7)
noncomputable def l134_0 (d:Nat) (n2:Int) (n3:Int) (kx134_0_0:(List t1)→Option (List t1)) (ag5:(Int×(List t1))→Option (List t1)) (s:(Int×(List t1))):Option (List t1):=l134_0_b d n2 n3 kx134_0_0 ag5 s.1 s.2
theorem Qqn (d:Nat) (l1:List t1) (n2:Int) (n3:Int) (b4:Bool):g134 (d+2) l1 n2 n3 b4 =
 iterP (l134_0 d n2 n3 (j134_0 d)) fuelN ((i64.wrap (n2+1)),l1):=by kernel_rfl
noncomputable def j176_0 (d:Nat) (l7:List t1):Option (List t1) :=
 some l7
noncomputable def l176_0_b (d:Nat) (n2:Int) (n3:Int) (n4:Int) (kx176_0_0:(List t1)→Option (List t1)) (ag6:(Int×(List t1))→Option (List t1)) (n7:Int) (l8:List t1):Option (List t1) :=
 oif (decide (n7 < n4)) (
 oif (decide (0≤((i64.wrap (n3+n7)):Int))) (
 oif (Nat.blt (((i64.wrap (n3+n7)):Int).toNat) l8.length) (
 obind (l8[((i64.wrap (n3+n7)):Int).toNat]?) fun x9 =>
 oif (decide (0≤((i64.wrap (n2+n7)):Int))) (
 oif (Nat.blt (((i64.wrap (n2+n7)):Int).toNat) l8.length) (
 obind (l8[((i64.wrap (n2+n7)):Int).toNat]?) fun x10 =>
 oif (decide (0≤((i64.wrap (n2+n7)):Int))) (
 oif (Nat.blt (((i64.wrap (n2+n7)):Int).toNat) l8.length) (
 obind (l8[((i64.wrap (n2+n7)):Int).toNat]?) fun x11 =>
 oif (decide (0≤((i64.wrap (n3+n7)):Int))) (
 oif (Nat.blt (((i64.wrap (n3+n7)):Int).toNat) ((l8.set (((i64.wrap (n2+n7)):Int).toNat) x9).length)) (
 obind ((l8.set (((i64.wrap (n2+n7)):Int).toNat) x9)[((i64.wrap (n3+n7)):Int).toNat]?) fun x12 =>
 ag6 ((i64.wrap (n7+1)),((l8.set (((i64.wrap (n2+n7)):Int).toNat) x9).set (((i64.wrap (n3+n7)):Int).toNat) x10))) none) none) none) none) none) none) none) none) (
 kx176_0_0 l8)
noncomputable def l176_0 (d:Nat) (n2:Int) (n3:Int) (n4:Int) (kx176_0_0:(List t1)→Option (List t1)) (ag6:(Int×(List t1))→Option (List t1)) (s:(Int×(List t1))):Option (List t1):=l176_0_b d n2 n3 n4 kx176_0_0 ag6 s.1 s.2
theorem Qqo (d:Nat) (l1:List t1) (n2:Int) (n3:Int) (n4:Int) (b5:Bool):g176 (d+1) l1 n2 n3 n4 b5 =
 iterP (l176_0 d n2 n3 n4 (j176_0 d)) fuelN (0,l1):=by kernel_rfl
noncomputable def j163_0 (d:Nat) (n3:Int) (n7:Int) (l8:List t1):Option (List t1) :=
 obind (g176 d l8 (i64.wrap (n3 - n7)) n3 n7 false) fun r9 =>
 some r9
noncomputable def l163_0_b (d:Nat) (n3:Int) (kx163_0_0:Int→(List t1)→Option (List t1)) (ag6:(Int×Int×(List t1))→Option (List t1)) (n7:Int) (n8:Int) (l9:List t1):Option (List t1) :=
 oif (n7 != n8) (
 oif (decide (n7 > n8)) (
 obind (g176 d l9 (i64.wrap (n3 - n7)) n3 n8 false) fun r10 =>
 ag6 ((i64.wrap (n7 - n8)),n8,r10)) (
 obind (g176 d l9 (i64.wrap (n3 - n7)) (i64.wrap ((i64.wrap (n3+n8)) - n7)) n7 false) fun r11 =>
 ag6 (n7,(i64.wrap (n8 - n7)),r11))) (
 kx163_0_0 n7 l9)
noncomputable def l163_0 (d:Nat) (n3:Int) (kx163_0_0:Int→(List t1)→Option (List t1)) (ag6:(Int×Int×(List t1))→Option (List t1)) (s:(Int×Int×(List t1))):Option (List t1):=l163_0_b d n3 kx163_0_0 ag6 s.1 s.2.1 s.2.2
theorem Qqp (d:Nat) (l1:List t1) (n2:Int) (n3:Int) (n4:Int) (b5:Bool):g163 (d+1) l1 n2 n3 n4 b5 =
 iterP (l163_0 d n3 (j163_0 d n3)) fuelN ((i64.wrap (n3 - n2)),(i64.wrap (n4 - n3)),l1):=by kernel_rfl
noncomputable def j135_0 (d:Nat) (l9:List t1):Option (List t1) :=
 some l9
noncomputable def l135_1_b (d:Nat) (n7:Int) (kx135_1_0:(List t1)→Option (List t1)) (ag8:(Int×(List t1))→Option (List t1)) (n9:Int) (l10:List t1):Option (List t1) :=
 oif (decide (n9 < (i64.wrap (n7 - 1)))) (
 oif (decide (0≤((i64.wrap (n9+1)):Int))) (
 oif (Nat.blt (((i64.wrap (n9+1)):Int).toNat) l10.length) (
 obind (l10[((i64.wrap (n9+1)):Int).toNat]?) fun x11 =>
 oif (decide (0≤n9)) (
 oif (Nat.blt (n9.toNat) l10.length) (
 obind (l10[n9.toNat]?) fun x12 =>
 oif (decide (0≤n9)) (
 oif (Nat.blt (n9.toNat) l10.length) (
 obind (l10[n9.toNat]?) fun x13 =>
 oif (decide (0≤((i64.wrap (n9+1)):Int))) (
 oif (Nat.blt (((i64.wrap (n9+1)):Int).toNat) ((l10.set (n9.toNat) x11).length)) (
 obind ((l10.set (n9.toNat) x11)[((i64.wrap (n9+1)):Int).toNat]?) fun x14 =>
 ag8 ((i64.wrap (n9+1)),((l10.set (n9.toNat) x11).set (((i64.wrap (n9+1)):Int).toNat) x12))) none) none) none) none) none) none) none) none) (
 kx135_1_0 l10)
noncomputable def l135_1 (d:Nat) (n7:Int) (kx135_1_0:(List t1)→Option (List t1)) (ag8:(Int×(List t1))→Option (List t1)) (s:(Int×(List t1))):Option (List t1):=l135_1_b d n7 kx135_1_0 ag8 s.1 s.2
noncomputable def j135_1 (d:Nat) (l1:List t1) (n2:Int) (n7:Int):Option (List t1) :=
 iterP (l135_1 d n7 (j135_0 d)) fuelN (n2,l1)
noncomputable def l135_0_b (d:Nat) (l1:List t1) (n2:Int) (kx135_0_0:Int→Option (List t1)) (ag6:t8→Option (List t1)) (n7:Int) (n8:Int):Option (List t1) :=
 oif (decide (n7 < n8)) (
 oif (decide (0≤((i64.wrap ((u64.wrap (i64.wrap (n7+n8))).fdiv (2 ^ (min (1:Int).toNat u64.bits)))):Int))) (
 oif (Nat.blt (((i64.wrap ((u64.wrap (i64.wrap (n7+n8))).fdiv (2 ^ (min (1:Int).toNat u64.bits)))):Int).toNat) l1.length) (
 obind (l1[((i64.wrap ((u64.wrap (i64.wrap (n7+n8))).fdiv (2 ^ (min (1:Int).toNat u64.bits)))):Int).toNat]?) fun x9 =>
 oif (decide (0≤n2)) (
 oif (Nat.blt (n2.toNat) l1.length) (
 obind (l1[n2.toNat]?) fun x10 =>
 obind (g82 d x9.1 x10.1) fun r11 =>
 oif (decide (r11 < 0)) (
 ag6 ((i64.wrap ((i64.wrap ((u64.wrap (i64.wrap (n7+n8))).fdiv (2 ^ (min (1:Int).toNat u64.bits))))+1)),n8)) (
 ag6 (n7,(i64.wrap ((u64.wrap (i64.wrap (n7+n8))).fdiv (2 ^ (min (1:Int).toNat u64.bits))))))) none) none) none) none) (
 kx135_0_0 n7)
noncomputable def l135_0 (d:Nat) (l1:List t1) (n2:Int) (kx135_0_0:Int→Option (List t1)) (ag6:t8→Option (List t1)) (s:t8):Option (List t1):=l135_0_b d l1 n2 kx135_0_0 ag6 s.1 s.2
noncomputable def j135_2 (d:Nat) (l18:List t1):Option (List t1) :=
 some l18
noncomputable def l135_3_b (d:Nat) (n16:Int) (kx135_3_0:(List t1)→Option (List t1)) (ag17:(Int×(List t1))→Option (List t1)) (n18:Int) (l19:List t1):Option (List t1) :=
 oif (decide (n18 > n16)) (
 oif (decide (0≤((i64.wrap (n18 - 1)):Int))) (
 oif (Nat.blt (((i64.wrap (n18 - 1)):Int).toNat) l19.length) (
 obind (l19[((i64.wrap (n18 - 1)):Int).toNat]?) fun x20 =>
 oif (decide (0≤n18)) (
 oif (Nat.blt (n18.toNat) l19.length) (
 obind (l19[n18.toNat]?) fun x21 =>
 oif (decide (0≤n18)) (
 oif (Nat.blt (n18.toNat) l19.length) (
 obind (l19[n18.toNat]?) fun x22 =>
 oif (decide (0≤((i64.wrap (n18 - 1)):Int))) (
 oif (Nat.blt (((i64.wrap (n18 - 1)):Int).toNat) ((l19.set (n18.toNat) x20).length)) (
 obind ((l19.set (n18.toNat) x20)[((i64.wrap (n18 - 1)):Int).toNat]?) fun x23 =>
 ag17 ((i64.wrap (n18 - 1)),((l19.set (n18.toNat) x20).set (((i64.wrap (n18 - 1)):Int).toNat) x21))) none) none) none) none) none) none) none) none) (
 kx135_3_0 l19)
noncomputable def l135_3 (d:Nat) (n16:Int) (kx135_3_0:(List t1)→Option (List t1)) (ag17:(Int×(List t1))→Option (List t1)) (s:(Int×(List t1))):Option (List t1):=l135_3_b d n16 kx135_3_0 ag17 s.1 s.2
noncomputable def j135_3 (d:Nat) (l1:List t1) (n3:Int) (n16:Int):Option (List t1) :=
 iterP (l135_3 d n16 (j135_2 d)) fuelN (n3,l1)
noncomputable def l135_2_b (d:Nat) (l1:List t1) (n3:Int) (kx135_2_0:Int→Option (List t1)) (ag15:t8→Option (List t1)) (n16:Int) (n17:Int):Option (List t1) :=
 oif (decide (n16 < n17)) (
 oif (decide (0≤n3)) (
 oif (Nat.blt (n3.toNat) l1.length) (
 obind (l1[n3.toNat]?) fun x18 =>
 oif (decide (0≤((i64.wrap ((u64.wrap (i64.wrap (n16+n17))).fdiv (2 ^ (min (1:Int).toNat u64.bits)))):Int))) (
 oif (Nat.blt (((i64.wrap ((u64.wrap (i64.wrap (n16+n17))).fdiv (2 ^ (min (1:Int).toNat u64.bits)))):Int).toNat) l1.length) (
 obind (l1[((i64.wrap ((u64.wrap (i64.wrap (n16+n17))).fdiv (2 ^ (min (1:Int).toNat u64.bits)))):Int).toNat]?) fun x19 =>
 obind (g82 d x18.1 x19.1) fun r20 =>
 oif (!(decide (r20 < 0))) (
 ag15 ((i64.wrap ((i64.wrap ((u64.wrap (i64.wrap (n16+n17))).fdiv (2 ^ (min (1:Int).toNat u64.bits))))+1)),n17)) (
 ag15 (n16,(i64.wrap ((u64.wrap (i64.wrap (n16+n17))).fdiv (2 ^ (min (1:Int).toNat u64.bits))))))) none) none) none) none) (
 kx135_2_0 n16)
noncomputable def l135_2 (d:Nat) (l1:List t1) (n3:Int) (kx135_2_0:Int→Option (List t1)) (ag15:t8→Option (List t1)) (s:t8):Option (List t1):=l135_2_b d l1 n3 kx135_2_0 ag15 s.1 s.2
noncomputable def j135_4 (d:Nat) (n2:Int) (n3:Int) (n4:Int) (n27:Int) (l31:List t1) (b32:Bool):Option (List t1) :=
 oif b32 (
 obind (g135 (d+1) l31 (i64.wrap ((u64.wrap (i64.wrap (n2+n4))).fdiv (2 ^ (min (1:Int).toNat u64.bits)))) (i64.wrap ((i64.wrap ((i64.wrap ((u64.wrap (i64.wrap (n2+n4))).fdiv (2 ^ (min (1:Int).toNat u64.bits))))+n3)) - n27)) n4 false) fun r33 =>
 some r33) (
 some l31)
noncomputable def j135_5 (d:Nat) (n2:Int) (n3:Int) (n4:Int) (n27:Int) (l31:List t1):Option (List t1) :=
 oif (decide (((i64.wrap ((u64.wrap (i64.wrap (n2+n4))).fdiv (2 ^ (min (1:Int).toNat u64.bits)))):Int) < (i64.wrap ((i64.wrap ((i64.wrap ((u64.wrap (i64.wrap (n2+n4))).fdiv (2 ^ (min (1:Int).toNat u64.bits))))+n3)) - n27)))) (
 j135_4 d n2 n3 n4 n27 l31 (decide (((i64.wrap ((i64.wrap ((i64.wrap ((u64.wrap (i64.wrap (n2+n4))).fdiv (2 ^ (min (1:Int).toNat u64.bits))))+n3)) - n27)):Int) < n4))) (
 j135_4 d n2 n3 n4 n27 l31 false)
noncomputable def j135_6 (d:Nat) (n2:Int) (n3:Int) (n4:Int) (n27:Int) (l29:List t1) (b30:Bool):Option (List t1) :=
 oif b30 (
 obind (g135 (d+1) l29 n2 n27 (i64.wrap ((u64.wrap (i64.wrap (n2+n4))).fdiv (2 ^ (min (1:Int).toNat u64.bits)))) false) fun r31 =>
 j135_5 d n2 n3 n4 n27 r31) (
 j135_5 d n2 n3 n4 n27 l29)
noncomputable def j135_7 (d:Nat) (n2:Int) (n3:Int) (n4:Int) (n27:Int) (l29:List t1):Option (List t1) :=
 oif (decide (n2 < n27)) (
 j135_6 d n2 n3 n4 n27 l29 (decide (n27 < (i64.wrap ((u64.wrap (i64.wrap (n2+n4))).fdiv (2 ^ (min (1:Int).toNat u64.bits))))))) (
 j135_6 d n2 n3 n4 n27 l29 false)
noncomputable def j135_8 (d:Nat) (l1:List t1) (n2:Int) (n3:Int) (n4:Int) (n27:Int) (b28:Bool):Option (List t1) :=
 oif b28 (
 obind (g163 (d+1) l1 n27 n3 (i64.wrap ((i64.wrap ((i64.wrap ((u64.wrap (i64.wrap (n2+n4))).fdiv (2 ^ (min (1:Int).toNat u64.bits))))+n3)) - n27)) false) fun r29 =>
 j135_7 d n2 n3 n4 n27 r29) (
 j135_7 d n2 n3 n4 n27 l1)
noncomputable def j135_9 (d:Nat) (l1:List t1) (n2:Int) (n3:Int) (n4:Int) (n27:Int):Option (List t1) :=
 oif (decide (n27 < n3)) (
 j135_8 d l1 n2 n3 n4 n27 (decide (n3 < (i64.wrap ((i64.wrap ((i64.wrap ((u64.wrap (i64.wrap (n2+n4))).fdiv (2 ^ (min (1:Int).toNat u64.bits))))+n3)) - n27))))) (
 j135_8 d l1 n2 n3 n4 n27 false)
noncomputable def l135_4_b (d:Nat) (l1:List t1) (n2:Int) (n3:Int) (n4:Int) (kx135_4_0:Int→Option (List t1)) (ag26:t8→Option (List t1)) (n27:Int) (n28:Int):Option (List t1) :=
 oif (decide (n27 < n28)) (
 oif (decide (0≤((i64.wrap ((i64.wrap ((i64.wrap ((i64.wrap ((u64.wrap (i64.wrap (n2+n4))).fdiv (2 ^ (min (1:Int).toNat u64.bits))))+n3)) - 1)) - (i64.wrap ((u64.wrap (i64.wrap (n27+n28))).fdiv (2 ^ (min (1:Int).toNat u64.bits)))))):Int))) (
 oif (Nat.blt (((i64.wrap ((i64.wrap ((i64.wrap ((i64.wrap ((u64.wrap (i64.wrap (n2+n4))).fdiv (2 ^ (min (1:Int).toNat u64.bits))))+n3)) - 1)) - (i64.wrap ((u64.wrap (i64.wrap (n27+n28))).fdiv (2 ^ (min (1:Int).toNat u64.bits)))))):Int).toNat) l1.length) (
 obind (l1[((i64.wrap ((i64.wrap ((i64.wrap ((i64.wrap ((u64.wrap (i64.wrap (n2+n4))).fdiv (2 ^ (min (1:Int).toNat u64.bits))))+n3)) - 1)) - (i64.wrap ((u64.wrap (i64.wrap (n27+n28))).fdiv (2 ^ (min (1:Int).toNat u64.bits)))))):Int).toNat]?) fun x29 =>
 oif (decide (0≤((i64.wrap ((u64.wrap (i64.wrap (n27+n28))).fdiv (2 ^ (min (1:Int).toNat u64.bits)))):Int))) (
 oif (Nat.blt (((i64.wrap ((u64.wrap (i64.wrap (n27+n28))).fdiv (2 ^ (min (1:Int).toNat u64.bits)))):Int).toNat) l1.length) (
 obind (l1[((i64.wrap ((u64.wrap (i64.wrap (n27+n28))).fdiv (2 ^ (min (1:Int).toNat u64.bits)))):Int).toNat]?) fun x30 =>
 obind (g82 d x29.1 x30.1) fun r31 =>
 oif (!(decide (r31 < 0))) (
 ag26 ((i64.wrap ((i64.wrap ((u64.wrap (i64.wrap (n27+n28))).fdiv (2 ^ (min (1:Int).toNat u64.bits))))+1)),n28)) (
 ag26 (n27,(i64.wrap ((u64.wrap (i64.wrap (n27+n28))).fdiv (2 ^ (min (1:Int).toNat u64.bits))))))) none) none) none) none) (
 kx135_4_0 n27)
noncomputable def l135_4 (d:Nat) (l1:List t1) (n2:Int) (n3:Int) (n4:Int) (kx135_4_0:Int→Option (List t1)) (ag26:t8→Option (List t1)) (s:t8):Option (List t1):=l135_4_b d l1 n2 n3 n4 kx135_4_0 ag26 s.1 s.2
noncomputable def j135_10 (d:Nat) (l1:List t1) (n2:Int) (n3:Int) (n4:Int) (n24:Int) (n25:Int):Option (List t1) :=
 iterP (l135_4 d l1 n2 n3 n4 (j135_9 d l1 n2 n3 n4)) fuelN (n24,n25)
theorem Qqq (d:Nat) (l1:List t1) (n2:Int) (n3:Int) (n4:Int) (b5:Bool):g135 (d+2) l1 n2 n3 n4 b5 =
 oif (((i64.wrap (n3 - n2)):Int)==1) (
 iterP (l135_0 d l1 n2 (j135_1 d l1 n2)) fuelN (n3,n4)) (
 oif (((i64.wrap (n4 - n3)):Int)==1) (
 iterP (l135_2 d l1 n3 (j135_3 d l1 n3)) fuelN (n2,n3)) (
 oif (decide (n3 > (i64.wrap ((u64.wrap (i64.wrap (n2+n4))).fdiv (2 ^ (min (1:Int).toNat u64.bits)))))) (
 j135_10 d l1 n2 n3 n4 (i64.wrap ((i64.wrap ((i64.wrap ((u64.wrap (i64.wrap (n2+n4))).fdiv (2 ^ (min (1:Int).toNat u64.bits))))+n3)) - n4)) (i64.wrap ((u64.wrap (i64.wrap (n2+n4))).fdiv (2 ^ (min (1:Int).toNat u64.bits))))) (
 j135_10 d l1 n2 n3 n4 n2 n3))):=by kernel_rfl
noncomputable def j101_0 (d:Nat) (l10:List t1):Option (List t1) :=
 some l10
noncomputable def j101_1 (d:Nat) (n2:Int) (ag9:(Int×Int×Int×(List t1))→Option (List t1)) (n10:Int) (n15:Int) (n16:Int) (n17:Int) (l18:List t1):Option (List t1) :=
 oif (decide (((i64.wrap (n15+n10)):Int) < n2)) (
 obind (g135 d l18 n15 (i64.wrap (n15+n10)) n2 false) fun r19 =>
 ag9 ((i64.wrap (n10*2)),n15,n16,r19)) (
 ag9 ((i64.wrap (n10*2)),n15,n16,l18))
noncomputable def l101_2_b (d:Nat) (n2:Int) (n10:Int) (kx101_2_0:Int→Int→Int→(List t1)→Option (List t1)) (ag14:(Int×Int×(List t1))→Option (List t1)) (n15:Int) (n16:Int) (l17:List t1):Option (List t1) :=
 oif (decide (n16≤n2)) (
 obind (g135 d l17 n15 (i64.wrap (n15+n10)) n16 false) fun r18 =>
 ag14 (n16,(i64.wrap (n16+(i64.wrap ((2:Int)*n10)))),r18)) (
 kx101_2_0 n15 n16 n16 l17)
noncomputable def l101_2 (d:Nat) (n2:Int) (n10:Int) (kx101_2_0:Int→Int→Int→(List t1)→Option (List t1)) (ag14:(Int×Int×(List t1))→Option (List t1)) (s:(Int×Int×(List t1))):Option (List t1):=l101_2_b d n2 n10 kx101_2_0 ag14 s.1 s.2.1 s.2.2
noncomputable def l101_1_b (d:Nat) (n2:Int) (kx101_1_0:(List t1)→Option (List t1)) (ag9:(Int×Int×Int×(List t1))→Option (List t1)) (n10:Int) (n11:Int) (n12:Int) (l13:List t1):Option (List t1) :=
 oif (decide (n10 < n2)) (
 iterP (l101_2 d n2 n10 (j101_1 d n2 ag9 n10)) fuelN (0,(i64.wrap ((2:Int)*n10)),l13)) (
 kx101_1_0 l13)
noncomputable def l101_1 (d:Nat) (n2:Int) (kx101_1_0:(List t1)→Option (List t1)) (ag9:(Int×Int×Int×(List t1))→Option (List t1)) (s:(Int×Int×Int×(List t1))):Option (List t1):=l101_1_b d n2 kx101_1_0 ag9 s.1 s.2.1 s.2.2.1 s.2.2.2
noncomputable def j101_2 (d:Nat) (n2:Int) (n5:Int) (n6:Int) (l7:List t1):Option (List t1) :=
 obind (g134 d l7 n5 n2 false) fun r8 =>
 iterP (l101_1 d n2 (j101_0 d)) fuelN (20,n5,n6,r8)
noncomputable def l101_0_b (d:Nat) (n2:Int) (kx101_0_0:Int→Int→(List t1)→Option (List t1)) (ag4:(Int×Int×(List t1))→Option (List t1)) (n5:Int) (n6:Int) (l7:List t1):Option (List t1) :=
 oif (decide (n6≤n2)) (
 obind (g134 d l7 n5 n6 false) fun r8 =>
 ag4 (n6,(i64.wrap (n6+20)),r8)) (
 kx101_0_0 n5 n6 l7)
noncomputable def l101_0 (d:Nat) (n2:Int) (kx101_0_0:Int→Int→(List t1)→Option (List t1)) (ag4:(Int×Int×(List t1))→Option (List t1)) (s:(Int×Int×(List t1))):Option (List t1):=l101_0_b d n2 kx101_0_0 ag4 s.1 s.2.1 s.2.2
theorem Qqr (d:Nat) (l1:List t1) (n2:Int) (b3:Bool):g101 (d+1) l1 n2 b3 =
 iterP (l101_0 d n2 (j101_2 d n2)) fuelN (0,20,l1):=by kernel_rfl
theorem e80 (d:Nat) (l1:List t1) (b2:Bool):g80 (d+1) l1 b2 =
 obind (g101 d l1 (l1.length:Int) false) fun r3 =>
 some r3:=by kernel_rfl
noncomputable def j50_0 (d:Nat) (x1:t0) (r2:List t1) (r3:List t5) (b4:Bool):Option t2 :=
 oif b4 (
 oif (decide (0≤x1.2.2.2.2.2.2.2.2)) (
 obind (x1.2.1[x1.2.2.2.2.2.2.2.2.toNat]?) fun x5 =>
 obind (g80 d r2 false) fun r6 =>
 some (x1.1,r6,r3,x5.1)) none) (
 obind (g80 d r2 false) fun r7 =>
 some (x1.1,r7,r3,0))
theorem e50 (d:Nat) (x1:t0):g50 (d+1) x1 =
 obind (g78 d x1.2.1) fun r2 =>
 obind (g79 d x1.2.2.2.2.2.2.1) fun r3 =>
 oif (decide (x1.2.2.2.2.2.2.2.2≥0)) (
 j50_0 d x1 r2 r3 (decide (x1.2.2.2.2.2.2.2.2 < (x1.2.1.length:Int)))) (
 j50_0 d x1 r2 r3 false):=by kernel_rfl
theorem Qqs (d:Nat) (n1:Int):g136 (d+1) n1 =
 oif (decide (n1≥97)) (
 some (decide (n1≤122))) (
 some false):=by kernel_rfl
noncomputable def j137_0 (d:Nat) (b3:Bool):Option Bool :=
 some false
noncomputable def l137_0_b (d:Nat) (s1:ByteArray) (kx137_0_0:Bool→Option Bool) (ag2:t7→Option Bool) (b3:Bool) (n4:Int):Option Bool :=
 oif (decide (n4 < 14)) (
 oif (decide (0≤n4)) (
 obind (([(⟨#[113,100,105,115,99]⟩:ByteArray),(⟨#[100,101,102,97,117,108,116]⟩:ByteArray),(⟨#[99,108,97,115,115]⟩:ByteArray),(⟨#[114,97,116,101]⟩:ByteArray),(⟨#[99,101,105,108]⟩:ByteArray),(⟨#[98,117,114,115,116]⟩:ByteArray),(⟨#[99,98,117,114,115,116]⟩:ByteArray),(⟨#[112,114,105,111]⟩:ByteArray),(⟨#[108,105,109,105,116]⟩:ByteArray),(⟨#[102,105,108,116,101,114]⟩:ByteArray),(⟨#[115,111,117,114,99,101]⟩:ByteArray),(⟨#[100,101,115,116]⟩:ByteArray),(⟨#[112,111,114,116]⟩:ByteArray),(⟨#[109,97,114,107]⟩:ByteArray)]:List ByteArray)[n4.toNat]?) fun s5 =>
 oif (s5.toList==s1.toList) (
 some true) (
 ag2 (b3,(i64.wrap (n4+1))))) none) (
 kx137_0_0 b3)
noncomputable def l137_0 (d:Nat) (s1:ByteArray) (kx137_0_0:Bool→Option Bool) (ag2:t7→Option Bool) (s:t7):Option Bool:=l137_0_b d s1 kx137_0_0 ag2 s.1 s.2
theorem Qqt (d:Nat) (s1:ByteArray):g137 (d+1) s1 =
 iterP (l137_0 d s1 (j137_0 d)) fuelN (false,0):=by kernel_rfl
noncomputable def j102_0 (d:Nat) (s1:ByteArray) (b4:Bool):Option Bool :=
 obind (g137 d s1) fun r5 =>
 some (!r5)
noncomputable def l102_0_b (d:Nat) (s1:ByteArray) (kx102_0_0:Bool→Option Bool) (ag3:t7→Option Bool) (b4:Bool) (n5:Int):Option Bool :=
 oif (decide (n5 < (s1.size:Int))) (
 oif (decide (0≤n5)) (
 obind (s1.data.toList[n5.toNat]?) fun c6 =>
 obind (g136 d (c6.toNat:Int)) fun r7 =>
 oif (!r7) (
 some false) (
 ag3 (b4,(i64.wrap (n5+1))))) none) (
 kx102_0_0 b4)
noncomputable def l102_0 (d:Nat) (s1:ByteArray) (kx102_0_0:Bool→Option Bool) (ag3:t7→Option Bool) (s:t7):Option Bool:=l102_0_b d s1 kx102_0_0 ag3 s.1 s.2
noncomputable def j102_1 (d:Nat) (s1:ByteArray) (b2:Bool):Option Bool :=
 oif b2 (
 some false) (
 iterP (l102_0 d s1 (j102_0 d s1)) fuelN (false,0))
theorem Qqu (d:Nat) (s1:ByteArray):g102 (d+1) s1 =
 oif (decide (((s1.size:Int):Int) < 1)) (
 j102_1 d s1 true) (
 j102_1 d s1 (decide (((s1.size:Int):Int) > 8))):=by kernel_rfl
theorem Qqv (d:Nat) (n1:Int):g138 (d+1) n1 =
 oif (decide (n1≥1)) (
 some (decide (n1≤999))) (
 some false):=by kernel_rfl
noncomputable def j103_0 (d:Nat) (x1:t2) (b3:Bool):Option Bool :=
 oif (decide ((x1.2.1.length:Int)≥1)) (
 some (decide ((x1.2.1.length:Int)≤24))) (
 some false)
noncomputable def l103_0_b (d:Nat) (x1:t2) (kx103_0_0:Bool→Option Bool) (ag2:t7→Option Bool) (b3:Bool) (n4:Int):Option Bool :=
 oif (decide (n4 < (x1.2.1.length:Int))) (
 oif (decide (0≤n4)) (
 obind (x1.2.1[n4.toNat]?) fun x5 =>
 obind (g138 d x5.1) fun r6 =>
 oif (!r6) (
 some false) (
 oif (decide (n4 > 0)) (
 oif (decide (0≤((i64.wrap (n4 - 1)):Int))) (
 obind (x1.2.1[((i64.wrap (n4 - 1)):Int).toNat]?) fun x7 =>
 oif (decide (x5.1≤x7.1)) (
 some false) (
 ag2 (b3,(i64.wrap (n4+1))))) none) (
 ag2 (b3,(i64.wrap (n4+1)))))) none) (
 kx103_0_0 b3)
noncomputable def l103_0 (d:Nat) (x1:t2) (kx103_0_0:Bool→Option Bool) (ag2:t7→Option Bool) (s:t7):Option Bool:=l103_0_b d x1 kx103_0_0 ag2 s.1 s.2
theorem Qqw (d:Nat) (x1:t2):g103 (d+1) x1 =
 iterP (l103_0 d x1 (j103_0 d x1)) fuelN (false,0):=by kernel_rfl
noncomputable def j146i141_0 (d:Nat) (n4:Int):Option Int :=
 some (-1)
noncomputable def l146i141_0_b (d:Nat) (x1:t2) (n2:Int) (kx146i141_0_0:Int→Option Int) (ag3:t8→Option Int) (n4:Int) (n5:Int):Option Int :=
 oif (decide (n5 < (x1.2.1.length:Int))) (
 oif (decide (0≤n5)) (
 obind (x1.2.1[n5.toNat]?) fun x6 =>
 oif (x6.1==n2) (
 some n5) (
 ag3 (n4,(i64.wrap (n5+1))))) none) (
 kx146i141_0_0 n4)
noncomputable def l146i141_0 (d:Nat) (x1:t2) (n2:Int) (kx146i141_0_0:Int→Option Int) (ag3:t8→Option Int) (s:t8):Option Int:=l146i141_0_b d x1 n2 kx146i141_0_0 ag3 s.1 s.2
theorem Qqx (d:Nat) (x1:t2) (n2:Int):g146 (d+3) x1 n2 =
 iterP (l146i141_0 d x1 n2 (j146i141_0 d)) fuelN (0,0):=by kernel_rfl
noncomputable def j139_0 (d:Nat) (l3:List Int):Option (List Int) :=
 some l3
noncomputable def j139_1 (d:Nat) (ag2:((List Int)×Int)→Option (List Int)) (l3:List Int) (n4:Int) (b6:Bool) (b7:Bool):Option (List Int) :=
 oif b7 (
 oif (Nat.ble ((l3.length+[n4].length)*8) roomMax) (
 ag2 ((l3++[n4]),(i64.wrap (n4+1)))) none) (
 ag2 (l3,(i64.wrap (n4+1))))
noncomputable def l139_0_b (d:Nat) (x1:t2) (kx139_0_0:(List Int)→Option (List Int)) (ag2:((List Int)×Int)→Option (List Int)) (l3:List Int) (n4:Int):Option (List Int) :=
 oif (decide (n4 < (x1.2.1.length:Int))) (
 oif (decide (0≤n4)) (
 obind (x1.2.1[n4.toNat]?) fun x5 =>
 oif (x5.2.1 != 0) (
 obind (g146 d x1 x5.2.1) fun r6 =>
 j139_1 d ag2 l3 n4 true (decide (r6 < 0))) (
 j139_1 d ag2 l3 n4 false false)) none) (
 kx139_0_0 l3)
noncomputable def l139_0 (d:Nat) (x1:t2) (kx139_0_0:(List Int)→Option (List Int)) (ag2:((List Int)×Int)→Option (List Int)) (s:((List Int)×Int)):Option (List Int):=l139_0_b d x1 kx139_0_0 ag2 s.1 s.2
theorem Qqy (d:Nat) (x1:t2):g139 (d+1) x1 =
 iterP (l139_0 d x1 (j139_0 d)) fuelN (([]:List Int),0):=by kernel_rfl
noncomputable def j104_0 (d:Nat) (x1:t2) (n3:Int):Option Bool :=
 oif (n3==1) (
 obind (g139 d x1) fun r4 =>
 some ((r4.length:Int)==0)) (
 some false)
noncomputable def l104_0_b (d:Nat) (x1:t2) (kx104_0_0:Int→Option Bool) (ag2:t8→Option Bool) (n3:Int) (n4:Int):Option Bool :=
 oif (decide (n4 < (x1.2.1.length:Int))) (
 oif (decide (0≤n4)) (
 obind (x1.2.1[n4.toNat]?) fun x5 =>
 oif (x5.2.1==0) (
 ag2 ((i64.wrap (n3+1)),(i64.wrap (n4+1)))) (
 ag2 (n3,(i64.wrap (n4+1))))) none) (
 kx104_0_0 n3)
noncomputable def l104_0 (d:Nat) (x1:t2) (kx104_0_0:Int→Option Bool) (ag2:t8→Option Bool) (s:t8):Option Bool:=l104_0_b d x1 kx104_0_0 ag2 s.1 s.2
theorem Qqz (d:Nat) (x1:t2):g104 (d+1) x1 =
 iterP (l104_0 d x1 (j104_0 d x1)) fuelN (0,0):=by kernel_rfl
noncomputable def j177_0 (d:Nat) (n4:Int):Option Int :=
 some (-1)
noncomputable def l177_0_b (d:Nat) (l1:List Int) (n2:Int) (kx177_0_0:Int→Option Int) (ag3:t8→Option Int) (n4:Int) (n5:Int):Option Int :=
 oif (decide (n5 < (l1.length:Int))) (
 oif (decide (0≤n5)) (
 obind (l1[n5.toNat]?) fun n6 =>
 oif (n2==n6) (
 some n5) (
 ag3 (n4,(i64.wrap (n5+1))))) none) (
 kx177_0_0 n4)
noncomputable def l177_0 (d:Nat) (l1:List Int) (n2:Int) (kx177_0_0:Int→Option Int) (ag3:t8→Option Int) (s:t8):Option Int:=l177_0_b d l1 n2 kx177_0_0 ag3 s.1 s.2
theorem Qr0 (d:Nat) (l1:List Int) (n2:Int):g177 (d+1) l1 n2 =
 iterP (l177_0 d l1 n2 (j177_0 d)) fuelN (0,0):=by kernel_rfl
theorem Qr1 (d:Nat) (l1:List Int) (n2:Int):g164 (d+1) l1 n2 =
 obind (g177 d l1 n2) fun r3 =>
 some (decide (r3≥0)):=by kernel_rfl
noncomputable def j140_0 (d:Nat) (b4:Bool) (l5:List Int) (l6:List Int):Option ((List Int)×Bool) :=
 some (l6,true)
noncomputable def l140_0_b (d:Nat) (x1:t2) (kx140_0_0:Bool→(List Int)→(List Int)→Option ((List Int)×Bool)) (ag3:(Int×(List Int)×Bool×(List Int))→Option ((List Int)×Bool)) (n4:Int) (l5:List Int) (b6:Bool) (l7:List Int):Option ((List Int)×Bool) :=
 oif (decide (n4≥0)) (
 obind (g164 d l7 n4) fun r8 =>
 oif r8 (
 some (l7,false)) (
 oif (Nat.ble ((l7.length+[n4].length)*8) roomMax) (
 oif (decide (0≤n4)) (
 obind (x1.2.1[n4.toNat]?) fun x9 =>
 obind (g146 d x1 x9.2.1) fun r10 =>
 ag3 (r10,l5,b6,(l7++[n4]))) none) none)) (
 kx140_0_0 b6 l5 l7)
noncomputable def l140_0 (d:Nat) (x1:t2) (kx140_0_0:Bool→(List Int)→(List Int)→Option ((List Int)×Bool)) (ag3:(Int×(List Int)×Bool×(List Int))→Option ((List Int)×Bool)) (s:(Int×(List Int)×Bool×(List Int))):Option ((List Int)×Bool):=l140_0_b d x1 kx140_0_0 ag3 s.1 s.2.1 s.2.2.1 s.2.2.2
theorem Qr2 (d:Nat) (x1:t2) (n2:Int):g140 (d+1) x1 n2 =
 iterP (l140_0 d x1 (j140_0 d)) fuelN (n2,[],false,([]:List Int)):=by kernel_rfl
noncomputable def j105_0 (d:Nat) (b3:Bool):Option Bool :=
 some true
noncomputable def l105_0_b (d:Nat) (x1:t2) (kx105_0_0:Bool→Option Bool) (ag2:t7→Option Bool) (b3:Bool) (n4:Int):Option Bool :=
 oif (decide (n4 < (x1.2.1.length:Int))) (
 obind (g140 d x1 n4) fun r5 =>
 oif (!r5.2) (
 some false) (
 oif (decide ((r5.1.length:Int) > 8)) (
 some false) (
 oif (decide (0≤((i64.wrap ((r5.1.length:Int) - 1)):Int))) (
 oif (Nat.blt (((i64.wrap ((r5.1.length:Int) - 1)):Int).toNat) r5.1.length) (
 obind (r5.1[((i64.wrap ((r5.1.length:Int) - 1)):Int).toNat]?) fun n6 =>
 oif (decide (0≤n6)) (
 obind (x1.2.1[n6.toNat]?) fun x7 =>
 oif (x7.2.1 != 0) (
 some false) (
 ag2 (b3,(i64.wrap (n4+1))))) none) none) none))) (
 kx105_0_0 b3)
noncomputable def l105_0 (d:Nat) (x1:t2) (kx105_0_0:Bool→Option Bool) (ag2:t7→Option Bool) (s:t7):Option Bool:=l105_0_b d x1 kx105_0_0 ag2 s.1 s.2
theorem Qr3 (d:Nat) (x1:t2):g105 (d+1) x1 =
 iterP (l105_0 d x1 (j105_0 d)) fuelN (false,0):=by kernel_rfl
theorem Qr4 (d:Nat) (x1:t1):g108 (d+1) x1 =
 oif (decide (x1.2.2.1≥1)) (
 oif (decide (x1.2.2.1≤100000)) (
 oif (decide (x1.2.2.2.1≥x1.2.2.1)) (
 some (decide (x1.2.2.2.1≤100000))) (
 some false)) (
 some false)) (
 some false):=by kernel_rfl
noncomputable def j109i106i141_0 (d:Nat) (n3:Int):Option Bool :=
 some (!(decide (((-1):Int)≥0)))
noncomputable def l109i106i141_0_b (d:Nat) (x1:t2) (kx109i106i141_0_0:Int→Option Bool) (ag2:t8→Option Bool) (n3:Int) (n4:Int):Option Bool :=
 oif (decide (n4 < (x1.2.1.length:Int))) (
 oif (decide (0≤n4)) (
 obind (x1.2.1[n4.toNat]?) fun x5 =>
 oif (decide (x5.2.2.1 < 0)) (
 some (!(decide (n4≥0)))) (
 oif (decide (x5.2.2.1 > 1000000000)) (
 some (!(decide (n4≥0)))) (
 ag2 (n3,(i64.wrap (n4+1)))))) none) (
 kx109i106i141_0_0 n3)
noncomputable def l109i106i141_0 (d:Nat) (x1:t2) (kx109i106i141_0_0:Int→Option Bool) (ag2:t8→Option Bool) (s:t8):Option Bool:=l109i106i141_0_b d x1 kx109i106i141_0_0 ag2 s.1 s.2
theorem Qr5 (d:Nat) (x1:t2):g109 (d+4) x1 =
 iterP (l109i106i141_0 d x1 (j109i106i141_0 d)) fuelN (0,0):=by kernel_rfl
noncomputable def j151_0 (d:Nat) (l4:List Int):Option (List Int) :=
 some l4
noncomputable def l151_0_b (d:Nat) (x1:t2) (n2:Int) (kx151_0_0:(List Int)→Option (List Int)) (ag3:((List Int)×Int)→Option (List Int)) (l4:List Int) (n5:Int):Option (List Int) :=
 oif (decide (n5 < (x1.2.1.length:Int))) (
 oif (decide (0≤n5)) (
 obind (x1.2.1[n5.toNat]?) fun x6 =>
 oif (decide (0≤n2)) (
 obind (x1.2.1[n2.toNat]?) fun x7 =>
 oif (x6.2.1==x7.1) (
 oif (Nat.ble ((l4.length+[n5].length)*8) roomMax) (
 ag3 ((l4++[n5]),(i64.wrap (n5+1)))) none) (
 ag3 (l4,(i64.wrap (n5+1))))) none) none) (
 kx151_0_0 l4)
noncomputable def l151_0 (d:Nat) (x1:t2) (n2:Int) (kx151_0_0:(List Int)→Option (List Int)) (ag3:((List Int)×Int)→Option (List Int)) (s:((List Int)×Int)):Option (List Int):=l151_0_b d x1 n2 kx151_0_0 ag3 s.1 s.2
theorem Qr6 (d:Nat) (x1:t2) (n2:Int):g151 (d+1) x1 n2 =
 iterP (l151_0 d x1 n2 (j151_0 d)) fuelN (([]:List Int),0):=by kernel_rfl
noncomputable def j143_0 (d:Nat) (n5:Int):Option Int :=
 some n5
noncomputable def l143_0_b (d:Nat) (x1:t2) (r3:List Int) (kx143_0_0:Int→Option Int) (ag4:t8→Option Int) (n5:Int) (n6:Int):Option Int :=
 oif (decide (n6 < (r3.length:Int))) (
 oif (decide (0≤n6)) (
 oif (Nat.blt (n6.toNat) r3.length) (
 obind (r3[n6.toNat]?) fun n7 =>
 oif (decide (0≤n7)) (
 obind (x1.2.1[n7.toNat]?) fun x8 =>
 ag4 ((i64.wrap (n5+x8.2.2.1)),(i64.wrap (n6+1)))) none) none) none) (
 kx143_0_0 n5)
noncomputable def l143_0 (d:Nat) (x1:t2) (r3:List Int) (kx143_0_0:Int→Option Int) (ag4:t8→Option Int) (s:t8):Option Int:=l143_0_b d x1 r3 kx143_0_0 ag4 s.1 s.2
theorem Qr7 (d:Nat) (x1:t2) (n2:Int):g143 (d+1) x1 n2 =
 obind (g151 d x1 n2) fun r3 =>
 iterP (l143_0 d x1 r3 (j143_0 d)) fuelN (0,0):=by kernel_rfl
noncomputable def j110_0 (d:Nat) (l3:List Int):Option (List Int) :=
 some l3
noncomputable def l110_0_b (d:Nat) (x1:t2) (kx110_0_0:(List Int)→Option (List Int)) (ag2:((List Int)×Int)→Option (List Int)) (l3:List Int) (n4:Int):Option (List Int) :=
 oif (decide (n4 < (x1.2.1.length:Int))) (
 oif (decide (0≤n4)) (
 obind (x1.2.1[n4.toNat]?) fun x5 =>
 obind (g143 d x1 n4) fun r6 =>
 oif (decide (r6 > x5.2.2.1)) (
 oif (Nat.ble ((l3.length+[n4].length)*8) roomMax) (
 ag2 ((l3++[n4]),(i64.wrap (n4+1)))) none) (
 ag2 (l3,(i64.wrap (n4+1))))) none) (
 kx110_0_0 l3)
noncomputable def l110_0 (d:Nat) (x1:t2) (kx110_0_0:(List Int)→Option (List Int)) (ag2:((List Int)×Int)→Option (List Int)) (s:((List Int)×Int)):Option (List Int):=l110_0_b d x1 kx110_0_0 ag2 s.1 s.2
theorem Qr8 (d:Nat) (x1:t2):g110 (d+1) x1 =
 iterP (l110_0 d x1 (j110_0 d)) fuelN (([]:List Int),0):=by kernel_rfl
theorem Qr9 (d:Nat) (x1:t1):g112 (d+1) x1 =
 oif (decide (x1.2.2.2.2.1≥1500)) (
 oif (decide (x1.2.2.2.2.1≤1000000)) (
 oif (decide (x1.2.2.2.2.2.1≥1500)) (
 oif (decide (x1.2.2.2.2.2.1≤1000000)) (
 oif (decide (x1.2.2.2.2.2.2.1≥0)) (
 some (decide (x1.2.2.2.2.2.2.1≤7))) (
 some false)) (
 some false)) (
 some false)) (
 some false)) (
 some false):=by kernel_rfl
noncomputable def j144i106i141_0 (d:Nat) (n4:Int):Option Bool :=
 some (!(decide (((-1):Int)≥0)))
noncomputable def l144i106i141_0_b (d:Nat) (x1:t2) (n2:Int) (kx144i106i141_0_0:Int→Option Bool) (ag3:t8→Option Bool) (n4:Int) (n5:Int):Option Bool :=
 oif (decide (n5 < (x1.2.1.length:Int))) (
 oif (decide (0≤n5)) (
 obind (x1.2.1[n5.toNat]?) fun x6 =>
 oif (decide (0≤n2)) (
 obind (x1.2.1[n2.toNat]?) fun x7 =>
 oif (x6.2.1==x7.1) (
 some (!(decide (n5≥0)))) (
 ag3 (n4,(i64.wrap (n5+1))))) none) none) (
 kx144i106i141_0_0 n4)
noncomputable def l144i106i141_0 (d:Nat) (x1:t2) (n2:Int) (kx144i106i141_0_0:Int→Option Bool) (ag3:t8→Option Bool) (s:t8):Option Bool:=l144i106i141_0_b d x1 n2 kx144i106i141_0_0 ag3 s.1 s.2
theorem Qra (d:Nat) (x1:t2) (n2:Int):g144 (d+4) x1 n2 =
 iterP (l144i106i141_0 d x1 n2 (j144i106i141_0 d)) fuelN (0,0):=by kernel_rfl
theorem Qrb (d:Nat) (x1:t2) (n2:Int):g113 (d+1) x1 n2 =
 oif (decide (0≤n2)) (
 obind (x1.2.1[n2.toNat]?) fun x3 =>
 obind (g144 d x1 n2) fun r4 =>
 oif r4 (
 oif (decide (x3.2.2.2.2.2.2.2≥1)) (
 some (decide (x3.2.2.2.2.2.2.2≤60))) (
 some false)) (
 some (x3.2.2.2.2.2.2.2==0))) none:=by kernel_rfl
theorem Qrc (d:Nat) (x1:t2) (n2:Int):g115 (d+1) x1 n2 =
 obind (g146 d x1 n2) fun r3 =>
 oif (decide (r3≥0)) (
 obind (g144 d x1 r3) fun r4 =>
 some r4) (
 some false):=by kernel_rfl
theorem Qrd (d:Nat) (x1:t5):g145 (d+1) x1 =
 oif (decide (x1.1≥1)) (
 oif (decide (x1.1≤99)) (
 oif (decide (x1.2.1≥0)) (
 oif (decide (x1.2.1≤3)) (
 oif (decide (x1.2.2.1≥0)) (
 oif (decide (x1.2.2.1≤65535)) (
 oif (decide (x1.2.2.2.1≥0)) (
 oif (decide (x1.2.2.2.1≤65535)) (
 some (((i64.wrap ((BitVec.ofInt i64.bits x1.2.2.2.1 &&& ~~~BitVec.ofInt i64.bits x1.2.2.1).toNat:Int)):Int)==0)) (
 some false)) (
 some false)) (
 some false)) (
 some false)) (
 some false)) (
 some false)) (
 some false)) (
 some false):=by kernel_rfl
noncomputable def j114_0 (d:Nat) (x1:t2) (b3:Bool):Option Bool :=
 some (decide ((x1.2.2.1.length:Int)≤16))
noncomputable def j114_1 (d:Nat) (ag2:t7→Option Bool) (b3:Bool) (n4:Int) (b6:Bool) (b7:Bool) (b8:Bool) (b9:Bool) (b10:Bool) (b11:Bool):Option Bool :=
 oif b11 (
 some false) (
 ag2 (b3,(i64.wrap (n4+1))))
noncomputable def l114_0_b (d:Nat) (x1:t2) (kx114_0_0:Bool→Option Bool) (ag2:t7→Option Bool) (b3:Bool) (n4:Int):Option Bool :=
 oif (decide (n4 < (x1.2.2.1.length:Int))) (
 oif (decide (0≤n4)) (
 obind (x1.2.2.1[n4.toNat]?) fun x5 =>
 obind (g145 d x5) fun r6 =>
 oif (!r6) (
 j114_1 d ag2 b3 n4 r6 (!r6) true true true true) (
 oif (decide (n4 > 0)) (
 oif (decide (0≤((i64.wrap (n4 - 1)):Int))) (
 obind (x1.2.2.1[((i64.wrap (n4 - 1)):Int).toNat]?) fun x7 =>
 oif (decide (x5.1≤x7.1)) (
 j114_1 d ag2 b3 n4 r6 (!r6) false (decide (x5.1≤x7.1)) true true) (
 obind (g115 d x1 x5.2.2.2.2) fun r8 =>
 j114_1 d ag2 b3 n4 r6 (!r6) false (decide (x5.1≤x7.1)) false (!r8))) none) (
 obind (g115 d x1 x5.2.2.2.2) fun r9 =>
 j114_1 d ag2 b3 n4 r6 (!r6) false false false (!r9)))) none) (
 kx114_0_0 b3)
noncomputable def l114_0 (d:Nat) (x1:t2) (kx114_0_0:Bool→Option Bool) (ag2:t7→Option Bool) (s:t7):Option Bool:=l114_0_b d x1 kx114_0_0 ag2 s.1 s.2
theorem Qre (d:Nat) (x1:t2):g114 (d+1) x1 =
 iterP (l114_0 d x1 (j114_0 d x1)) fuelN (false,0):=by kernel_rfl
noncomputable def j83i106i141_0 (d:Nat) (n8:Int):Option Bool :=
 some (!(decide (((-1):Int)≥0)))
noncomputable def l83i106i141_0_b (d:Nat) (x1:t2) (kx83i106i141_0_0:Int→Option Bool) (ag7:t8→Option Bool) (n8:Int) (n9:Int):Option Bool :=
 oif (decide (n9 < (x1.2.1.length:Int))) (
 oif (decide (0≤n9)) (
 obind (x1.2.1[n9.toNat]?) fun x10 =>
 obind (g108 d x10) fun r11 =>
 oif (!r11) (
 some (!(decide (n9≥0)))) (
 ag7 (n8,(i64.wrap (n9+1))))) none) (
 kx83i106i141_0_0 n8)
noncomputable def l83i106i141_0 (d:Nat) (x1:t2) (kx83i106i141_0_0:Int→Option Bool) (ag7:t8→Option Bool) (s:t8):Option Bool:=l83i106i141_0_b d x1 kx83i106i141_0_0 ag7 s.1 s.2
noncomputable def j83i106i141_1 (d:Nat) (n15:Int):Option Bool :=
 some (!(decide (((-1):Int)≥0)))
noncomputable def l83i106i141_0x_b (d:Nat) (x1:t2) (kx83i106i141_0_0:Int→Option Bool) (ag14:t8→Option Bool) (n15:Int) (n16:Int):Option Bool :=
 oif (decide (n16 < (x1.2.1.length:Int))) (
 oif (decide (0≤n16)) (
 obind (x1.2.1[n16.toNat]?) fun x17 =>
 obind (g112 d x17) fun r18 =>
 oif (!r18) (
 some (!(decide (n16≥0)))) (
 ag14 (n15,(i64.wrap (n16+1))))) none) (
 kx83i106i141_0_0 n15)
noncomputable def l83i106i141_0x (d:Nat) (x1:t2) (kx83i106i141_0_0:Int→Option Bool) (ag14:t8→Option Bool) (s:t8):Option Bool:=l83i106i141_0x_b d x1 kx83i106i141_0_0 ag14 s.1 s.2
noncomputable def j83_0 (d:Nat) (b20:Bool):Option Bool :=
 some true
noncomputable def l83_0_b (d:Nat) (x1:t2) (kx83_0_0:Bool→Option Bool) (ag19:t7→Option Bool) (b20:Bool) (n21:Int):Option Bool :=
 oif (decide (n21 < (x1.2.1.length:Int))) (
 obind (g113 (d+3) x1 n21) fun r22 =>
 oif (!r22) (
 some false) (
 ag19 (b20,(i64.wrap (n21+1))))) (
 kx83_0_0 b20)
noncomputable def l83_0 (d:Nat) (x1:t2) (kx83_0_0:Bool→Option Bool) (ag19:t7→Option Bool) (s:t7):Option Bool:=l83_0_b d x1 kx83_0_0 ag19 s.1 s.2
theorem e83 (d:Nat) (x1:t2) (n2:Int):g83 (d+4) x1 n2 =
 oif (n2==1) (
 obind (g102 (d+3) x1.1) fun r3 =>
 some r3) (
 oif (n2==2) (
 obind (g103 (d+3) x1) fun r4 =>
 some r4) (
 oif (n2==3) (
 obind (g104 (d+3) x1) fun r5 =>
 some r5) (
 oif (n2==4) (
 obind (g105 (d+3) x1) fun r6 =>
 some r6) (
 oif (n2==5) (
 iterP (l83i106i141_0 d x1 (j83i106i141_0 d)) fuelN (0,0)) (
 oif (n2==6) (
 obind (g109 (d+3) x1) fun r12 =>
 oif r12 (
 obind (g110 (d+3) x1) fun r13 =>
 some ((r13.length:Int)==0)) (
 some false)) (
 oif (n2==7) (
 iterP (l83i106i141_0x d x1 (j83i106i141_1 d)) fuelN (0,0)) (
 oif (n2==8) (
 iterP (l83_0 d x1 (j83_0 d)) fuelN (false,0)) (
 oif (n2==9) (
 obind (g114 (d+3) x1) fun r23 =>
 some r23) (
 oif (x1.2.2.2==0) (
 some true) (
 obind (g115 (d+3) x1 x1.2.2.2) fun r24 =>
 some r24)))))))))):=by kernel_rfl
noncomputable def j51_0 (d:Nat) (b4:Bool):Option Bool :=
 some true
noncomputable def l51_0_b (d:Nat) (x1:t2) (kx51_0_0:Bool→Option Bool) (ag3:t7→Option Bool) (b4:Bool) (n5:Int):Option Bool :=
 oif (decide (n5≤10)) (
 obind (g83 d x1 n5) fun r6 =>
 oif (!r6) (
 some false) (
 ag3 (b4,(i64.wrap (n5+1))))) (
 kx51_0_0 b4)
noncomputable def l51_0 (d:Nat) (x1:t2) (kx51_0_0:Bool→Option Bool) (ag3:t7→Option Bool) (s:t7):Option Bool:=l51_0_b d x1 kx51_0_0 ag3 s.1 s.2
noncomputable def j51_1 (d:Nat) (x1:t2) (b2:Bool):Option Bool :=
 oif b2 (
 some false) (
 iterP (l51_0 d x1 (j51_0 d)) fuelN (false,1))
theorem e51 (d:Nat) (x1:t2):g51 (d+1) x1 =
 oif (decide ((x1.2.1.length:Int) > 24)) (
 j51_1 d x1 true) (
 j51_1 d x1 (decide ((x1.2.2.1.length:Int) > 16))):=by kernel_rfl
theorem Qrf (d:Nat) (n1:Int) (n2:Int):g156 (d+1) n1 n2 =
 some ((u64.wrap ((u64.wrap ((u64.wrap ((n1.fdiv (2 ^ (min (32:Int).toNat u64.bits)))*(n2.fdiv (2 ^ (min (32:Int).toNat u64.bits)))))+((u64.wrap ((u64.wrap ((n1.fdiv (2 ^ (min (32:Int).toNat u64.bits)))*(u64.wrap ((BitVec.ofInt u64.bits n2 &&& BitVec.ofInt u64.bits 4294967295).toNat:Int))))+((u64.wrap ((u64.wrap ((BitVec.ofInt u64.bits n1 &&& BitVec.ofInt u64.bits 4294967295).toNat:Int))*(u64.wrap ((BitVec.ofInt u64.bits n2 &&& BitVec.ofInt u64.bits 4294967295).toNat:Int)))).fdiv (2 ^ (min (32:Int).toNat u64.bits))))).fdiv (2 ^ (min (32:Int).toNat u64.bits)))))+((u64.wrap ((u64.wrap ((BitVec.ofInt u64.bits (u64.wrap ((u64.wrap ((n1.fdiv (2 ^ (min (32:Int).toNat u64.bits)))*(u64.wrap ((BitVec.ofInt u64.bits n2 &&& BitVec.ofInt u64.bits 4294967295).toNat:Int))))+((u64.wrap ((u64.wrap ((BitVec.ofInt u64.bits n1 &&& BitVec.ofInt u64.bits 4294967295).toNat:Int))*(u64.wrap ((BitVec.ofInt u64.bits n2 &&& BitVec.ofInt u64.bits 4294967295).toNat:Int)))).fdiv (2 ^ (min (32:Int).toNat u64.bits))))) &&& BitVec.ofInt u64.bits 4294967295).toNat:Int))+(u64.wrap ((u64.wrap ((BitVec.ofInt u64.bits n1 &&& BitVec.ofInt u64.bits 4294967295).toNat:Int))*(n2.fdiv (2 ^ (min (32:Int).toNat u64.bits))))))).fdiv (2 ^ (min (32:Int).toNat u64.bits))))),(u64.wrap (n1*n2))):=by kernel_rfl
theorem Qrg (d:Nat) (n1:Int) (n2:Int):g121 (d+1) n1 n2 =
 obind (g156 d n1 n2) fun r3 =>
 some (r3.1,r3.2):=by kernel_rfl
noncomputable def j85_0 (d:Nat) (l6:List Int):Option (List Int) :=
 some l6
noncomputable def l85_0_b (d:Nat) (kx85_0_0:(List Int)→Option (List Int)) (ag5:(Int×(List Int))→Option (List Int)) (n6:Int) (l7:List Int):Option (List Int) :=
 oif (decide (n6 < (l7.length:Int))) (
 oif (decide (0≤n6)) (
 oif (Nat.ble (n6.toNat) l7.length) (
 oif (decide (0≤n6)) (
 oif (Nat.ble (n6.toNat) l7.length) (
 ag5 ((i64.wrap (n6+((min (l7.take (n6.toNat)).length (l7.length - (0+n6.toNat)):Nat):Int))),(cpy l7 (0+n6.toNat) (l7.length - (0+n6.toNat)) (l7.take (n6.toNat))))) none) none) none) none) (
 kx85_0_0 l7)
noncomputable def l85_0 (d:Nat) (kx85_0_0:(List Int)→Option (List Int)) (ag5:(Int×(List Int))→Option (List Int)) (s:(Int×(List Int))):Option (List Int):=l85_0_b d kx85_0_0 ag5 s.1 s.2
noncomputable def j85_1 (d:Nat) (l1:List Int) (r3:t8) (b4:Bool):Option (List Int) :=
 oif b4 (
 none) (
 oif (decide (0≤((i64.wrap r3.2):Int))) (
 oif (decide (0≤((i64.wrap r3.2):Int))) (
 oif (Nat.ble (((i64.wrap r3.2):Int).toNat) (((i64.wrap r3.2):Int).toNat)&&Nat.ble ((((i64.wrap r3.2):Int).toNat)*8) roomMax) (
 iterP (l85_0 d (j85_0 d)) fuelN (((min l1.length ((List.replicate (((i64.wrap r3.2):Int).toNat) (0:Int)).length):Nat):Int),(cpy (List.replicate (((i64.wrap r3.2):Int).toNat) (0:Int)) 0 ((List.replicate (((i64.wrap r3.2):Int).toNat) (0:Int)).length) l1))) none) none) none)
theorem e85 (d:Nat) (l1:List Int) (n2:Int):g85 (d+1) l1 n2 =
 oif (decide (n2 < 0)) (
 none) (
 obind (g121 d (u64.wrap (l1.length:Int)) (u64.wrap n2)) fun r3 =>
 oif (decide (r3.1 > 0)) (
 j85_1 d l1 r3 true) (
 j85_1 d l1 r3 (decide (r3.2 > 9223372036854775807)))):=by kernel_rfl
theorem Qrh (d:Nat) (n1:Int):g116 (d+1) n1 =
 itoaV n1:=by kernel_rfl
theorem Qri (d:Nat) (s1:ByteArray) (n2:Int):g148 (d+1) s1 n2 =
 repV s1 n2:=by kernel_rfl
theorem Qrj (d:Nat) (x1:t6) (n2:Int) (s3:ByteArray):g117 (d+1) x1 n2 s3 =
 obind (g148 d (⟨#[32,32]⟩:ByteArray) n2) fun r4 =>
 oif (Nat.ble (r4.size+s3.size) 9223372036854775807) (
 oif (Nat.ble ((x1.2.1.length+[(r4++s3)].length)*16) roomMax) (
 some (x1.1,(x1.2.1++[(r4++s3)]),x1.2.2)) none) none:=by kernel_rfl
noncomputable def j150_0 (d:Nat) (n1:Int) (b4:Bool):Option ByteArray :=
 oif b4 (
 obind (g116 d (i64.wrap (n1.tdiv 1000))) fun r5 =>
 oif (Nat.ble (r5.size+((⟨#[107]⟩:ByteArray):ByteArray).size) 9223372036854775807) (
 some (r5++((⟨#[107]⟩:ByteArray):ByteArray))) none) (
 obind (g116 d n1) fun r6 =>
 some r6)
noncomputable def j150_1 (d:Nat) (n1:Int) (b2:Bool):Option ByteArray :=
 oif b2 (
 obind (g116 d (i64.wrap (n1.tdiv 1000000))) fun r3 =>
 oif (Nat.ble (r3.size+((⟨#[109]⟩:ByteArray):ByteArray).size) 9223372036854775807) (
 some (r3++((⟨#[109]⟩:ByteArray):ByteArray))) none) (
 oif (decide (n1 > 0)) (
 j150_0 d n1 (((n1.tmod 1000):Int)==0)) (
 j150_0 d n1 false))
theorem Qrk (d:Nat) (n1:Int):g150 (d+1) n1 =
 oif (decide (n1 > 0)) (
 j150_1 d n1 (((n1.tmod 1000000):Int)==0)) (
 j150_1 d n1 false):=by kernel_rfl
theorem Qrl (d:Nat) (x1:t1):g149 (d+1) x1 =
 obind (g116 d x1.1) fun r2 =>
 oif (Nat.ble (((⟨#[99,108,97,115,115,32]⟩:ByteArray):ByteArray).size+r2.size) 9223372036854775807) (
 oif (Nat.ble (((((⟨#[99,108,97,115,115,32]⟩:ByteArray):ByteArray)++r2):ByteArray).size+((⟨#[32,114,97,116,101,32]⟩:ByteArray):ByteArray).size) 9223372036854775807) (
 obind (g150 d x1.2.2.1) fun r3 =>
 oif (Nat.ble (((((((⟨#[99,108,97,115,115,32]⟩:ByteArray):ByteArray)++r2):ByteArray)++((⟨#[32,114,97,116,101,32]⟩:ByteArray):ByteArray)):ByteArray).size+r3.size) 9223372036854775807) (
 oif (Nat.ble (((((((((⟨#[99,108,97,115,115,32]⟩:ByteArray):ByteArray)++r2):ByteArray)++((⟨#[32,114,97,116,101,32]⟩:ByteArray):ByteArray)):ByteArray)++r3):ByteArray).size+((⟨#[32,99,101,105,108,32]⟩:ByteArray):ByteArray).size) 9223372036854775807) (
 obind (g150 d x1.2.2.2.1) fun r4 =>
 oif (Nat.ble (((((((((((⟨#[99,108,97,115,115,32]⟩:ByteArray):ByteArray)++r2):ByteArray)++((⟨#[32,114,97,116,101,32]⟩:ByteArray):ByteArray)):ByteArray)++r3):ByteArray)++((⟨#[32,99,101,105,108,32]⟩:ByteArray):ByteArray)):ByteArray).size+r4.size) 9223372036854775807) (
 oif (Nat.ble (((((((((((((⟨#[99,108,97,115,115,32]⟩:ByteArray):ByteArray)++r2):ByteArray)++((⟨#[32,114,97,116,101,32]⟩:ByteArray):ByteArray)):ByteArray)++r3):ByteArray)++((⟨#[32,99,101,105,108,32]⟩:ByteArray):ByteArray)):ByteArray)++r4):ByteArray).size+((⟨#[32,98,117,114,115,116,32]⟩:ByteArray):ByteArray).size) 9223372036854775807) (
 obind (g150 d x1.2.2.2.2.1) fun r5 =>
 oif (Nat.ble (((((((((((((((⟨#[99,108,97,115,115,32]⟩:ByteArray):ByteArray)++r2):ByteArray)++((⟨#[32,114,97,116,101,32]⟩:ByteArray):ByteArray)):ByteArray)++r3):ByteArray)++((⟨#[32,99,101,105,108,32]⟩:ByteArray):ByteArray)):ByteArray)++r4):ByteArray)++((⟨#[32,98,117,114,115,116,32]⟩:ByteArray):ByteArray)):ByteArray).size+r5.size) 9223372036854775807) (
 oif (Nat.ble (((((((((((((((((⟨#[99,108,97,115,115,32]⟩:ByteArray):ByteArray)++r2):ByteArray)++((⟨#[32,114,97,116,101,32]⟩:ByteArray):ByteArray)):ByteArray)++r3):ByteArray)++((⟨#[32,99,101,105,108,32]⟩:ByteArray):ByteArray)):ByteArray)++r4):ByteArray)++((⟨#[32,98,117,114,115,116,32]⟩:ByteArray):ByteArray)):ByteArray)++r5):ByteArray).size+((⟨#[32,99,98,117,114,115,116,32]⟩:ByteArray):ByteArray).size) 9223372036854775807) (
 obind (g150 d x1.2.2.2.2.2.1) fun r6 =>
 oif (Nat.ble (((((((((((((((((((⟨#[99,108,97,115,115,32]⟩:ByteArray):ByteArray)++r2):ByteArray)++((⟨#[32,114,97,116,101,32]⟩:ByteArray):ByteArray)):ByteArray)++r3):ByteArray)++((⟨#[32,99,101,105,108,32]⟩:ByteArray):ByteArray)):ByteArray)++r4):ByteArray)++((⟨#[32,98,117,114,115,116,32]⟩:ByteArray):ByteArray)):ByteArray)++r5):ByteArray)++((⟨#[32,99,98,117,114,115,116,32]⟩:ByteArray):ByteArray)):ByteArray).size+r6.size) 9223372036854775807) (
 oif (Nat.ble (((((((((((((((((((((⟨#[99,108,97,115,115,32]⟩:ByteArray):ByteArray)++r2):ByteArray)++((⟨#[32,114,97,116,101,32]⟩:ByteArray):ByteArray)):ByteArray)++r3):ByteArray)++((⟨#[32,99,101,105,108,32]⟩:ByteArray):ByteArray)):ByteArray)++r4):ByteArray)++((⟨#[32,98,117,114,115,116,32]⟩:ByteArray):ByteArray)):ByteArray)++r5):ByteArray)++((⟨#[32,99,98,117,114,115,116,32]⟩:ByteArray):ByteArray)):ByteArray)++r6):ByteArray).size+((⟨#[32,112,114,105,111,32]⟩:ByteArray):ByteArray).size) 9223372036854775807) (
 obind (g116 d x1.2.2.2.2.2.2.1) fun r7 =>
 oif (Nat.ble (((((((((((((((((((((((⟨#[99,108,97,115,115,32]⟩:ByteArray):ByteArray)++r2):ByteArray)++((⟨#[32,114,97,116,101,32]⟩:ByteArray):ByteArray)):ByteArray)++r3):ByteArray)++((⟨#[32,99,101,105,108,32]⟩:ByteArray):ByteArray)):ByteArray)++r4):ByteArray)++((⟨#[32,98,117,114,115,116,32]⟩:ByteArray):ByteArray)):ByteArray)++r5):ByteArray)++((⟨#[32,99,98,117,114,115,116,32]⟩:ByteArray):ByteArray)):ByteArray)++r6):ByteArray)++((⟨#[32,112,114,105,111,32]⟩:ByteArray):ByteArray)):ByteArray).size+r7.size) 9223372036854775807) (
 some (((((((((((((((((((((((⟨#[99,108,97,115,115,32]⟩:ByteArray):ByteArray)++r2):ByteArray)++((⟨#[32,114,97,116,101,32]⟩:ByteArray):ByteArray)):ByteArray)++r3):ByteArray)++((⟨#[32,99,101,105,108,32]⟩:ByteArray):ByteArray)):ByteArray)++r4):ByteArray)++((⟨#[32,98,117,114,115,116,32]⟩:ByteArray):ByteArray)):ByteArray)++r5):ByteArray)++((⟨#[32,99,98,117,114,115,116,32]⟩:ByteArray):ByteArray)):ByteArray)++r6):ByteArray)++((⟨#[32,112,114,105,111,32]⟩:ByteArray):ByteArray)):ByteArray)++r7)) none) none) none) none) none) none) none) none) none) none) none:=by kernel_rfl
noncomputable def j118_0 (d:Nat) (n2:Int) (s6:ByteArray) (l7:List t1) (l8:List t5) (n9:Int) (l10:List ByteArray) (l11:List Int) (l12:List Int) (l13:List Int):Option t6 :=
 oif (decide (0≤n2)) (
 oif (Nat.blt (n2.toNat) l13.length) (
 obind (l13[n2.toNat]?) fun n14 =>
 some ((s6,l7,l8,n9),l10,l11,l12,(l13.set (n2.toNat) (l10.length:Int)))) none) none
noncomputable def j118_1 (d:Nat) (n2:Int) (n3:Int) (s15:ByteArray) (l16:List t1) (l17:List t5) (n18:Int) (l19:List ByteArray) (l20:List Int) (l21:List Int) (l22:List Int):Option t6 :=
 obind (g117 d ((s15,l16,l17,n18),l19,l20,l21,l22) n3 (⟨#[125]⟩:ByteArray)) fun r23 =>
 j118_0 d n2 r23.1.1 r23.1.2.1 r23.1.2.2.1 r23.1.2.2.2 r23.2.1 r23.2.2.1 r23.2.2.2.1 r23.2.2.2.2
noncomputable def l118_0_b (d:Nat) (n3:Int) (r13:List Int) (kx118_0_0:ByteArray→(List t1)→(List t5)→Int→(List ByteArray)→(List Int)→(List Int)→(List Int)→Option t6) (ag14:(Int×t6)→Option t6) (n15:Int) (x16:t6):Option t6 :=
 oif (decide (n15 < (r13.length:Int))) (
 oif (decide (0≤n15)) (
 oif (Nat.blt (n15.toNat) r13.length) (
 obind (r13[n15.toNat]?) fun n17 =>
 obind (g118 d x16 n17 (i64.wrap (n3+1))) fun r18 =>
 ag14 ((i64.wrap (n15+1)),r18)) none) none) (
 kx118_0_0 x16.1.1 x16.1.2.1 x16.1.2.2.1 x16.1.2.2.2 x16.2.1 x16.2.2.1 x16.2.2.2.1 x16.2.2.2.2)
noncomputable def l118_0 (d:Nat) (n3:Int) (r13:List Int) (kx118_0_0:ByteArray→(List t1)→(List t5)→Int→(List ByteArray)→(List Int)→(List Int)→(List Int)→Option t6) (ag14:(Int×t6)→Option t6) (s:(Int×t6)):Option t6:=l118_0_b d n3 r13 kx118_0_0 ag14 s.1 s.2
theorem Qrm (d:Nat) (x1:t6) (n2:Int) (n3:Int):g118 (d+1) x1 n2 n3 =
 oif (decide (0≤n2)) (
 obind (x1.1.2.1[n2.toNat]?) fun x4 =>
 oif (Nat.ble ((x1.2.2.1.length+[n2].length)*8) roomMax) (
 obind (g144 d x1.1 n2) fun r5 =>
 oif r5 (
 obind (g149 d x4) fun r6 =>
 oif (Nat.ble (r6.size+((⟨#[32,108,105,109,105,116,32]⟩:ByteArray):ByteArray).size) 9223372036854775807) (
 obind (g150 d x4.2.2.2.2.2.2.2) fun r7 =>
 oif (Nat.ble (((r6++((⟨#[32,108,105,109,105,116,32]⟩:ByteArray):ByteArray)):ByteArray).size+r7.size) 9223372036854775807) (
 oif (Nat.ble (((((r6++((⟨#[32,108,105,109,105,116,32]⟩:ByteArray):ByteArray)):ByteArray)++r7):ByteArray).size+((⟨#[59]⟩:ByteArray):ByteArray).size) 9223372036854775807) (
 obind (g117 d (x1.1,x1.2.1,(x1.2.2.1++[n2]),x1.2.2.2) n3 (((((r6++((⟨#[32,108,105,109,105,116,32]⟩:ByteArray):ByteArray)):ByteArray)++r7):ByteArray)++((⟨#[59]⟩:ByteArray):ByteArray))) fun r8 =>
 oif (decide (0≤n2)) (
 oif (Nat.blt (n2.toNat) r8.2.2.2.1.length) (
 obind (r8.2.2.2.1[n2.toNat]?) fun n9 =>
 j118_0 d n2 r8.1.1 r8.1.2.1 r8.1.2.2.1 r8.1.2.2.2 r8.2.1 r8.2.2.1 (r8.2.2.2.1.set (n2.toNat) (r8.2.1.length:Int)) r8.2.2.2.2) none) none) none) none) none) (
 obind (g149 d x4) fun r10 =>
 oif (Nat.ble (r10.size+((⟨#[32,123]⟩:ByteArray):ByteArray).size) 9223372036854775807) (
 obind (g117 d (x1.1,x1.2.1,(x1.2.2.1++[n2]),x1.2.2.2) n3 (r10++((⟨#[32,123]⟩:ByteArray):ByteArray))) fun r11 =>
 oif (decide (0≤n2)) (
 oif (Nat.blt (n2.toNat) r11.2.2.2.1.length) (
 obind (r11.2.2.2.1[n2.toNat]?) fun n12 =>
 obind (g151 d r11.1 n2) fun r13 =>
 iterP (l118_0 d n3 r13 (j118_1 d n2 n3)) fuelN (0,(r11.1,r11.2.1,r11.2.2.1,(r11.2.2.2.1.set (n2.toNat) (r11.2.1.length:Int)),r11.2.2.2.2))) none) none) none)) none) none:=by kernel_rfl
noncomputable def j119i141_0 (d:Nat) (n3:Int):Option Int :=
 some (-1)
noncomputable def l119i141_0_b (d:Nat) (x1:t2) (kx119i141_0_0:Int→Option Int) (ag2:t8→Option Int) (n3:Int) (n4:Int):Option Int :=
 oif (decide (n4 < (x1.2.1.length:Int))) (
 oif (decide (0≤n4)) (
 obind (x1.2.1[n4.toNat]?) fun x5 =>
 oif (x5.2.1==0) (
 some n4) (
 ag2 (n3,(i64.wrap (n4+1))))) none) (
 kx119i141_0_0 n3)
noncomputable def l119i141_0 (d:Nat) (x1:t2) (kx119i141_0_0:Int→Option Int) (ag2:t8→Option Int) (s:t8):Option Int:=l119i141_0_b d x1 kx119i141_0_0 ag2 s.1 s.2
theorem Qrn (d:Nat) (x1:t2):g119 (d+3) x1 =
 iterP (l119i141_0 d x1 (j119i141_0 d)) fuelN (0,0):=by kernel_rfl
noncomputable def j173_0 (d:Nat) (s4:ByteArray):Option (ByteArray×Bool) :=
 oif (Nat.ble (((⟨#[48,120]⟩:ByteArray):ByteArray).size+s4.size) 9223372036854775807) (
 some ((((⟨#[48,120]⟩:ByteArray):ByteArray)++s4),true)) none
noncomputable def j173_1 (d:Nat) (kx173_0_0:ByteArray→Option (ByteArray×Bool)) (ag3:(Int×ByteArray)→Option (ByteArray×Bool)) (n4:Int) (s5:ByteArray) (b6:Bool) (b7:Bool):Option (ByteArray×Bool) :=
 oif b7 (
 oif (decide (0≤((i64.wrap ((i64.wrap ((BitVec.ofInt i64.bits n4 &&& BitVec.ofInt i64.bits 15).toNat:Int))+1)):Int))) (
 oif (decide (0≤((i64.wrap ((BitVec.ofInt i64.bits n4 &&& BitVec.ofInt i64.bits 15).toNat:Int)):Int))) (
 oif (Nat.ble (((i64.wrap ((BitVec.ofInt i64.bits n4 &&& BitVec.ofInt i64.bits 15).toNat:Int)):Int).toNat) (((i64.wrap ((i64.wrap ((BitVec.ofInt i64.bits n4 &&& BitVec.ofInt i64.bits 15).toNat:Int))+1)):Int).toNat)&&Nat.ble (((i64.wrap ((i64.wrap ((BitVec.ofInt i64.bits n4 &&& BitVec.ofInt i64.bits 15).toNat:Int))+1)):Int).toNat) ((⟨#[48,49,50,51,52,53,54,55,56,57,97,98,99,100,101,102]⟩:ByteArray):ByteArray).size) (
 oif (Nat.ble (((((⟨#[48,49,50,51,52,53,54,55,56,57,97,98,99,100,101,102]⟩:ByteArray):ByteArray).extract (((i64.wrap ((BitVec.ofInt i64.bits n4 &&& BitVec.ofInt i64.bits 15).toNat:Int)):Int).toNat) (((i64.wrap ((i64.wrap ((BitVec.ofInt i64.bits n4 &&& BitVec.ofInt i64.bits 15).toNat:Int))+1)):Int).toNat)):ByteArray).size+s5.size) 9223372036854775807) (
 ag3 ((n4.fdiv (2 ^ (min (4:Int).toNat i64.bits))),(((((⟨#[48,49,50,51,52,53,54,55,56,57,97,98,99,100,101,102]⟩:ByteArray):ByteArray).extract (((i64.wrap ((BitVec.ofInt i64.bits n4 &&& BitVec.ofInt i64.bits 15).toNat:Int)):Int).toNat) (((i64.wrap ((i64.wrap ((BitVec.ofInt i64.bits n4 &&& BitVec.ofInt i64.bits 15).toNat:Int))+1)):Int).toNat)):ByteArray)++s5))) none) none) none) none) (
 kx173_0_0 s5)
noncomputable def l173_0_b (d:Nat) (kx173_0_0:ByteArray→Option (ByteArray×Bool)) (ag3:(Int×ByteArray)→Option (ByteArray×Bool)) (n4:Int) (s5:ByteArray):Option (ByteArray×Bool) :=
 oif (decide (n4 > 0)) (
 j173_1 d kx173_0_0 ag3 n4 s5 true true) (
 j173_1 d kx173_0_0 ag3 n4 s5 false (s5.toList==((⟨#[]⟩:ByteArray):ByteArray).toList))
noncomputable def l173_0 (d:Nat) (kx173_0_0:ByteArray→Option (ByteArray×Bool)) (ag3:(Int×ByteArray)→Option (ByteArray×Bool)) (s:(Int×ByteArray)):Option (ByteArray×Bool):=l173_0_b d kx173_0_0 ag3 s.1 s.2
noncomputable def j173_2 (d:Nat) (n1:Int) (b2:Bool):Option (ByteArray×Bool) :=
 oif b2 (
 some ((⟨#[]⟩:ByteArray),false)) (
 iterP (l173_0 d (j173_0 d)) fuelN (n1,(⟨#[]⟩:ByteArray)))
theorem Qro (d:Nat) (n1:Int):g173 (d+1) n1 =
 oif (decide (n1 < 0)) (
 j173_2 d n1 true) (
 j173_2 d n1 (decide (n1 > 4294967295))):=by kernel_rfl
theorem Qrp (d:Nat) (n1:Int):g153 (d+1) n1 =
 oif (decide (n1 < 0)) (
 some ((⟨#[]⟩:ByteArray),false)) (
 oif (decide (n1 > 65535)) (
 some ((⟨#[]⟩:ByteArray),false)) (
 obind (g173 d n1) fun r2 =>
 some (r2.1,r2.2))):=by kernel_rfl
theorem Qrq (d:Nat):g154 (d+1) =
 some [(⟨#[115,111,117,114,99,101]⟩:ByteArray),(⟨#[100,101,115,116]⟩:ByteArray),(⟨#[112,111,114,116]⟩:ByteArray),(⟨#[109,97,114,107]⟩:ByteArray)]:=by kernel_rfl
theorem Qrr (d:Nat) (x1:t5):g120 (d+1) x1 =
 obind (g153 d x1.2.2.2.1) fun r2 =>
 obind (g153 d x1.2.2.1) fun r3 =>
 obind (g116 d x1.1) fun r4 =>
 oif (Nat.ble (((⟨#[102,105,108,116,101,114,32]⟩:ByteArray):ByteArray).size+r4.size) 9223372036854775807) (
 oif (Nat.ble (((((⟨#[102,105,108,116,101,114,32]⟩:ByteArray):ByteArray)++r4):ByteArray).size+((⟨#[32]⟩:ByteArray):ByteArray).size) 9223372036854775807) (
 obind (g154 d) fun r5 =>
 oif (decide (0≤x1.2.1)) (
 oif (Nat.blt (x1.2.1.toNat) r5.length) (
 obind (r5[x1.2.1.toNat]?) fun s6 =>
 oif (Nat.ble (((((((⟨#[102,105,108,116,101,114,32]⟩:ByteArray):ByteArray)++r4):ByteArray)++((⟨#[32]⟩:ByteArray):ByteArray)):ByteArray).size+s6.size) 9223372036854775807) (
 oif (Nat.ble (((((((((⟨#[102,105,108,116,101,114,32]⟩:ByteArray):ByteArray)++r4):ByteArray)++((⟨#[32]⟩:ByteArray):ByteArray)):ByteArray)++s6):ByteArray).size+((⟨#[32]⟩:ByteArray):ByteArray).size) 9223372036854775807) (
 oif (Nat.ble (((((((((((⟨#[102,105,108,116,101,114,32]⟩:ByteArray):ByteArray)++r4):ByteArray)++((⟨#[32]⟩:ByteArray):ByteArray)):ByteArray)++s6):ByteArray)++((⟨#[32]⟩:ByteArray):ByteArray)):ByteArray).size+r2.1.size) 9223372036854775807) (
 oif (Nat.ble (((((((((((((⟨#[102,105,108,116,101,114,32]⟩:ByteArray):ByteArray)++r4):ByteArray)++((⟨#[32]⟩:ByteArray):ByteArray)):ByteArray)++s6):ByteArray)++((⟨#[32]⟩:ByteArray):ByteArray)):ByteArray)++r2.1):ByteArray).size+((⟨#[32,47,32]⟩:ByteArray):ByteArray).size) 9223372036854775807) (
 oif (Nat.ble (((((((((((((((⟨#[102,105,108,116,101,114,32]⟩:ByteArray):ByteArray)++r4):ByteArray)++((⟨#[32]⟩:ByteArray):ByteArray)):ByteArray)++s6):ByteArray)++((⟨#[32]⟩:ByteArray):ByteArray)):ByteArray)++r2.1):ByteArray)++((⟨#[32,47,32]⟩:ByteArray):ByteArray)):ByteArray).size+r3.1.size) 9223372036854775807) (
 oif (Nat.ble (((((((((((((((((⟨#[102,105,108,116,101,114,32]⟩:ByteArray):ByteArray)++r4):ByteArray)++((⟨#[32]⟩:ByteArray):ByteArray)):ByteArray)++s6):ByteArray)++((⟨#[32]⟩:ByteArray):ByteArray)):ByteArray)++r2.1):ByteArray)++((⟨#[32,47,32]⟩:ByteArray):ByteArray)):ByteArray)++r3.1):ByteArray).size+((⟨#[32,45,62,32]⟩:ByteArray):ByteArray).size) 9223372036854775807) (
 obind (g116 d x1.2.2.2.2) fun r7 =>
 oif (Nat.ble (((((((((((((((((((⟨#[102,105,108,116,101,114,32]⟩:ByteArray):ByteArray)++r4):ByteArray)++((⟨#[32]⟩:ByteArray):ByteArray)):ByteArray)++s6):ByteArray)++((⟨#[32]⟩:ByteArray):ByteArray)):ByteArray)++r2.1):ByteArray)++((⟨#[32,47,32]⟩:ByteArray):ByteArray)):ByteArray)++r3.1):ByteArray)++((⟨#[32,45,62,32]⟩:ByteArray):ByteArray)):ByteArray).size+r7.size) 9223372036854775807) (
 oif (Nat.ble (((((((((((((((((((((⟨#[102,105,108,116,101,114,32]⟩:ByteArray):ByteArray)++r4):ByteArray)++((⟨#[32]⟩:ByteArray):ByteArray)):ByteArray)++s6):ByteArray)++((⟨#[32]⟩:ByteArray):ByteArray)):ByteArray)++r2.1):ByteArray)++((⟨#[32,47,32]⟩:ByteArray):ByteArray)):ByteArray)++r3.1):ByteArray)++((⟨#[32,45,62,32]⟩:ByteArray):ByteArray)):ByteArray)++r7):ByteArray).size+((⟨#[59]⟩:ByteArray):ByteArray).size) 9223372036854775807) (
 some (((((((((((((((((((((⟨#[102,105,108,116,101,114,32]⟩:ByteArray):ByteArray)++r4):ByteArray)++((⟨#[32]⟩:ByteArray):ByteArray)):ByteArray)++s6):ByteArray)++((⟨#[32]⟩:ByteArray):ByteArray)):ByteArray)++r2.1):ByteArray)++((⟨#[32,47,32]⟩:ByteArray):ByteArray)):ByteArray)++r3.1):ByteArray)++((⟨#[32,45,62,32]⟩:ByteArray):ByteArray)):ByteArray)++r7):ByteArray)++((⟨#[59]⟩:ByteArray):ByteArray))) none) none) none) none) none) none) none) none) none) none) none) none:=by kernel_rfl
noncomputable def j52_0 (d:Nat) (x1:t2) (l20:List t8) (s39:ByteArray) (n40:Int) (l41:List t1) (l42:List Int) (l43:List Int) (l44:List Int) (l45:List Int) (l46:List t5) (l47:List Int):Option t0 :=
 oif (x1.2.2.2 != 0) (
 some (s39,l41,l42,l43,l44,l45,l46,l47,((mfind l20 x1.2.2.2).getD 0))) (
 some (s39,l41,l42,l43,l44,l45,l46,l47,n40))
noncomputable def l52_3_b (d:Nat) (x1:t2) (l20:List t8) (kx52_3_0:ByteArray→Int→(List t1)→(List Int)→(List Int)→(List Int)→(List Int)→(List t5)→(List Int)→Option t0) (ag38:(Int×t0)→Option t0) (n39:Int) (x40:t0):Option t0 :=
 oif (decide (n39 < (x1.2.2.1.length:Int))) (
 oif (decide (0≤n39)) (
 obind (x1.2.2.1[n39.toNat]?) fun x41 =>
 oif (Nat.ble ((x40.2.2.2.2.2.2.2.1.length+[((mfind l20 x41.2.2.2.2).getD 0)].length)*8) roomMax) (
 ag38 ((i64.wrap (n39+1)),(x40.1,x40.2.1,x40.2.2.1,x40.2.2.2.1,x40.2.2.2.2.1,x40.2.2.2.2.2.1,x40.2.2.2.2.2.2.1,(x40.2.2.2.2.2.2.2.1++[((mfind l20 x41.2.2.2.2).getD 0)]),x40.2.2.2.2.2.2.2.2))) none) none) (
 kx52_3_0 x40.1 x40.2.2.2.2.2.2.2.2 x40.2.1 x40.2.2.1 x40.2.2.2.1 x40.2.2.2.2.1 x40.2.2.2.2.2.1 x40.2.2.2.2.2.2.1 x40.2.2.2.2.2.2.2.1)
noncomputable def l52_3 (d:Nat) (x1:t2) (l20:List t8) (kx52_3_0:ByteArray→Int→(List t1)→(List Int)→(List Int)→(List Int)→(List Int)→(List t5)→(List Int)→Option t0) (ag38:(Int×t0)→Option t0) (s:(Int×t0)):Option t0:=l52_3_b d x1 l20 kx52_3_0 ag38 s.1 s.2
noncomputable def j52_1 (d:Nat) (x1:t2) (s18:ByteArray) (n19:Int) (l20:List t8) (l21:List t1) (l26:List t5) (l27:List Int) (l33:List Int) (l34:List Int) (l35:List Int) (l37:List Int):Option t0 :=
 iterP (l52_3 d x1 l20 (j52_0 d x1 l20)) fuelN (0,(s18,l21,l35,l33,l34,l37,l26,l27,n19))
noncomputable def l52_2_b (d:Nat) (l32:List Int) (kx52_2_0:(List Int)→Option t0) (ag36:(Int×(List Int))→Option t0) (n37:Int) (l38:List Int):Option t0 :=
 oif (decide (n37≥0)) (
 oif (decide (0≤n37)) (
 oif (Nat.blt (n37.toNat) l38.length) (
 obind (l38[n37.toNat]?) fun n39 =>
 oif (decide (0≤n37)) (
 oif (Nat.blt (n37.toNat) l32.length) (
 obind (l32[n37.toNat]?) fun n40 =>
 oif (decide (n40≥0)) (
 oif (decide (0≤n37)) (
 oif (Nat.blt (n37.toNat) l32.length) (
 obind (l32[n37.toNat]?) fun n41 =>
 oif (decide (0≤n41)) (
 oif (Nat.blt (n41.toNat) ((l38.set (n37.toNat) (i64.wrap (n37+1))).length)) (
 obind ((l38.set (n37.toNat) (i64.wrap (n37+1)))[n41.toNat]?) fun n42 =>
 oif (decide (0≤n37)) (
 oif (Nat.blt (n37.toNat) ((l38.set (n37.toNat) (i64.wrap (n37+1))).length)) (
 obind ((l38.set (n37.toNat) (i64.wrap (n37+1)))[n37.toNat]?) fun n43 =>
 ag36 ((i64.wrap (n37 - 1)),((l38.set (n37.toNat) (i64.wrap (n37+1))).set (n37.toNat) n42))) none) none) none) none) none) none) (
 ag36 ((i64.wrap (n37 - 1)),(l38.set (n37.toNat) (i64.wrap (n37+1)))))) none) none) none) none) (
 kx52_2_0 l38)
noncomputable def l52_2 (d:Nat) (l32:List Int) (kx52_2_0:(List Int)→Option t0) (ag36:(Int×(List Int))→Option t0) (s:(Int×(List Int))):Option t0:=l52_2_b d l32 kx52_2_0 ag36 s.1 s.2
noncomputable def j52_2 (d:Nat) (x1:t2) (s18:ByteArray) (n19:Int) (l20:List t8) (l21:List t1) (l26:List t5) (l27:List Int) (l32:List Int) (l33:List Int) (l34:List Int) (l35:List Int):Option t0 :=
 iterP (l52_2 d l32 (j52_1 d x1 s18 n19 l20 l21 l26 l27 l33 l34 l35)) fuelN ((i64.wrap ((l21.length:Int) - 1)),(List.replicate ((l21.length:Int).toNat) (0:Int)))
noncomputable def j52_3 (d:Nat) (l20:List t8) (ag31:(Int×(List Int)×(List Int)×(List Int)×(List Int))→Option t0) (n32:Int) (l35:List Int) (l36:List Int) (x37:t1) (b41:Bool) (l42:List Int) (l43:List Int):Option t0 :=
 oif (decide (0≤(((mfind l20 x37.2.1).getD 0):Int))) (
 oif (Nat.blt ((((mfind l20 x37.2.1).getD 0):Int).toNat) l36.length) (
 obind (l36[(((mfind l20 x37.2.1).getD 0):Int).toNat]?) fun n44 =>
 ag31 ((i64.wrap (n32+1)),l42,l43,(l35.set (n32.toNat) ((mfind l20 x37.2.1).getD 0)),(l36.set ((((mfind l20 x37.2.1).getD 0):Int).toNat) n32))) none) none
noncomputable def l52_1_b (d:Nat) (l20:List t8) (l21:List t1) (kx52_1_0:(List Int)→(List Int)→(List Int)→(List Int)→Option t0) (ag31:(Int×(List Int)×(List Int)×(List Int)×(List Int))→Option t0) (n32:Int) (l33:List Int) (l34:List Int) (l35:List Int) (l36:List Int):Option t0 :=
 oif (decide (n32 < (l21.length:Int))) (
 oif (decide (0≤n32)) (
 oif (Nat.blt (n32.toNat) l21.length) (
 obind (l21[n32.toNat]?) fun x37 =>
 oif (!((mfind l20 x37.2.1).isSome)) (
 oif (decide (0≤n32)) (
 oif (Nat.blt (n32.toNat) l35.length) (
 obind (l35[n32.toNat]?) fun n38 =>
 ag31 ((i64.wrap (n32+1)),l33,l34,(l35.set (n32.toNat) (-1)),l36)) none) none) (
 oif (decide (0≤n32)) (
 oif (Nat.blt (n32.toNat) l35.length) (
 obind (l35[n32.toNat]?) fun n39 =>
 oif (decide (0≤(((mfind l20 x37.2.1).getD 0):Int))) (
 oif (Nat.blt ((((mfind l20 x37.2.1).getD 0):Int).toNat) l36.length) (
 obind (l36[(((mfind l20 x37.2.1).getD 0):Int).toNat]?) fun n40 =>
 oif (decide (n40 < 0)) (
 oif (decide (0≤(((mfind l20 x37.2.1).getD 0):Int))) (
 oif (Nat.blt ((((mfind l20 x37.2.1).getD 0):Int).toNat) l33.length) (
 obind (l33[(((mfind l20 x37.2.1).getD 0):Int).toNat]?) fun n41 =>
 j52_3 d l20 ag31 n32 l35 l36 x37 true (l33.set ((((mfind l20 x37.2.1).getD 0):Int).toNat) n32) l34) none) none) (
 oif (decide (0≤(((mfind l20 x37.2.1).getD 0):Int))) (
 oif (Nat.blt ((((mfind l20 x37.2.1).getD 0):Int).toNat) l36.length) (
 obind (l36[(((mfind l20 x37.2.1).getD 0):Int).toNat]?) fun n42 =>
 oif (decide (0≤n42)) (
 oif (Nat.blt (n42.toNat) l34.length) (
 obind (l34[n42.toNat]?) fun n43 =>
 j52_3 d l20 ag31 n32 l35 l36 x37 false l33 (l34.set (n42.toNat) n32)) none) none) none) none)) none) none) none) none)) none) none) (
 kx52_1_0 l36 l33 l34 l35)
noncomputable def l52_1 (d:Nat) (l20:List t8) (l21:List t1) (kx52_1_0:(List Int)→(List Int)→(List Int)→(List Int)→Option t0) (ag31:(Int×(List Int)×(List Int)×(List Int)×(List Int))→Option t0) (s:(Int×(List Int)×(List Int)×(List Int)×(List Int))):Option t0:=l52_1_b d l20 l21 kx52_1_0 ag31 s.1 s.2.1 s.2.2.1 s.2.2.2.1 s.2.2.2.2
noncomputable def j52_4 (d:Nat) (x1:t2) (s18:ByteArray) (n19:Int) (l20:List t8) (l21:List t1) (l22:List Int) (l23:List Int) (l24:List Int) (l25:List Int) (l26:List t5) (l27:List Int):Option t0 :=
 obind (g85 (d+1) [(-1)] (l21.length:Int)) fun r28 =>
 obind (g85 (d+1) [(-1)] (l21.length:Int)) fun r29 =>
 oif (decide (0≤(l21.length:Int))) (
 oif (decide (0≤(l21.length:Int))) (
 oif (Nat.ble ((l21.length:Int).toNat) ((l21.length:Int).toNat)&&Nat.ble (((l21.length:Int).toNat)*8) roomMax) (
 oif (decide (0≤(l21.length:Int))) (
 oif (decide (0≤(l21.length:Int))) (
 oif (Nat.ble ((l21.length:Int).toNat) ((l21.length:Int).toNat)&&Nat.ble (((l21.length:Int).toNat)*8) roomMax) (
 obind (g85 (d+1) [(-1)] (l21.length:Int)) fun r30 =>
 iterP (l52_1 d l20 l21 (j52_2 d x1 s18 n19 l20 l21 l26 l27)) fuelN (0,r28,r29,(List.replicate ((l21.length:Int).toNat) (0:Int)),r30)) none) none) none) none) none) none
noncomputable def l52_0_b (d:Nat) (x1:t2) (r16:t6) (kx52_0_0:ByteArray→Int→(List t8)→(List t1)→(List Int)→(List Int)→(List Int)→(List Int)→(List t5)→(List Int)→Option t0) (ag17:(Int×t0×(List (List (List t8))))→Option t0) (n18:Int) (x19:t0) (l20:List (List (List t8))):Option t0 :=
 oif (decide (n18 < (r16.2.2.1.length:Int))) (
 oif (decide (0≤n18)) (
 oif (Nat.blt (n18.toNat) r16.2.2.1.length) (
 obind (r16.2.2.1[n18.toNat]?) fun n21 =>
 oif (decide (0≤n21)) (
 obind (x1.2.1[n21.toNat]?) fun x22 =>
 oif (Nat.ble ((x19.2.1.length+[x22].length)*64) roomMax) (
 oif (decide (0≤n21)) (
 obind (x1.2.1[n21.toNat]?) fun x23 =>
 ag17 ((i64.wrap (n18+1)),(x19.1,(x19.2.1++[x22]),x19.2.2),([[(mput (unMp l20) x23.1 n18)]]:List (List (List t8))))) none) none) none) none) none) (
 kx52_0_0 x19.1 x19.2.2.2.2.2.2.2.2 (unMp l20) x19.2.1 x19.2.2.1 x19.2.2.2.1 x19.2.2.2.2.1 x19.2.2.2.2.2.1 x19.2.2.2.2.2.2.1 x19.2.2.2.2.2.2.2.1)
noncomputable def l52_0 (d:Nat) (x1:t2) (r16:t6) (kx52_0_0:ByteArray→Int→(List t8)→(List t1)→(List Int)→(List Int)→(List Int)→(List Int)→(List t5)→(List Int)→Option t0) (ag17:(Int×t0×(List (List (List t8))))→Option t0) (s:(Int×t0×(List (List (List t8))))):Option t0:=l52_0_b d x1 r16 kx52_0_0 ag17 s.1 s.2.1 s.2.2
noncomputable def j52i84_0 (d:Nat) (x1:t2) (r2:List t5) (s8:ByteArray) (l9:List t1) (l10:List t5) (n11:Int) (l12:List ByteArray) (l13:List Int) (l14:List Int) (l15:List Int):Option t0 :=
 obind (g117 d ((s8,l9,l10,n11),l12,l13,l14,l15) 0 (⟨#[125]⟩:ByteArray)) fun r16 =>
 iterP (l52_0 d x1 r16 (j52_4 d x1)) fuelN (0,(x1.1,[],[],[],[],[],r2,[],(-1)),([[([]:List t8)]]:List (List (List t8))))
noncomputable def l52i84_0_b (d:Nat) (x1:t2) (kx52i84_0_0:ByteArray→(List t1)→(List t5)→Int→(List ByteArray)→(List Int)→(List Int)→(List Int)→Option t0) (ag7:(Int×t6)→Option t0) (n8:Int) (x9:t6):Option t0 :=
 oif (decide (n8 < (x1.2.2.1.length:Int))) (
 oif (decide (0≤n8)) (
 obind (x1.2.2.1[n8.toNat]?) fun x10 =>
 obind (g120 d x10) fun r11 =>
 obind (g117 d x9 1 r11) fun r12 =>
 ag7 ((i64.wrap (n8+1)),r12)) none) (
 kx52i84_0_0 x9.1.1 x9.1.2.1 x9.1.2.2.1 x9.1.2.2.2 x9.2.1 x9.2.2.1 x9.2.2.2.1 x9.2.2.2.2)
noncomputable def l52i84_0 (d:Nat) (x1:t2) (kx52i84_0_0:ByteArray→(List t1)→(List t5)→Int→(List ByteArray)→(List Int)→(List Int)→(List Int)→Option t0) (ag7:(Int×t6)→Option t0) (s:(Int×t6)):Option t0:=l52i84_0_b d x1 kx52i84_0_0 ag7 s.1 s.2
noncomputable def j52i84_1 (d:Nat) (x1:t2) (r2:List t5) (s3:ByteArray):Option t0 :=
 oif (Nat.ble (s3.size+((⟨#[32,123]⟩:ByteArray):ByteArray).size) 9223372036854775807) (
 obind (g117 d (x1,[],[],(List.replicate ((x1.2.1.length:Int).toNat) (0:Int)),(List.replicate ((x1.2.1.length:Int).toNat) (0:Int))) 0 (s3++((⟨#[32,123]⟩:ByteArray):ByteArray))) fun r4 =>
 obind (g119 d x1) fun r5 =>
 obind (g118 d r4 r5 1) fun r6 =>
 iterP (l52i84_0 d x1 (j52i84_0 d x1 r2)) fuelN (0,r6)) none
theorem e52 (d:Nat) (x1:t2):g52 (d+2) x1 =
 obind (g79 (d+1) x1.2.2.1) fun r2 =>
 oif (decide (0≤(x1.2.1.length:Int))) (
 oif (decide (0≤(x1.2.1.length:Int))) (
 oif (Nat.ble ((x1.2.1.length:Int).toNat) ((x1.2.1.length:Int).toNat)&&Nat.ble (((x1.2.1.length:Int).toNat)*8) roomMax) (
 oif (decide (0≤(x1.2.1.length:Int))) (
 oif (decide (0≤(x1.2.1.length:Int))) (
 oif (Nat.ble ((x1.2.1.length:Int).toNat) ((x1.2.1.length:Int).toNat)&&Nat.ble (((x1.2.1.length:Int).toNat)*8) roomMax) (
 oif (Nat.ble (((⟨#[113,100,105,115,99,32]⟩:ByteArray):ByteArray).size+x1.1.size) 9223372036854775807) (
 oif (x1.2.2.2 != 0) (
 obind (g116 d x1.2.2.2) fun r3 =>
 oif (Nat.ble (((⟨#[32,100,101,102,97,117,108,116,32]⟩:ByteArray):ByteArray).size+r3.size) 9223372036854775807) (
 oif (Nat.ble (((((⟨#[113,100,105,115,99,32]⟩:ByteArray):ByteArray)++x1.1):ByteArray).size+((((⟨#[32,100,101,102,97,117,108,116,32]⟩:ByteArray):ByteArray)++r3):ByteArray).size) 9223372036854775807) (
 j52i84_1 d x1 r2 (((((⟨#[113,100,105,115,99,32]⟩:ByteArray):ByteArray)++x1.1):ByteArray)++((((⟨#[32,100,101,102,97,117,108,116,32]⟩:ByteArray):ByteArray)++r3):ByteArray))) none) none) (
 j52i84_1 d x1 r2 (((⟨#[113,100,105,115,99,32]⟩:ByteArray):ByteArray)++x1.1))) none) none) none) none) none) none) none:=by kernel_rfl
noncomputable def j53_0 (d:Nat) (b4:Bool):Option Bool :=
 some true
noncomputable def l53_0_b (d:Nat) (l1:List t1) (l2:List t1) (kx53_0_0:Bool→Option Bool) (ag3:t7→Option Bool) (b4:Bool) (n5:Int):Option Bool :=
 oif (decide (n5 < (l1.length:Int))) (
 oif (decide (0≤n5)) (
 obind (l1[n5.toNat]?) fun x6 =>
 oif (decide (0≤n5)) (
 obind (l2[n5.toNat]?) fun x7 =>
 oif (!((x6.1==x7.1)&&((x6.2.1==x7.2.1)&&((x6.2.2.1==x7.2.2.1)&&((x6.2.2.2.1==x7.2.2.2.1)&&((x6.2.2.2.2.1==x7.2.2.2.2.1)&&((x6.2.2.2.2.2.1==x7.2.2.2.2.2.1)&&((x6.2.2.2.2.2.2.1==x7.2.2.2.2.2.2.1)&&((x6.2.2.2.2.2.2.2==x7.2.2.2.2.2.2.2)&&true))))))))) (
 some false) (
 ag3 (b4,(i64.wrap (n5+1))))) none) none) (
 kx53_0_0 b4)
noncomputable def l53_0 (d:Nat) (l1:List t1) (l2:List t1) (kx53_0_0:Bool→Option Bool) (ag3:t7→Option Bool) (s:t7):Option Bool:=l53_0_b d l1 l2 kx53_0_0 ag3 s.1 s.2
theorem e53 (d:Nat) (l1:List t1) (l2:List t1):g53 (d+1) l1 l2 =
 oif ((l1.length:Int) != (l2.length:Int)) (
 some false) (
 iterP (l53_0 d l1 l2 (j53_0 d)) fuelN (false,0)):=by kernel_rfl
noncomputable def j54_0 (d:Nat) (b4:Bool):Option Bool :=
 some true
noncomputable def l54_0_b (d:Nat) (l1:List Int) (l2:List Int) (kx54_0_0:Bool→Option Bool) (ag3:t7→Option Bool) (b4:Bool) (n5:Int):Option Bool :=
 oif (decide (n5 < (l1.length:Int))) (
 oif (decide (0≤n5)) (
 obind (l1[n5.toNat]?) fun n6 =>
 oif (decide (0≤n5)) (
 obind (l2[n5.toNat]?) fun n7 =>
 oif (n6 != n7) (
 some false) (
 ag3 (b4,(i64.wrap (n5+1))))) none) none) (
 kx54_0_0 b4)
noncomputable def l54_0 (d:Nat) (l1:List Int) (l2:List Int) (kx54_0_0:Bool→Option Bool) (ag3:t7→Option Bool) (s:t7):Option Bool:=l54_0_b d l1 l2 kx54_0_0 ag3 s.1 s.2
theorem e54 (d:Nat) (l1:List Int) (l2:List Int):g54 (d+1) l1 l2 =
 oif ((l1.length:Int) != (l2.length:Int)) (
 some false) (
 iterP (l54_0 d l1 l2 (j54_0 d)) fuelN (false,0)):=by kernel_rfl
noncomputable def j22_0 (d:Nat) (x1:t0) (b2:Bool):Option Bool :=
 oif b2 (
 some false) (
 obind (g50 d x1) fun r3 =>
 obind (g51 d r3) fun r4 =>
 oif (!r4) (
 some false) (
 obind (g52 d r3) fun r5 =>
 obind (g53 d x1.2.1 r5.2.1) fun r6 =>
 oif r6 (
 obind (g54 d x1.2.2.1 r5.2.2.1) fun r7 =>
 oif r7 (
 obind (g54 d x1.2.2.2.1 r5.2.2.2.1) fun r8 =>
 oif r8 (
 obind (g54 d x1.2.2.2.2.1 r5.2.2.2.2.1) fun r9 =>
 oif r9 (
 obind (g54 d x1.2.2.2.2.2.1 r5.2.2.2.2.2.1) fun r10 =>
 oif r10 (
 obind (g54 d x1.2.2.2.2.2.2.2.1 r5.2.2.2.2.2.2.2.1) fun r11 =>
 oif r11 (
 some (x1.2.2.2.2.2.2.2.2==r5.2.2.2.2.2.2.2.2)) (
 some false)) (
 some false)) (
 some false)) (
 some false)) (
 some false)) (
 some false)))
theorem e22 (d:Nat) (x1:t0):g22 (d+1) x1 =
 oif (decide ((x1.2.1.length:Int) > 24)) (
 j22_0 d x1 true) (
 j22_0 d x1 (decide ((x1.2.2.2.2.2.2.1.length:Int) > 16))):=by kernel_rfl
noncomputable def j23_0 (d:Nat) (b5:Bool):Option Bool :=
 some true
noncomputable def j23_1 (d:Nat) (ag4:t7→Option Bool) (b5:Bool) (n6:Int) (n8:Int) (n9:Int) (b10:Bool) (b11:Bool) (b12:Bool) (b13:Bool) (b14:Bool) (b15:Bool) (b16:Bool):Option Bool :=
 oif b16 (
 some false) (
 ag4 (b5,(i64.wrap (n6+1))))
noncomputable def l23_0_b (d:Nat) (x1:t0) (x2:t9) (kx23_0_0:Bool→Option Bool) (ag4:t7→Option Bool) (b5:Bool) (n6:Int):Option Bool :=
 oif (decide (n6 < (x1.2.1.length:Int))) (
 oif (decide (0≤n6)) (
 obind (x1.2.1[n6.toNat]?) fun x7 =>
 oif (decide (0≤n6)) (
 obind (x2.1[n6.toNat]?) fun n8 =>
 oif (decide (n8 < 0)) (
 j23_1 d ag4 b5 n6 n8 n8 (decide (n8 < 0)) true true true true true true) (
 oif (decide (0≤n6)) (
 obind (x2.1[n6.toNat]?) fun n9 =>
 oif (decide (n9 > x7.2.2.2.2.1)) (
 j23_1 d ag4 b5 n6 n8 n8 (decide (n8 < 0)) false (decide (n9 > x7.2.2.2.2.1)) true true true true) (
 oif (decide (0≤n6)) (
 obind (x2.2[n6.toNat]?) fun n10 =>
 oif (decide (n10 < 0)) (
 j23_1 d ag4 b5 n6 n8 n8 (decide (n8 < 0)) false (decide (n9 > x7.2.2.2.2.1)) false (decide (n10 < 0)) true true) (
 oif (decide (0≤n6)) (
 obind (x2.2[n6.toNat]?) fun n11 =>
 j23_1 d ag4 b5 n6 n8 n8 (decide (n8 < 0)) false (decide (n9 > x7.2.2.2.2.1)) false (decide (n10 < 0)) false (decide (n11 > x7.2.2.2.2.2.1))) none)) none)) none)) none) none) (
 kx23_0_0 b5)
noncomputable def l23_0 (d:Nat) (x1:t0) (x2:t9) (kx23_0_0:Bool→Option Bool) (ag4:t7→Option Bool) (s:t7):Option Bool:=l23_0_b d x1 x2 kx23_0_0 ag4 s.1 s.2
noncomputable def j23_2 (d:Nat) (x1:t0) (x2:t9) (b3:Bool):Option Bool :=
 oif b3 (
 some false) (
 iterP (l23_0 d x1 x2 (j23_0 d)) fuelN (false,0))
theorem e23 (d:Nat) (x1:t0) (x2:t9):g23 (d+1) x1 x2 =
 oif ((x2.1.length:Int) != (x1.2.1.length:Int)) (
 j23_2 d x1 x2 true) (
 j23_2 d x1 x2 ((x2.2.length:Int) != (x1.2.1.length:Int))):=by kernel_rfl
noncomputable def j24_0 (d:Nat) (l3:List Int):Option (List Int) :=
 some l3
noncomputable def l24_0_b (d:Nat) (x1:t0) (kx24_0_0:(List Int)→Option (List Int)) (ag2:((List Int)×Int)→Option (List Int)) (l3:List Int) (n4:Int):Option (List Int) :=
 oif (decide (n4 < (x1.2.1.length:Int))) (
 oif (decide (0≤n4)) (
 obind (x1.2.2.2.1[n4.toNat]?) fun n5 =>
 oif (decide (n5 < 0)) (
 oif (Nat.ble ((l3.length+[n4].length)*8) roomMax) (
 ag2 ((l3++[n4]),(i64.wrap (n4+1)))) none) (
 ag2 (l3,(i64.wrap (n4+1))))) none) (
 kx24_0_0 l3)
noncomputable def l24_0 (d:Nat) (x1:t0) (kx24_0_0:(List Int)→Option (List Int)) (ag2:((List Int)×Int)→Option (List Int)) (s:((List Int)×Int)):Option (List Int):=l24_0_b d x1 kx24_0_0 ag2 s.1 s.2
theorem e24 (d:Nat) (x1:t0):g24 (d+1) x1 =
 iterP (l24_0 d x1 (j24_0 d)) fuelN (([]:List Int),0):=by kernel_rfl
theorem e55 (d:Nat) (x1:t3):g55 (d+1) x1 =
 some (x1.2.1,x1.2.2.1,x1.2.2.2.1,x1.2.2.2.2.1):=by kernel_rfl
noncomputable def j25_0 (d:Nat) (x1:t3) (b4:Bool):Option Bool :=
 oif (decide (x1.1≥1)) (
 oif (decide (x1.1≤100000)) (
 oif (decide (x1.2.2.2.2.2≥1)) (
 some (decide (x1.2.2.2.2.2≤1500))) (
 some false)) (
 some false)) (
 some false)
noncomputable def l25_0_b (d:Nat) (r2:(Int×Int×Int×Int)) (kx25_0_0:Bool→Option Bool) (ag3:t7→Option Bool) (b4:Bool) (n5:Int):Option Bool :=
 oif (decide (n5 < 4)) (
 oif (decide (0≤n5)) (
 obind (([r2.1,r2.2.1,r2.2.2.1,r2.2.2.2]:List Int)[n5.toNat]?) fun n6 =>
 oif (decide (n6 < 0)) (
 some false) (
 oif (decide (n6 > 65535)) (
 some false) (
 ag3 (b4,(i64.wrap (n5+1)))))) none) (
 kx25_0_0 b4)
noncomputable def l25_0 (d:Nat) (r2:(Int×Int×Int×Int)) (kx25_0_0:Bool→Option Bool) (ag3:t7→Option Bool) (s:t7):Option Bool:=l25_0_b d r2 kx25_0_0 ag3 s.1 s.2
theorem e25 (d:Nat) (x1:t3):g25 (d+1) x1 =
 obind (g55 d x1) fun r2 =>
 iterP (l25_0 d r2 (j25_0 d x1)) fuelN (false,0):=by kernel_rfl
theorem e86 (d:Nat) (x1:t5) (x2:t3):g86 (d+1) x1 x2 =
 obind (g55 d x2) fun r3 =>
 oif (decide (0≤x1.2.1)) (
 obind (([r3.1,r3.2.1,r3.2.2.1,r3.2.2.2]:List Int)[x1.2.1.toNat]?) fun n4 =>
 some (((i64.wrap ((BitVec.ofInt i64.bits n4 &&& BitVec.ofInt i64.bits x1.2.2.1).toNat:Int)):Int)==x1.2.2.2.1)) none:=by kernel_rfl
noncomputable def j56_0 (d:Nat) (n4:Int):Option Int :=
 some (-1)
noncomputable def l56_0_b (d:Nat) (l1:List t5) (x2:t3) (kx56_0_0:Int→Option Int) (ag3:t8→Option Int) (n4:Int) (n5:Int):Option Int :=
 oif (decide (n5 < (l1.length:Int))) (
 oif (decide (0≤n5)) (
 obind (l1[n5.toNat]?) fun x6 =>
 obind (g86 d x6 x2) fun r7 =>
 oif r7 (
 some n5) (
 ag3 (n4,(i64.wrap (n5+1))))) none) (
 kx56_0_0 n4)
noncomputable def l56_0 (d:Nat) (l1:List t5) (x2:t3) (kx56_0_0:Int→Option Int) (ag3:t8→Option Int) (s:t8):Option Int:=l56_0_b d l1 x2 kx56_0_0 ag3 s.1 s.2
theorem e56 (d:Nat) (l1:List t5) (x2:t3):g56 (d+1) l1 x2 =
 iterP (l56_0 d l1 x2 (j56_0 d)) fuelN (0,0):=by kernel_rfl
theorem e26 (d:Nat) (x1:t0) (x2:t3):g26 (d+1) x1 x2 =
 obind (g56 d x1.2.2.2.2.2.2.1 x2) fun r3 =>
 oif (decide (r3≥0)) (
 oif (decide (0≤r3)) (
 obind (x1.2.2.2.2.2.2.2.1[r3.toNat]?) fun n4 =>
 some n4) none) (
 some x1.2.2.2.2.2.2.2.2):=by kernel_rfl
noncomputable def j57i87i122_0 (d:Nat) (n4:Int):Option Bool :=
 some (decide (((-1):Int)≥0))
noncomputable def l57i87i122_0_b (d:Nat) (l1:List t3) (n2:Int) (kx57i87i122_0_0:Int→Option Bool) (ag3:t8→Option Bool) (n4:Int) (n5:Int):Option Bool :=
 oif (decide (n5 < (l1.length:Int))) (
 oif (decide (0≤n5)) (
 obind (l1[n5.toNat]?) fun x6 =>
 oif (x6.1==n2) (
 some (decide (n5≥0))) (
 ag3 (n4,(i64.wrap (n5+1))))) none) (
 kx57i87i122_0_0 n4)
noncomputable def l57i87i122_0 (d:Nat) (l1:List t3) (n2:Int) (kx57i87i122_0_0:Int→Option Bool) (ag3:t8→Option Bool) (s:t8):Option Bool:=l57i87i122_0_b d l1 n2 kx57i87i122_0_0 ag3 s.1 s.2
theorem e57 (d:Nat) (l1:List t3) (n2:Int):g57 (d+4) l1 n2 =
 iterP (l57i87i122_0 d l1 n2 (j57i87i122_0 d)) fuelN (0,0):=by kernel_rfl
noncomputable def j27_0 (d:Nat) (b3:Bool):Option Bool :=
 some true
noncomputable def l27_0_b (d:Nat) (l1:List t3) (kx27_0_0:Bool→Option Bool) (ag2:t7→Option Bool) (b3:Bool) (n4:Int):Option Bool :=
 oif (decide (n4 < (l1.length:Int))) (
 oif (decide (0≤n4)) (
 obind (l1[n4.toNat]?) fun x5 =>
 obind (g25 d x5) fun r6 =>
 oif (!r6) (
 some false) (
 oif (decide (0≤n4)) (
 oif (Nat.ble (n4.toNat) l1.length) (
 obind (g57 d (l1.take (n4.toNat)) x5.1) fun r7 =>
 oif r7 (
 some false) (
 ag2 (b3,(i64.wrap (n4+1))))) none) none)) none) (
 kx27_0_0 b3)
noncomputable def l27_0 (d:Nat) (l1:List t3) (kx27_0_0:Bool→Option Bool) (ag2:t7→Option Bool) (s:t7):Option Bool:=l27_0_b d l1 kx27_0_0 ag2 s.1 s.2
theorem e27 (d:Nat) (l1:List t3):g27 (d+1) l1 =
 iterP (l27_0 d l1 (j27_0 d)) fuelN (false,0):=by kernel_rfl
noncomputable def j28_0 (d:Nat) (l5:List t3):Option (List t3) :=
 some l5
noncomputable def l28_1_b (d:Nat) (l1:List (List t3)) (kx28_1_0:(List t3)→Option (List t3)) (ag4:((List t3)×Int)→Option (List t3)) (l5:List t3) (n6:Int):Option (List t3) :=
 oif (decide (n6 < (l1.length:Int))) (
 oif (decide (0≤n6)) (
 obind (l1[n6.toNat]?) fun l7 =>
 oif (Nat.ble ((l5.length+l7.length)*48) roomMax) (
 ag4 ((l5++l7),(i64.wrap (n6+1)))) none) none) (
 kx28_1_0 l5)
noncomputable def l28_1 (d:Nat) (l1:List (List t3)) (kx28_1_0:(List t3)→Option (List t3)) (ag4:((List t3)×Int)→Option (List t3)) (s:((List t3)×Int)):Option (List t3):=l28_1_b d l1 kx28_1_0 ag4 s.1 s.2
noncomputable def j28_1 (d:Nat) (l9:List t3):Option (List t3) :=
 some l9
noncomputable def l28_1x_b (d:Nat) (l1:List (List t3)) (kx28_1_0:(List t3)→Option (List t3)) (ag8:((List t3)×Int)→Option (List t3)) (l9:List t3) (n10:Int):Option (List t3) :=
 oif (decide (n10 < (l1.length:Int))) (
 oif (decide (0≤n10)) (
 obind (l1[n10.toNat]?) fun l11 =>
 oif (Nat.ble ((l9.length+l11.length)*48) roomMax) (
 ag8 ((l9++l11),(i64.wrap (n10+1)))) none) none) (
 kx28_1_0 l9)
noncomputable def l28_1x (d:Nat) (l1:List (List t3)) (kx28_1_0:(List t3)→Option (List t3)) (ag8:((List t3)×Int)→Option (List t3)) (s:((List t3)×Int)):Option (List t3):=l28_1x_b d l1 kx28_1_0 ag8 s.1 s.2
noncomputable def j28_2 (d:Nat) (l1:List (List t3)) (n3:Int):Option (List t3) :=
 oif (decide (n3 < 0)) (
 none) (
 oif (decide (((i64.wrap (n3 - (i64.wrap ((0:Int) - ((0:Nat):Int))))):Int) > 0)) (
 oif (Nat.ble 0 0) (
 oif (decide (0≤((i64.wrap (n3 - (i64.wrap ((0:Int) - ((0:Nat):Int))))):Int))&&decide (((i64.wrap (n3 - (i64.wrap ((0:Int) - ((0:Nat):Int))))):Int)*((48:Nat):Int)≤(roomMax:Int))) (
 oif (Nat.ble ((List.replicate ((i64.wrap (n3 - (i64.wrap ((0:Int) - ((0:Nat):Int))))):Int).toNat ((0,0,0,0,0,0):t3)).length*48) roomMax) (
 oif (decide (0≤(((0:Nat):Int):Int))) (
 oif (Nat.ble ((((0:Nat):Int):Int).toNat) ((List.replicate ((i64.wrap (n3 - (i64.wrap ((0:Int) - ((0:Nat):Int))))):Int).toNat ((0,0,0,0,0,0):t3)).length)) (
 iterP (l28_1 d l1 (j28_0 d)) fuelN (((List.replicate ((i64.wrap (n3 - (i64.wrap ((0:Int) - ((0:Nat):Int))))):Int).toNat ((0,0,0,0,0,0):t3)).take ((((0:Nat):Int):Int).toNat)),0)) none) none) none) none) none) (
 iterP (l28_1x d l1 (j28_1 d)) fuelN ([],0)))
noncomputable def l28_0_b (d:Nat) (l1:List (List t3)) (kx28_0_0:Int→Option (List t3)) (ag2:t8→Option (List t3)) (n3:Int) (n4:Int):Option (List t3) :=
 oif (decide (n4 < (l1.length:Int))) (
 oif (decide (0≤n4)) (
 obind (l1[n4.toNat]?) fun l5 =>
 oif (decide (((i64.wrap (n3+(l5.length:Int))):Int) < 0)) (
 none) (
 ag2 ((i64.wrap (n3+(l5.length:Int))),(i64.wrap (n4+1))))) none) (
 kx28_0_0 n3)
noncomputable def l28_0 (d:Nat) (l1:List (List t3)) (kx28_0_0:Int→Option (List t3)) (ag2:t8→Option (List t3)) (s:t8):Option (List t3):=l28_0_b d l1 kx28_0_0 ag2 s.1 s.2
theorem e28 (d:Nat) (l1:List (List t3)):g28 (d+2) l1 =
 iterP (l28_0 d l1 (j28_2 d l1)) fuelN (0,0):=by kernel_rfl
noncomputable def j9_0 (d:Nat) (x1:t4) (b6:Bool):Option Bool :=
 obind (g28 d x1.2.2.1) fun r7 =>
 obind (g27 d r7) fun r8 =>
 some r8
noncomputable def j9_1 (d:Nat) (ag5:t7→Option Bool) (n7:Int) (b13:Bool) (n14:Int):Option Bool :=
 ag5 (b13,(i64.wrap (n7+1)))
noncomputable def l9_1_b (d:Nat) (x1:t4) (n8:Int) (l11:List t3) (kx9_1_0:Bool→Int→Option Bool) (ag12:t7→Option Bool) (b13:Bool) (n14:Int):Option Bool :=
 oif (decide (n14 < (l11.length:Int))) (
 oif (decide (0≤n14)) (
 obind (l11[n14.toNat]?) fun x15 =>
 obind (g25 d x15) fun r16 =>
 oif (!r16) (
 some false) (
 obind (g26 d x1.1 x15) fun r17 =>
 oif (r17 != n8) (
 some false) (
 ag12 (b13,(i64.wrap (n14+1)))))) none) (
 kx9_1_0 b13 n14)
noncomputable def l9_1 (d:Nat) (x1:t4) (n8:Int) (l11:List t3) (kx9_1_0:Bool→Int→Option Bool) (ag12:t7→Option Bool) (s:t7):Option Bool:=l9_1_b d x1 n8 l11 kx9_1_0 ag12 s.1 s.2
noncomputable def l9_0_b (d:Nat) (x1:t4) (r3:List Int) (kx9_0_0:Bool→Option Bool) (ag5:t7→Option Bool) (b6:Bool) (n7:Int):Option Bool :=
 oif (decide (n7 < (r3.length:Int))) (
 oif (decide (0≤n7)) (
 oif (Nat.blt (n7.toNat) r3.length) (
 obind (r3[n7.toNat]?) fun n8 =>
 oif (decide (0≤n7)) (
 obind (x1.2.2.1[n7.toNat]?) fun l9 =>
 oif (decide (0≤n8)) (
 obind (x1.1.2.1[n8.toNat]?) fun x10 =>
 oif (decide ((l9.length:Int) > x10.2.2.2.2.2.2.2)) (
 some false) (
 oif (decide (0≤n7)) (
 obind (x1.2.2.1[n7.toNat]?) fun l11 =>
 iterP (l9_1 d x1 n8 l11 (j9_1 d ag5 n7)) fuelN (b6,0)) none)) none) none) none) none) (
 kx9_0_0 b6)
noncomputable def l9_0 (d:Nat) (x1:t4) (r3:List Int) (kx9_0_0:Bool→Option Bool) (ag5:t7→Option Bool) (s:t7):Option Bool:=l9_0_b d x1 r3 kx9_0_0 ag5 s.1 s.2
noncomputable def j9_2 (d:Nat) (x1:t4) (r3:List Int) (b4:Bool):Option Bool :=
 oif b4 (
 some false) (
 iterP (l9_0 d x1 r3 (j9_0 d x1)) fuelN (false,0))
noncomputable def j9_3 (d:Nat) (x1:t4) (b2:Bool):Option Bool :=
 oif b2 (
 some false) (
 obind (g24 d x1.1) fun r3 =>
 oif ((x1.2.2.1.length:Int) != (r3.length:Int)) (
 j9_2 d x1 r3 true) (
 oif (decide (x1.2.2.2.1 < (-1))) (
 j9_2 d x1 r3 true) (
 oif (decide (x1.2.2.2.1≥(r3.length:Int))) (
 j9_2 d x1 r3 true) (
 oif (decide (x1.2.2.2.2 < 0)) (
 j9_2 d x1 r3 true) (
 j9_2 d x1 r3 (decide (x1.2.2.2.2 > 1000000)))))))
theorem e9 (d:Nat) (x1:t4):g9 (d+1) x1 =
 obind (g22 d x1.1) fun r2 =>
 oif (!r2) (
 j9_3 d x1 true) (
 obind (g23 d x1.1 x1.2.1) fun r3 =>
 j9_3 d x1 (!r3)):=by kernel_rfl
noncomputable def j64_0 (d:Nat) (l4:List Int):Option (List Int) :=
 some l4
noncomputable def l64_0_b (d:Nat) (x1:t0) (kx64_0_0:(List Int)→Option (List Int)) (ag3:(Int×(List Int))→Option (List Int)) (n4:Int) (l5:List Int):Option (List Int) :=
 oif (decide (n4≥0)) (
 oif (Nat.ble ((l5.length+[n4].length)*8) roomMax) (
 oif (decide (0≤n4)) (
 obind (x1.2.2.1[n4.toNat]?) fun n6 =>
 ag3 (n6,(l5++[n4]))) none) none) (
 kx64_0_0 l5)
noncomputable def l64_0 (d:Nat) (x1:t0) (kx64_0_0:(List Int)→Option (List Int)) (ag3:(Int×(List Int))→Option (List Int)) (s:(Int×(List Int))):Option (List Int):=l64_0_b d x1 kx64_0_0 ag3 s.1 s.2
theorem e64 (d:Nat) (x1:t0) (n2:Int):g64 (d+1) x1 n2 =
 iterP (l64_0 d x1 (j64_0 d)) fuelN (n2,([]:List Int)):=by kernel_rfl
theorem e65 (d:Nat) (n1:Int) (n2:Int) (n3:Int):g65 (d+1) n1 n2 n3 =
 oif (decide (n1≥n3)) (
 some 0) (
 oif (n2==0) none (
 some (i64.wrap ((i64.wrap ((i64.wrap ((i64.wrap (n3 - n1))+n2)) - 1)).tdiv n2)))):=by kernel_rfl
noncomputable def j33_0 (d:Nat) (n7:Int) (n8:Int):Option Int :=
 some (if n8 > n7 then n8 else n7)
noncomputable def l33_0_b (d:Nat) (x1:t0) (x2:t9) (n4:Int) (r5:List Int) (kx33_0_0:Int→Int→Option Int) (ag6:(Int×Int×Int)→Option Int) (n7:Int) (n8:Int) (n9:Int):Option Int :=
 oif (decide (n9 < (r5.length:Int))) (
 oif (decide (0≤n9)) (
 oif (Nat.blt (n9.toNat) r5.length) (
 obind (r5[n9.toNat]?) fun n10 =>
 oif (decide (0≤n10)) (
 obind (x2.2[n10.toNat]?) fun n11 =>
 oif (decide (0≤n10)) (
 obind (x1.2.1[n10.toNat]?) fun x12 =>
 obind (g65 d n11 x12.2.2.2.1 n4) fun r13 =>
 oif (decide (0≤n10)) (
 obind (x2.1[n10.toNat]?) fun n14 =>
 oif (decide (0≤n10)) (
 obind (x1.2.1[n10.toNat]?) fun x15 =>
 obind (g65 d n14 x15.2.2.1 n4) fun r16 =>
 oif (decide (n8 < 0)) (
 ag6 ((if r13 > n7 then r13 else n7),r16,(i64.wrap (n9+1)))) (
 oif (decide (r16 < n8)) (
 ag6 ((if r13 > n7 then r13 else n7),r16,(i64.wrap (n9+1)))) (
 ag6 ((if r13 > n7 then r13 else n7),n8,(i64.wrap (n9+1)))))) none) none) none) none) none) none) (
 kx33_0_0 n7 n8)
noncomputable def l33_0 (d:Nat) (x1:t0) (x2:t9) (n4:Int) (r5:List Int) (kx33_0_0:Int→Int→Option Int) (ag6:(Int×Int×Int)→Option Int) (s:(Int×Int×Int)):Option Int:=l33_0_b d x1 x2 n4 r5 kx33_0_0 ag6 s.1 s.2.1 s.2.2
theorem e33 (d:Nat) (x1:t0) (x2:t9) (n3:Int) (n4:Int):g33 (d+1) x1 x2 n3 n4 =
 obind (g64 d x1 n3) fun r5 =>
 iterP (l33_0 d x1 x2 n4 r5 (j33_0 d)) fuelN (0,(-1),0):=by kernel_rfl
noncomputable def j12_0 (d:Nat) (n5:Int):Option (Int×Bool) :=
 oif (decide (n5 < 0)) (
 some (0,false)) (
 some (n5,true))
noncomputable def l12_0_b (d:Nat) (x1:t4) (r3:List Int) (kx12_0_0:Int→Option (Int×Bool)) (ag4:t8→Option (Int×Bool)) (n5:Int) (n6:Int):Option (Int×Bool) :=
 oif (decide (n6 < (r3.length:Int))) (
 oif (decide (0≤n6)) (
 oif (Nat.blt (n6.toNat) r3.length) (
 obind (r3[n6.toNat]?) fun n7 =>
 oif (decide (0≤n6)) (
 obind (x1.2.2.1[n6.toNat]?) fun l8 =>
 oif ((l8.length:Int)==0) (
 ag4 (n5,(i64.wrap (n6+1)))) (
 oif (decide (0≤n6)) (
 obind (x1.2.2.1[n6.toNat]?) fun l9 =>
 obind (l9[0]?) fun x10 =>
 obind (g33 d x1.1 x1.2.1 n7 x10.2.2.2.2.2) fun r11 =>
 oif (decide (n5 < 0)) (
 ag4 (r11,(i64.wrap (n6+1)))) (
 oif (decide (r11 < n5)) (
 ag4 (r11,(i64.wrap (n6+1)))) (
 ag4 (n5,(i64.wrap (n6+1)))))) none)) none) none) none) (
 kx12_0_0 n5)
noncomputable def l12_0 (d:Nat) (x1:t4) (r3:List Int) (kx12_0_0:Int→Option (Int×Bool)) (ag4:t8→Option (Int×Bool)) (s:t8):Option (Int×Bool):=l12_0_b d x1 r3 kx12_0_0 ag4 s.1 s.2
theorem e12 (d:Nat) (x1:t4):g12 (d+1) x1 =
 obind (g9 d x1) fun r2 =>
 oif (!r2) (
 some (0,false)) (
 obind (g24 d x1.1) fun r3 =>
 iterP (l12_0 d x1 r3 (j12_0 d)) fuelN ((-1),0)):=by kernel_rfl
theorem e4 (d:Nat) (x1:t4):g4 (d+1) x1 =
 obind (g6 d x1 1048576) fun r2 =>
 oif (decide (r2 < 0)) (
 some true) (
 obind (g8 d x1) fun r3 =>
 obind (g11 d r3) fun r4 =>
 obind (g8 d x1) fun r5 =>
 obind (g12 d r5) fun r6 =>
 oif (r6.1 != r4.1) (
 some false) (
 oif (!(r6.2==r4.2)) (
 some false) (
 obind (g8 d x1) fun r7 =>
 obind (g10 d r5 r7) fun r8 =>
 oif (!r8) (
 some false) (
 some true)))):=by kernel_rfl
end Go.Proofs.YthodldbjhlpjhaaGreatDoor
