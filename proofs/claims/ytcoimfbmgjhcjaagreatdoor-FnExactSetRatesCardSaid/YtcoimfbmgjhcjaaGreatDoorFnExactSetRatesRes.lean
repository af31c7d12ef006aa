/-
  The residual forms of the program's functions under the interpreter by value, printed by program (wip/pv/gen2.py); each equation is checked by the kernel.
  Conditions: none.
-/
import Derived.Test.YtcoimfbmgjhcjaaGreatDoorFnExactSetRatesResA
import Derived.KernelRfl
set_option linter.all false
set_option maxRecDepth 1000000
namespace Go.Proofs.YtcoimfbmgjhcjaaGreatDoor
open Go.Ev Go.Pv
open IntKind (i64 u64)
theorem e25 (d:Nat) (l1:List t5) (n2:Int):R_ (d+1) l1 n2 =
 aa (decide (((i64.wrap (n2 - (l1.length:Int))):Int) < 0)) (
 some (-1)) (
 some (i64.wrap (n2 - (l1.length:Int)))):=by kernel_rfl
theorem e34 (d:Nat) (l1:List t1) (n2:Int):Sa (d+1) l1 n2 =
 aa (decide (((i64.wrap (n2 - (l1.length:Int))):Int) < 0)) (
 some (-1)) (
 some (i64.wrap (n2 - (l1.length:Int)))):=by kernel_rfl
theorem e68 (d:Nat) (l1:List Int) (n2:Int):BF (d+1) l1 n2 =
 aa (decide (((i64.wrap (n2 - (l1.length:Int))):Int) < 0)) (
 some (-1)) (
 some (i64.wrap (n2 - (l1.length:Int)))):=by kernel_rfl
theorem e31 (d:Nat) (x1:t0) (n2:Int):Sb (d+1) x1 n2 =
 aa (decide (((i64.wrap (n2 - (x1.1.size:Int))):Int) < 0)) (
 some (-1)) (
 Q1 (Sa d x1.2.1 (i64.wrap (n2 - (x1.1.size:Int)))) fun r3 =>
 aa (decide (r3 < 0)) (
 some (-1)) (
 Q1 (BF d x1.2.2.1 r3) fun r4 =>
 aa (decide (r4 < 0)) (
 some (-1)) (
 Q1 (BF d x1.2.2.2.1 r4) fun r5 =>
 aa (decide (r5 < 0)) (
 some (-1)) (
 Q1 (BF d x1.2.2.2.2.1 r5) fun r6 =>
 aa (decide (r6 < 0)) (
 some (-1)) (
 Q1 (BF d x1.2.2.2.2.2.1 r6) fun r7 =>
 aa (decide (r7 < 0)) (
 some (-1)) (
 Q1 (R_ d x1.2.2.2.2.2.2.1 r7) fun r8 =>
 aa (decide (r8 < 0)) (
 some (-1)) (
 Q1 (BF d x1.2.2.2.2.2.2.2.1 r8) fun r9 =>
 aa (decide (r9 < 0)) (
 some (-1)) (
 some r9)))))))):=by kernel_rfl
theorem e32 (d:Nat) (x1:t7) (n2:Int):Sc (d+1) x1 n2 =
 Q1 (BF d x1.1 n2) fun r3 =>
 aa (decide (r3 < 0)) (
 some (-1)) (
 Q1 (BF d x1.2 r3) fun r4 =>
 aa (decide (r4 < 0)) (
 some (-1)) (
 some r4)):=by kernel_rfl
theorem e69 (d:Nat) (l1:List t4) (n2:Int):YU (d+1) l1 n2 =
 aa (decide (((i64.wrap (n2 - (l1.length:Int))):Int) < 0)) (
 some (-1)) (
 some (i64.wrap (n2 - (l1.length:Int)))):=by kernel_rfl
noncomputable def Kq (d:Nat) (n4 n5:Int):Option Int :=
 some n4
noncomputable def wS (d:Nat) (l1:List (List t4)) (wT:Int->Int->Option Int) (bN:(Int×Int×Int)->Option Int) (s:(Int×Int×Int)):Option Int :=
(fun n4 n5 n6 =>
 aa (decide (n6 < (l1.length:Int))) (
 aa (decide (0<=n6)) (
 Q1 (l1[n6.toNat]?) fun l7 =>
 Q1 (YU d l7 n4) fun r8 =>
 aa (decide (r8 < 0)) (
 some (-1)) (
 bN (r8,n5,(i64.wrap (n6+1))))) none) (
 wT n4 n5)) s.1 s.2.1 s.2.2
theorem e33 (d:Nat) (l1:List (List t4)) (n2:Int):Sd (d+1) l1 n2 =
 aa (decide (((i64.wrap (n2 - (l1.length:Int))):Int) < 0)) (
 some (-1)) (
 Q8 (wS d l1 (Kq d)) Qd ((i64.wrap (n2 - (l1.length:Int))),0,0)):=by kernel_rfl
theorem e7 (d:Nat) (x1:t2) (n2:Int):g7 (d+1) x1 n2 =
 Q1 (Sb d x1.1 n2) fun r3 =>
 aa (decide (r3 < 0)) (
 some (-1)) (
 Q1 (Sc d x1.2.1 r3) fun r4 =>
 aa (decide (r4 < 0)) (
 some (-1)) (
 Q1 (Sd d x1.2.2.1 r4) fun r5 =>
 aa (decide (r5 < 0)) (
 some (-1)) (
 some r5))):=by kernel_rfl
theorem e64 (d:Nat) (x1:t5):YV (d+1) x1 =
 some x1:=by kernel_rfl
noncomputable def Dm (d:Nat) (l3:List t5):Option (List t5) :=
 some l3
noncomputable def Dn (d:Nat) (l1:List t5) (wU:(List t5)->Option (List t5)) (bV:(Int×(List t5))->Option (List t5)) (s:(Int×(List t5))):Option (List t5) :=
(fun n3 (l4:List t5) =>
 aa (decide (n3 < (l1.length:Int))) (
 aa (decide (0<=n3)) (
 Q1 (l1[n3.toNat]?) fun x5 =>
 Q1 (YV d x5) fun r6 =>
 aa (decide (0<=n3)) (
 aa (Nat.blt (n3.toNat) l4.length) (
 Q1 (l4[n3.toNat]?) fun x7 =>
 bV ((i64.wrap (n3+1)),(l4.set (n3.toNat) r6))) none) none) none) (
 wU l4)) s.1 s.2
theorem e27 (d:Nat) (l1:List t5):Se (d+1) l1 =
 aa (decide (0<=(l1.length:Int))) (
 aa (decide (0<=(l1.length:Int))) (
 aa (Nat.ble ((l1.length:Int).toNat) ((l1.length:Int).toNat)&&Nat.ble (((l1.length:Int).toNat)*40) Q7) (
 Q8 (Dn d l1 (Dm d)) Qd (0,(List.replicate ((l1.length:Int).toNat) ((0,0,0,0,0):t5)))) none) none) none:=by kernel_rfl
theorem e86 (d:Nat) (x1:t1):YW (d+1) x1 =
 some x1:=by kernel_rfl
noncomputable def Dp (d:Nat) (l3:List t1):Option (List t1) :=
 some l3
noncomputable def Dq (d:Nat) (l1:List t1) (wV:(List t1)->Option (List t1)) (bV:t13->Option (List t1)) (s:t13):Option (List t1) :=
(fun n3 (l4:List t1) =>
 aa (decide (n3 < (l1.length:Int))) (
 aa (decide (0<=n3)) (
 Q1 (l1[n3.toNat]?) fun x5 =>
 Q1 (YW d x5) fun r6 =>
 aa (decide (0<=n3)) (
 aa (Nat.blt (n3.toNat) l4.length) (
 Q1 (l4[n3.toNat]?) fun x7 =>
 bV ((i64.wrap (n3+1)),(l4.set (n3.toNat) r6))) none) none) none) (
 wV l4)) s.1 s.2
theorem e41 (d:Nat) (l1:List t1):Sf (d+1) l1 =
 aa (decide (0<=(l1.length:Int))) (
 aa (decide (0<=(l1.length:Int))) (
 aa (Nat.ble ((l1.length:Int).toNat) ((l1.length:Int).toNat)&&Nat.ble (((l1.length:Int).toNat)*64) Q7) (
 Q8 (Dq d l1 (Dp d)) Qd (0,(List.replicate ((l1.length:Int).toNat) ((0,0,0,0,0,0,0,0):t1)))) none) none) none:=by kernel_rfl
noncomputable def Dr (d:Nat) (l3:List Int):Option (List Int) :=
 some l3
noncomputable def Ds (d:Nat) (l1:List Int) (wW:(List Int)->Option (List Int)) (bV:t11->Option (List Int)) (s:t11):Option (List Int) :=
(fun n3 (l4:List Int) =>
 aa (decide (n3 < (l1.length:Int))) (
 aa (decide (0<=n3)) (
 Q1 (l1[n3.toNat]?) fun n5 =>
 aa (decide (0<=n3)) (
 aa (Nat.blt (n3.toNat) l4.length) (
 Q1 (l4[n3.toNat]?) fun n6 =>
 bV ((i64.wrap (n3+1)),(l4.set (n3.toNat) n5))) none) none) none) (
 wW l4)) s.1 s.2
theorem e84 (d:Nat) (l1:List Int):BG (d+1) l1 =
 aa (decide (0<=(l1.length:Int))) (
 aa (decide (0<=(l1.length:Int))) (
 aa (Nat.ble ((l1.length:Int).toNat) ((l1.length:Int).toNat)&&Nat.ble (((l1.length:Int).toNat)*8) Q7) (
 Q8 (Ds d l1 (Dr d)) Qd (0,(List.replicate ((l1.length:Int).toNat) (0:Int)))) none) none) none:=by kernel_rfl
theorem e38 (d:Nat) (x1:t0):Sg (d+1) x1 =
 Q1 (Sf d x1.2.1) fun r2 =>
 Q1 (BG d x1.2.2.1) fun r3 =>
 Q1 (BG d x1.2.2.2.1) fun r4 =>
 Q1 (BG d x1.2.2.2.2.1) fun r5 =>
 Q1 (BG d x1.2.2.2.2.2.1) fun r6 =>
 Q1 (Se d x1.2.2.2.2.2.2.1) fun r7 =>
 Q1 (BG d x1.2.2.2.2.2.2.2.1) fun r8 =>
 some (x1.1,r2,r3,r4,r5,r6,r7,r8,x1.2.2.2.2.2.2.2.2):=by kernel_rfl
theorem e39 (d:Nat) (x1:t7):Sh (d+1) x1 =
 Q1 (BG d x1.1) fun r2 =>
 Q1 (BG d x1.2) fun r3 =>
 some (r2,r3):=by kernel_rfl
theorem Si (d:Nat) (x1:t4):Kr (d+1) x1 =
 some x1:=by kernel_rfl
noncomputable def Dt (d:Nat) (l3:List t4):Option (List t4) :=
 some l3
noncomputable def Du (d:Nat) (l1:List t4) (wX:(List t4)->Option (List t4)) (bV:(Int×(List t4))->Option (List t4)) (s:(Int×(List t4))):Option (List t4) :=
(fun n3 (l4:List t4) =>
 aa (decide (n3 < (l1.length:Int))) (
 aa (decide (0<=n3)) (
 Q1 (l1[n3.toNat]?) fun x5 =>
 Q1 (Kr d x5) fun r6 =>
 aa (decide (0<=n3)) (
 aa (Nat.blt (n3.toNat) l4.length) (
 Q1 (l4[n3.toNat]?) fun x7 =>
 bV ((i64.wrap (n3+1)),(l4.set (n3.toNat) r6))) none) none) none) (
 wX l4)) s.1 s.2
theorem e85 (d:Nat) (l1:List t4):Sj (d+1) l1 =
 aa (decide (0<=(l1.length:Int))) (
 aa (decide (0<=(l1.length:Int))) (
 aa (Nat.ble ((l1.length:Int).toNat) ((l1.length:Int).toNat)&&Nat.ble (((l1.length:Int).toNat)*48) Q7) (
 Q8 (Du d l1 (Dt d)) Qd (0,(List.replicate ((l1.length:Int).toNat) ((0,0,0,0,0,0):t4)))) none) none) none:=by kernel_rfl
noncomputable def Dv (d:Nat) (l3:List (List t4)):Option (List (List t4)) :=
 some l3
noncomputable def Dw (d:Nat) (l1:List (List t4)) (wY:(List (List t4))->Option (List (List t4))) (bV:(Int×(List (List t4)))->Option (List (List t4))) (s:(Int×(List (List t4)))):Option (List (List t4)) :=
(fun n3 (l4:List (List t4)) =>
 aa (decide (n3 < (l1.length:Int))) (
 aa (decide (0<=n3)) (
 Q1 (l1[n3.toNat]?) fun l5 =>
 Q1 (Sj d l5) fun r6 =>
 aa (decide (0<=n3)) (
 aa (Nat.blt (n3.toNat) l4.length) (
 Q1 (l4[n3.toNat]?) fun l7 =>
 bV ((i64.wrap (n3+1)),(l4.set (n3.toNat) r6))) none) none) none) (
 wY l4)) s.1 s.2
theorem e40 (d:Nat) (l1:List (List t4)):Sk (d+1) l1 =
 aa (decide (0<=(l1.length:Int))) (
 aa (decide (0<=(l1.length:Int))) (
 aa (Nat.ble ((l1.length:Int).toNat) ((l1.length:Int).toNat)&&Nat.ble (((l1.length:Int).toNat)*24) Q7) (
 Q8 (Dw d l1 (Dv d)) Qd (0,(List.replicate ((l1.length:Int).toNat) ([]:List t4)))) none) none) none:=by kernel_rfl
theorem e10 (d:Nat) (x1:t2):g10 (d+1) x1 =
 Q1 (Sg d x1.1) fun r2 =>
 Q1 (Sh d x1.2.1) fun r3 =>
 Q1 (Sk d x1.2.2.1) fun r4 =>
 some (r2,r3,r4,x1.2.2.2):=by kernel_rfl
noncomputable def Dx (d:Nat) (b4:Bool):Option Bool :=
 some true
noncomputable def wZ (d:Nat) (l1 l2:List Int) (w4:Bool->Option Bool) (bN:t9->Option Bool) (s:t9):Option Bool :=
(fun (b4:Bool) n5 =>
 aa (decide (n5 < (l1.length:Int))) (
 aa (decide (0<=n5)) (
 Q1 (l1[n5.toNat]?) fun n6 =>
 aa (decide (0<=n5)) (
 Q1 (l2[n5.toNat]?) fun n7 =>
 aa (n6 != n7) (
 some false) (
 bN (b4,(i64.wrap (n5+1))))) none) none) (
 w4 b4)) s.1 s.2
theorem e14 (d:Nat) (l1 l2:List Int):g14 (d+1) l1 l2 =
 aa ((l1.length:Int) != (l2.length:Int)) (
 some false) (
 Q8 (wZ d l1 l2 (Dx d)) Qd (false,0)):=by kernel_rfl
theorem e67 (d:Nat) (x1 x2:t5):YX (d+1) x1 x2 =
 aa (x1.1 != x2.1) (
 some false) (
 aa (x1.2.1 != x2.2.1) (
 some false) (
 aa (x1.2.2.1 != x2.2.2.1) (
 some false) (
 aa (x1.2.2.2.1 != x2.2.2.2.1) (
 some false) (
 aa (x1.2.2.2.2 != x2.2.2.2.2) (
 some false) (
 some true))))):=by kernel_rfl
noncomputable def Dy (d:Nat) (b4:Bool):Option Bool :=
 some true
noncomputable def w5 (d:Nat) (l1 l2:List t5) (w6:Bool->Option Bool) (bN:t9->Option Bool) (s:t9):Option Bool :=
(fun (b4:Bool) n5 =>
 aa (decide (n5 < (l1.length:Int))) (
 aa (decide (0<=n5)) (
 Q1 (l1[n5.toNat]?) fun x6 =>
 aa (decide (0<=n5)) (
 Q1 (l2[n5.toNat]?) fun x7 =>
 Q1 (YX d x6 x7) fun r8 =>
 aa (!r8) (
 some false) (
 bN (b4,(i64.wrap (n5+1))))) none) none) (
 w6 b4)) s.1 s.2
theorem e29 (d:Nat) (l1 l2:List t5):Sl (d+1) l1 l2 =
 aa ((l1.length:Int) != (l2.length:Int)) (
 some false) (
 Q8 (w5 d l1 l2 (Dy d)) Qd (false,0)):=by kernel_rfl
theorem Sm (d:Nat) (x1 x2:t1):Ks (d+1) x1 x2 =
 aa (x1.1 != x2.1) (
 some false) (
 aa (x1.2.1 != x2.2.1) (
 some false) (
 aa (x1.2.2.1 != x2.2.2.1) (
 some false) (
 aa (x1.2.2.2.1 != x2.2.2.2.1) (
 some false) (
 aa (x1.2.2.2.2.1 != x2.2.2.2.2.1) (
 some false) (
 aa (x1.2.2.2.2.2.1 != x2.2.2.2.2.2.1) (
 some false) (
 aa (x1.2.2.2.2.2.2.1 != x2.2.2.2.2.2.2.1) (
 some false) (
 aa (x1.2.2.2.2.2.2.2 != x2.2.2.2.2.2.2.2) (
 some false) (
 some true)))))))):=by kernel_rfl
noncomputable def Dz (d:Nat) (b4:Bool):Option Bool :=
 some true
noncomputable def w7 (d:Nat) (l1 l2:List t1) (w8:Bool->Option Bool) (bN:t9->Option Bool) (s:t9):Option Bool :=
(fun (b4:Bool) n5 =>
 aa (decide (n5 < (l1.length:Int))) (
 aa (decide (0<=n5)) (
 Q1 (l1[n5.toNat]?) fun x6 =>
 aa (decide (0<=n5)) (
 Q1 (l2[n5.toNat]?) fun x7 =>
 Q1 (Ks d x6 x7) fun r8 =>
 aa (!r8) (
 some false) (
 bN (b4,(i64.wrap (n5+1))))) none) none) (
 w8 b4)) s.1 s.2
theorem e48 (d:Nat) (l1 l2:List t1):Sn (d+1) l1 l2 =
 aa ((l1.length:Int) != (l2.length:Int)) (
 some false) (
 Q8 (w7 d l1 l2 (Dz d)) Qd (false,0)):=by kernel_rfl
theorem e45 (d:Nat) (x1 x2:t0):So (d+1) x1 x2 =
 aa (!(x1.1.toList==x2.1.toList)) (
 some false) (
 Q1 (Sn d x1.2.1 x2.2.1) fun r3 =>
 aa (!r3) (
 some false) (
 Q1 (g14 d x1.2.2.1 x2.2.2.1) fun r4 =>
 aa (!r4) (
 some false) (
 Q1 (g14 d x1.2.2.2.1 x2.2.2.2.1) fun r5 =>
 aa (!r5) (
 some false) (
 Q1 (g14 d x1.2.2.2.2.1 x2.2.2.2.2.1) fun r6 =>
 aa (!r6) (
 some false) (
 Q1 (g14 d x1.2.2.2.2.2.1 x2.2.2.2.2.2.1) fun r7 =>
 aa (!r7) (
 some false) (
 Q1 (Sl d x1.2.2.2.2.2.2.1 x2.2.2.2.2.2.2.1) fun r8 =>
 aa (!r8) (
 some false) (
 Q1 (g14 d x1.2.2.2.2.2.2.2.1 x2.2.2.2.2.2.2.2.1) fun r9 =>
 aa (!r9) (
 some false) (
 aa (x1.2.2.2.2.2.2.2.2 != x2.2.2.2.2.2.2.2.2) (
 some false) (
 some true))))))))):=by kernel_rfl
theorem e46 (d:Nat) (x1 x2:t7):Sp (d+1) x1 x2 =
 Q1 (g14 d x1.1 x2.1) fun r3 =>
 aa (!r3) (
 some false) (
 Q1 (g14 d x1.2 x2.2) fun r4 =>
 aa (!r4) (
 some false) (
 some true)):=by kernel_rfl
theorem Sq (d:Nat) (x1 x2:t4):Kt (d+1) x1 x2 =
 aa (x1.1 != x2.1) (
 some false) (
 aa (x1.2.1 != x2.2.1) (
 some false) (
 aa (x1.2.2.1 != x2.2.2.1) (
 some false) (
 aa (x1.2.2.2.1 != x2.2.2.2.1) (
 some false) (
 aa (x1.2.2.2.2.1 != x2.2.2.2.2.1) (
 some false) (
 aa (x1.2.2.2.2.2 != x2.2.2.2.2.2) (
 some false) (
 some true)))))):=by kernel_rfl
noncomputable def w9 (d:Nat) (b4:Bool):Option Bool :=
 some true
noncomputable def oS (d:Nat) (l1 l2:List t4) (sV:Bool->Option Bool) (bN:t9->Option Bool) (s:t9):Option Bool :=
(fun (b4:Bool) n5 =>
 aa (decide (n5 < (l1.length:Int))) (
 aa (decide (0<=n5)) (
 Q1 (l1[n5.toNat]?) fun x6 =>
 aa (decide (0<=n5)) (
 Q1 (l2[n5.toNat]?) fun x7 =>
 Q1 (Kt d x6 x7) fun r8 =>
 aa (!r8) (
 some false) (
 bN (b4,(i64.wrap (n5+1))))) none) none) (
 sV b4)) s.1 s.2
theorem Sr (d:Nat) (l1 l2:List t4):Fi (d+1) l1 l2 =
 aa ((l1.length:Int) != (l2.length:Int)) (
 some false) (
 Q8 (oS d l1 l2 (w9 d)) Qd (false,0)):=by kernel_rfl
noncomputable def DA (d:Nat) (b4:Bool):Option Bool :=
 some true
noncomputable def w_ (d:Nat) (l1 l2:List (List t4)) (xd:Bool->Option Bool) (bN:t9->Option Bool) (s:t9):Option Bool :=
(fun (b4:Bool) n5 =>
 aa (decide (n5 < (l1.length:Int))) (
 aa (decide (0<=n5)) (
 Q1 (l1[n5.toNat]?) fun l6 =>
 aa (decide (0<=n5)) (
 Q1 (l2[n5.toNat]?) fun l7 =>
 Q1 (Fi d l6 l7) fun r8 =>
 aa (!r8) (
 some false) (
 bN (b4,(i64.wrap (n5+1))))) none) none) (
 xd b4)) s.1 s.2
theorem e47 (d:Nat) (l1 l2:List (List t4)):Ss (d+1) l1 l2 =
 aa ((l1.length:Int) != (l2.length:Int)) (
 some false) (
 Q8 (w_ d l1 l2 (DA d)) Qd (false,0)):=by kernel_rfl
theorem e13 (d:Nat) (x1 x2:t2):g13 (d+1) x1 x2 =
 Q1 (So d x1.1 x2.1) fun r3 =>
 aa (!r3) (
 some false) (
 Q1 (Sp d x1.2.1 x2.2.1) fun r4 =>
 aa (!r4) (
 some false) (
 Q1 (Ss d x1.2.2.1 x2.2.2.1) fun r5 =>
 aa (!r5) (
 some false) (
 aa (x1.2.2.2.1 != x2.2.2.2.1) (
 some false) (
 aa (x1.2.2.2.2 != x2.2.2.2.2) (
 some false) (
 some true))))):=by kernel_rfl
noncomputable def xe (d:Nat) (n4:Int) (l5:List Int):Option t11 :=
 some (n4,l5)
noncomputable def rF (d:Nat) (xg:Int->(List Int)->Option t11) (bN:(Int×Int×(List Int))->Option t11) (s:(Int×Int×(List Int))):Option t11 :=
(fun n4 n5 (l6:List Int) =>
 aa (decide (n5 < (l6.length:Int))) (
 aa (decide (0<=n5)) (
 aa (Nat.blt (n5.toNat) l6.length) (
 Q1 (l6[n5.toNat]?) fun n7 =>
 bN ((i64.wrap (n4+1)),(i64.wrap (n5+1)),(l6.set (n5.toNat) n4))) none) none) (
 xg n4 l6)) s.1 s.2.1 s.2.2
theorem e18 (d:Nat) (l1:List Int) (n2:Int):g18 (d+1) l1 n2 =
 Q8 (rF d (xe d)) Qd (n2,0,l1):=by kernel_rfl
noncomputable def xh (d:Nat) (n4 n5:Int):Option Int :=
 some n4
noncomputable def rG (d:Nat) (l1:List Int) (xj:Int->Int->Option Int) (bN:(Int×Int×Int)->Option Int) (s:(Int×Int×Int)):Option Int :=
(fun n4 n5 n6 =>
 aa (decide (n6 < (l1.length:Int))) (
 aa (decide (0<=n6)) (
 Q1 (l1[n6.toNat]?) fun n7 =>
 aa (n7 != n4) (
 some (-1)) (
 bN ((i64.wrap (n4+1)),n5,(i64.wrap (n6+1))))) none) (
 xj n4 n5)) s.1 s.2.1 s.2.2
theorem e20 (d:Nat) (l1:List Int) (n2:Int):g20 (d+1) l1 n2 =
 Q8 (rG d l1 (xh d)) Qd (n2,0,0):=by kernel_rfl
noncomputable def oT (d:Nat) (n4 n5:Int):Option Int :=
 some n4
noncomputable def kO (d:Nat) (l1:List t1) (sW:Int->Int->Option Int) (bN:(Int×Int×Int)->Option Int) (s:(Int×Int×Int)):Option Int :=
(fun n4 n5 n6 =>
 aa (decide (n6 < (l1.length:Int))) (
 aa (decide (0<=n6)) (
 Q1 (l1[n6.toNat]?) fun x7 =>
 aa (x7.1 != n4) (
 some (-1)) (
 aa (decide (0<=n6)) (
 Q1 (l1[n6.toNat]?) fun x8 =>
 aa (x8.2.1 != (i64.wrap (n4+1))) (
 some (-1)) (
 aa (decide (0<=n6)) (
 Q1 (l1[n6.toNat]?) fun x9 =>
 aa (x9.2.2.1 != (i64.wrap ((i64.wrap (n4+1))+1))) (
 some (-1)) (
 aa (decide (0<=n6)) (
 Q1 (l1[n6.toNat]?) fun aR =>
 aa (aR.2.2.2.1 != (i64.wrap ((i64.wrap ((i64.wrap (n4+1))+1))+1))) (
 some (-1)) (
 aa (decide (0<=n6)) (
 Q1 (l1[n6.toNat]?) fun bQ =>
 aa (bQ.2.2.2.2.1 != (i64.wrap ((i64.wrap ((i64.wrap ((i64.wrap (n4+1))+1))+1))+1))) (
 some (-1)) (
 aa (decide (0<=n6)) (
 Q1 (l1[n6.toNat]?) fun dB =>
 aa (dB.2.2.2.2.2.1 != (i64.wrap ((i64.wrap ((i64.wrap ((i64.wrap ((i64.wrap (n4+1))+1))+1))+1))+1))) (
 some (-1)) (
 aa (decide (0<=n6)) (
 Q1 (l1[n6.toNat]?) fun gC =>
 aa (gC.2.2.2.2.2.2.1 != (i64.wrap ((i64.wrap ((i64.wrap ((i64.wrap ((i64.wrap ((i64.wrap (n4+1))+1))+1))+1))+1))+1))) (
 some (-1)) (
 aa (decide (0<=n6)) (
 Q1 (l1[n6.toNat]?) fun mI =>
 aa (mI.2.2.2.2.2.2.2 != (i64.wrap ((i64.wrap ((i64.wrap ((i64.wrap ((i64.wrap ((i64.wrap ((i64.wrap (n4+1))+1))+1))+1))+1))+1))+1))) (
 some (-1)) (
 bN ((i64.wrap ((i64.wrap ((i64.wrap ((i64.wrap ((i64.wrap ((i64.wrap ((i64.wrap ((i64.wrap (n4+1))+1))+1))+1))+1))+1))+1))+1)),n5,(i64.wrap (n6+1))))) none)) none)) none)) none)) none)) none)) none)) none) (
 sW n4 n5)) s.1 s.2.1 s.2.2
theorem Su (d:Nat) (l1:List t1) (n2:Int):Fj (d+1) l1 n2 =
 Q8 (kO d l1 (oT d)) Qd (n2,0,0):=by kernel_rfl
noncomputable def oU (d:Nat) (n4 n5:Int):Option Int :=
 some n4
noncomputable def kP (d:Nat) (l1:List t5) (sY:Int->Int->Option Int) (bN:(Int×Int×Int)->Option Int) (s:(Int×Int×Int)):Option Int :=
(fun n4 n5 n6 =>
 aa (decide (n6 < (l1.length:Int))) (
 aa (decide (0<=n6)) (
 Q1 (l1[n6.toNat]?) fun x7 =>
 aa (x7.1 != n4) (
 some (-1)) (
 aa (decide (0<=n6)) (
 Q1 (l1[n6.toNat]?) fun x8 =>
 aa (x8.2.1 != (i64.wrap (n4+1))) (
 some (-1)) (
 aa (decide (0<=n6)) (
 Q1 (l1[n6.toNat]?) fun x9 =>
 aa (x9.2.2.1 != (i64.wrap ((i64.wrap (n4+1))+1))) (
 some (-1)) (
 aa (decide (0<=n6)) (
 Q1 (l1[n6.toNat]?) fun aR =>
 aa (aR.2.2.2.1 != (i64.wrap ((i64.wrap ((i64.wrap (n4+1))+1))+1))) (
 some (-1)) (
 aa (decide (0<=n6)) (
 Q1 (l1[n6.toNat]?) fun bQ =>
 aa (bQ.2.2.2.2 != (i64.wrap ((i64.wrap ((i64.wrap ((i64.wrap (n4+1))+1))+1))+1))) (
 some (-1)) (
 bN ((i64.wrap ((i64.wrap ((i64.wrap ((i64.wrap ((i64.wrap (n4+1))+1))+1))+1))+1)),n5,(i64.wrap (n6+1))))) none)) none)) none)) none)) none) (
 sY n4 n5)) s.1 s.2.1 s.2.2
theorem Sv (d:Nat) (l1:List t5) (n2:Int):Fk (d+1) l1 n2 =
 Q8 (kP d l1 (oU d)) Qd (n2,0,0):=by kernel_rfl
theorem e53 (d:Nat) (x1:t0) (n2:Int):Sw (d+1) x1 n2 =
 Q1 (Fj d x1.2.1 n2) fun r3 =>
 aa (decide (r3 < 0)) (
 some (-1)) (
 Q1 (g20 d x1.2.2.1 r3) fun r4 =>
 aa (decide (r4 < 0)) (
 some (-1)) (
 Q1 (g20 d x1.2.2.2.1 r4) fun r5 =>
 aa (decide (r5 < 0)) (
 some (-1)) (
 Q1 (g20 d x1.2.2.2.2.1 r5) fun r6 =>
 aa (decide (r6 < 0)) (
 some (-1)) (
 Q1 (g20 d x1.2.2.2.2.2.1 r6) fun r7 =>
 aa (decide (r7 < 0)) (
 some (-1)) (
 Q1 (Fk d x1.2.2.2.2.2.2.1 r7) fun r8 =>
 aa (decide (r8 < 0)) (
 some (-1)) (
 Q1 (g20 d x1.2.2.2.2.2.2.2.1 r8) fun r9 =>
 aa (decide (r9 < 0)) (
 some (-1)) (
 some r9))))))):=by kernel_rfl
theorem e54 (d:Nat) (x1:t7) (n2:Int):Sx (d+1) x1 n2 =
 Q1 (g20 d x1.1 n2) fun r3 =>
 aa (decide (r3 < 0)) (
 some (-1)) (
 Q1 (g20 d x1.2 r3) fun r4 =>
 aa (decide (r4 < 0)) (
 some (-1)) (
 some r4)):=by kernel_rfl
noncomputable def oR (d:Nat) (n4 n5:Int):Option Int :=
 some n4
noncomputable def kK (d:Nat) (l1:List t4) (sZ:Int->Int->Option Int) (bN:(Int×Int×Int)->Option Int) (s:(Int×Int×Int)):Option Int :=
(fun n4 n5 n6 =>
 aa (decide (n6 < (l1.length:Int))) (
 aa (decide (0<=n6)) (
 Q1 (l1[n6.toNat]?) fun x7 =>
 aa (x7.1 != n4) (
 some (-1)) (
 aa (decide (0<=n6)) (
 Q1 (l1[n6.toNat]?) fun x8 =>
 aa (x8.2.1 != (i64.wrap (n4+1))) (
 some (-1)) (
 aa (decide (0<=n6)) (
 Q1 (l1[n6.toNat]?) fun x9 =>
 aa (x9.2.2.1 != (i64.wrap ((i64.wrap (n4+1))+1))) (
 some (-1)) (
 aa (decide (0<=n6)) (
 Q1 (l1[n6.toNat]?) fun aR =>
 aa (aR.2.2.2.1 != (i64.wrap ((i64.wrap ((i64.wrap (n4+1))+1))+1))) (
 some (-1)) (
 aa (decide (0<=n6)) (
 Q1 (l1[n6.toNat]?) fun bQ =>
 aa (bQ.2.2.2.2.1 != (i64.wrap ((i64.wrap ((i64.wrap ((i64.wrap (n4+1))+1))+1))+1))) (
 some (-1)) (
 aa (decide (0<=n6)) (
 Q1 (l1[n6.toNat]?) fun dB =>
 aa (dB.2.2.2.2.2 != (i64.wrap ((i64.wrap ((i64.wrap ((i64.wrap ((i64.wrap (n4+1))+1))+1))+1))+1))) (
 some (-1)) (
 bN ((i64.wrap ((i64.wrap ((i64.wrap ((i64.wrap ((i64.wrap ((i64.wrap (n4+1))+1))+1))+1))+1))+1)),n5,(i64.wrap (n6+1))))) none)) none)) none)) none)) none)) none) (
 sZ n4 n5)) s.1 s.2.1 s.2.2
theorem Rx (d:Nat) (l1:List t4) (n2:Int):Ku (d+1) l1 n2 =
 Q8 (kK d l1 (oR d)) Qd (n2,0,0):=by kernel_rfl
noncomputable def wJ (d:Nat) (n4 n5:Int):Option Int :=
 some n4
noncomputable def ri (d:Nat) (l1:List (List t4)) (xk:Int->Int->Option Int) (bN:(Int×Int×Int)->Option Int) (s:(Int×Int×Int)):Option Int :=
(fun n4 n5 n6 =>
 aa (decide (n6 < (l1.length:Int))) (
 aa (decide (0<=n6)) (
 Q1 (l1[n6.toNat]?) fun l7 =>
 Q1 (Ku d l7 n4) fun r8 =>
 aa (decide (r8 < 0)) (
 some (-1)) (
 bN (r8,n5,(i64.wrap (n6+1))))) none) (
 xk n4 n5)) s.1 s.2.1 s.2.2
theorem e55 (d:Nat) (l1:List (List t4)) (n2:Int):YY (d+1) l1 n2 =
 Q8 (ri d l1 (wJ d)) Qd (n2,0,0):=by kernel_rfl
theorem e19 (d:Nat) (x1:t2) (n2:Int):g19 (d+1) x1 n2 =
 Q1 (Sw d x1.1 n2) fun r3 =>
 aa (decide (r3 < 0)) (
 some (-1)) (
 Q1 (Sx d x1.2.1 r3) fun r4 =>
 aa (decide (r4 < 0)) (
 some (-1)) (
 Q1 (YY d x1.2.2.1 r4) fun r5 =>
 aa (decide (r5 < 0)) (
 some (-1)) (
 some r5))):=by kernel_rfl
theorem e72 (d:Nat) (n1 n2 n3:Int):i_ (d+1) n1 n2 n3 =
 aa (decide (n1>=n2)) (
 some (decide (n1<=n3))) (
 some false):=by kernel_rfl
noncomputable def Fl (d:Nat) (b4:Bool):Option Bool :=
 some false
noncomputable def oV (d:Nat) (l1:List ByteArray) (s2:ByteArray) (s_:Bool->Option Bool) (bN:t9->Option Bool) (s:t9):Option Bool :=
(fun (b4:Bool) n5 =>
 aa (decide (n5 < (l1.length:Int))) (
 aa (decide (0<=n5)) (
 Q1 (l1[n5.toNat]?) fun s6 =>
 aa (s6.toList==s2.toList) (
 some true) (
 bN (b4,(i64.wrap (n5+1))))) none) (
 s_ b4)) s.1 s.2
theorem Sy (d:Nat) (l1:List ByteArray) (s2:ByteArray):Kv (d+1) l1 s2 =
 Q8 (oV d l1 s2 (Fl d)) Qd (false,0):=by kernel_rfl
theorem Sz (d:Nat):Kw (d+1) =
 some [(⟨#[113,100,105,115,99]⟩:ByteArray),(⟨#[100,101,102,97,117,108,116]⟩:ByteArray),(⟨#[99,108,97,115,115]⟩:ByteArray),(⟨#[114,97,116,101]⟩:ByteArray),(⟨#[99,101,105,108]⟩:ByteArray),(⟨#[98,117,114,115,116]⟩:ByteArray),(⟨#[99,98,117,114,115,116]⟩:ByteArray),(⟨#[112,114,105,111]⟩:ByteArray),(⟨#[108,105,109,105,116]⟩:ByteArray),(⟨#[102,105,108,116,101,114]⟩:ByteArray),(⟨#[115,111,117,114,99,101]⟩:ByteArray),(⟨#[100,101,115,116]⟩:ByteArray),(⟨#[112,111,114,116]⟩:ByteArray),(⟨#[109,97,114,107]⟩:ByteArray)]:=by kernel_rfl
theorem SA (d:Nat) (s1:ByteArray):Fm (d+1) s1 =
 Q1 (Kw d) fun r2 =>
 Q1 (Kv d r2 s1) fun r3 =>
 some r3:=by kernel_rfl
noncomputable def xl (d:Nat) (s1:ByteArray) (b3:Bool):Option Bool :=
 Q1 (i_ d (s1.size:Int) 1 8) fun r4 =>
 aa r4 (
 Q1 (Fm d s1) fun r5 =>
 some (!r5)) (
 some false)
noncomputable def xm (d:Nat) (s1:ByteArray) (xq:Bool->Option Bool) (bV:t9->Option Bool) (s:t9):Option Bool :=
(fun (b3:Bool) n4 =>
 aa (decide (n4 < (s1.size:Int))) (
 aa (decide (0<=n4)) (
 Q1 (s1.data.toList[n4.toNat]?) fun c5 =>
 aa (decide ((c5.toNat:Int) < 97)) (
 some false) (
 aa (decide (0<=n4)) (
 Q1 (s1.data.toList[n4.toNat]?) fun c6 =>
 aa (decide ((c6.toNat:Int) > 122)) (
 some false) (
 bV (b3,(i64.wrap (n4+1))))) none)) none) (
 xq b3)) s.1 s.2
theorem e76 (d:Nat) (s1:ByteArray):SB (d+1) s1 =
 Q8 (xm d s1 (xl d s1)) Qd (false,0):=by kernel_rfl
theorem SC (d:Nat) (x1:t1):Fo (d+1) x1 =
 Q1 (i_ d x1.1 1 999) fun r2 =>
 aa r2 (
 Q1 (i_ d x1.2.2.1 1 100000) fun r3 =>
 aa r3 (
 Q1 (i_ d x1.2.2.2.1 x1.2.2.1 100000) fun r4 =>
 aa r4 (
 Q1 (i_ d x1.2.2.2.2.1 1500 1000000) fun r5 =>
 aa r5 (
 Q1 (i_ d x1.2.2.2.2.2.1 1500 1000000) fun r6 =>
 aa r6 (
 Q1 (i_ d x1.2.2.2.2.2.2.1 0 7) fun r7 =>
 some r7) (
 some false)) (
 some false)) (
 some false)) (
 some false)) (
 some false):=by kernel_rfl
noncomputable def Kx (d:Nat) (n4:Int):Option Int :=
 some (-1)
noncomputable def xu (d:Nat) (x1:t3) (n2:Int) (xw:Int->Option Int) (bN:t10->Option Int) (s:t10):Option Int :=
(fun n4 n5 =>
 aa (decide (n5 < (x1.2.1.length:Int))) (
 aa (decide (0<=n5)) (
 Q1 (x1.2.1[n5.toNat]?) fun x6 =>
 aa (x6.1==n2) (
 some n5) (
 bN (n4,(i64.wrap (n5+1))))) none) (
 xw n4)) s.1 s.2
theorem e58 (d:Nat) (x1:t3) (n2:Int):DB (d+1) x1 n2 =
 Q8 (xu d x1 n2 (Kx d)) Qd (0,0):=by kernel_rfl
noncomputable def kQ (d:Nat) (l4:List Int):Option (List Int) :=
 some l4
noncomputable def kR (d:Nat) (fC:(List Int)->Option (List Int)) (x1:t3) (bN:t11->Option (List Int)) (n4:Int) (l5:List Int) (b6 b7:Bool):Option (List Int) :=
 aa b7 (
 aa (Nat.ble ((l5.length+[n4].length)*8) Q7) (
 aa (decide (0<=n4)) (
 Q1 (x1.2.1[n4.toNat]?) fun x8 =>
 Q1 (DB d x1 x8.2.1) fun r9 =>
 bN (r9,(l5++[n4]))) none) none) (
 fC l5)
noncomputable def kS (d:Nat) (x1:t3) (fC:(List Int)->Option (List Int)) (bN:t11->Option (List Int)) (s:t11):Option (List Int) :=
(fun n4 (l5:List Int) =>
 aa (decide (n4>=0)) (
 kR d fC x1 bN n4 l5 true (decide ((l5.length:Int)<=8))) (
 kR d fC x1 bN n4 l5 false false)) s.1 s.2
theorem SD (d:Nat) (x1:t3) (n2:Int):Fp (d+1) x1 n2 =
 Q8 (kS d x1 (kQ d)) Qd (n2,[]):=by kernel_rfl
noncomputable def Fq (d:Nat) (l4:List Int):Option (List Int) :=
 some l4
noncomputable def oW (d:Nat) (x1:t3) (n2:Int) (tc:(List Int)->Option (List Int)) (bN:t14->Option (List Int)) (s:t14):Option (List Int) :=
(fun (l4:List Int) n5 =>
 aa (decide (n5 < (x1.2.1.length:Int))) (
 aa (decide (0<=n5)) (
 Q1 (x1.2.1[n5.toNat]?) fun x6 =>
 aa (decide (0<=n2)) (
 Q1 (x1.2.1[n2.toNat]?) fun x7 =>
 aa (x6.2.1==x7.1) (
 aa (Nat.ble ((l4.length+[n5].length)*8) Q7) (
 bN ((l4++[n5]),(i64.wrap (n5+1)))) none) (
 bN (l4,(i64.wrap (n5+1))))) none) none) (
 tc l4)) s.1 s.2
theorem SE (d:Nat) (x1:t3) (n2:Int):kT (d+1) x1 n2 =
 Q8 (oW d x1 n2 (Fq d)) Qd ([],0):=by kernel_rfl
noncomputable def Fs (d:Nat) (n6:Int):Option Int :=
 some n6
noncomputable def oX (d:Nat) (x1:t3) (r4:List Int) (td:Int->Option Int) (gQ:t10->Option Int) (s:t10):Option Int :=
(fun n6 n7 =>
 aa (decide (n7 < (r4.length:Int))) (
 aa (decide (0<=n7)) (
 aa (Nat.blt (n7.toNat) r4.length) (
 Q1 (r4[n7.toNat]?) fun n8 =>
 aa (decide (0<=n8)) (
 Q1 (x1.2.1[n8.toNat]?) fun x9 =>
 gQ ((i64.wrap (n6 - x9.2.2.1)),(i64.wrap (n7+1)))) none) none) none) (
 td n6)) s.1 s.2
theorem SF (d:Nat) (x1:t3) (n2:Int):Ft (d+1) x1 n2 =
 aa (decide (0<=n2)) (
 Q1 (x1.2.1[n2.toNat]?) fun x3 =>
 Q1 (kT d x1 n2) fun r4 =>
 Q8 (oX d x1 r4 (Fs d)) Qd (x3.2.2.1,0)) none:=by kernel_rfl
theorem SG (d:Nat) (x1:t3) (n2:Int):th (d+1) x1 n2 =
 Q1 (kT d x1 n2) fun r3 =>
 some ((r3.length:Int)==0):=by kernel_rfl
noncomputable def Ky (d:Nat) (b6:Bool):Option Bool :=
 some true
noncomputable def jZ (d:Nat) (gQ:t9->Option Bool) (b6:Bool) (n7:Int) (b14 YZ Y3 b17 Y4:Bool):Option Bool :=
 aa Y4 (
 some false) (
 gQ (b6,(i64.wrap (n7+1))))
noncomputable def j4 (d:Nat) (x1:t3) (gQ:t9->Option Bool) (b6:Bool) (n7:Int) (x8:t1) (Fu DC N7 vA:Bool):Option Bool :=
 aa vA (
 some false) (
 Q1 (th d x1 n7) fun jA =>
 aa jA (
 Q1 (i_ d x8.2.2.2.2.2.2.2 1 60) fun vB =>
 aa (!vB) (
 jZ d gQ b6 n7 jA true (!vB) true true) (
 Q1 (th d x1 n7) fun oY =>
 aa (!oY) (
 jZ d gQ b6 n7 jA true (!vB) false (x8.2.2.2.2.2.2.2 != 0)) (
 jZ d gQ b6 n7 jA true (!vB) false false))) (
 Q1 (th d x1 n7) fun Fv =>
 aa (!Fv) (
 jZ d gQ b6 n7 jA false false false (x8.2.2.2.2.2.2.2 != 0)) (
 jZ d gQ b6 n7 jA false false false false)))
noncomputable def xx (d:Nat) (x1:t3) (xy:Bool->Option Bool) (gQ:t9->Option Bool) (s:t9):Option Bool :=
(fun (b6:Bool) n7 =>
 aa (decide (n7 < (x1.2.1.length:Int))) (
 aa (decide (0<=n7)) (
 Q1 (x1.2.1[n7.toNat]?) fun x8 =>
 Q1 (Fp d x1 n7) fun r9 =>
 aa (decide ((r9.length:Int) > 8)) (
 j4 d x1 gQ b6 n7 x8 true true true true) (
 aa (decide (0<=((i64.wrap ((r9.length:Int) - 1)):Int))) (
 aa (Nat.blt (((i64.wrap ((r9.length:Int) - 1)):Int).toNat) r9.length) (
 Q1 (r9[((i64.wrap ((r9.length:Int) - 1)):Int).toNat]?) fun dV =>
 aa (decide (0<=dV)) (
 Q1 (x1.2.1[dV.toNat]?) fun bQ =>
 aa (bQ.2.1 != 0) (
 j4 d x1 gQ b6 n7 x8 false (bQ.2.1 != 0) true true) (
 Q1 (Ft d x1 n7) fun mJ =>
 j4 d x1 gQ b6 n7 x8 false (bQ.2.1 != 0) false (decide (mJ < 0)))) none) none) none)) none) (
 xy b6)) s.1 s.2
noncomputable def xz (d:Nat) (x1:t3) (b3:Bool) (n4:Int):Option Bool :=
 aa (n4 != 1) (
 some false) (
 Q8 (xx d x1 (Ky d)) Qd (b3,0))
noncomputable def rH (d:Nat) (bV:(Bool×Int×Int)->Option Bool) (b3:Bool) (n4 n5:Int) (x6:t1) (b7 b8 b9 Fu:Bool):Option Bool :=
 aa Fu (
 some false) (
 aa (x6.2.1==0) (
 bV (b3,(i64.wrap (n4+1)),(i64.wrap (n5+1)))) (
 bV (b3,n4,(i64.wrap (n5+1)))))
noncomputable def xA (d:Nat) (x1:t3) (xB:Bool->Int->Option Bool) (bV:(Bool×Int×Int)->Option Bool) (s:(Bool×Int×Int)):Option Bool :=
(fun (b3:Bool) n4 n5 =>
 aa (decide (n5 < (x1.2.1.length:Int))) (
 aa (decide (0<=n5)) (
 Q1 (x1.2.1[n5.toNat]?) fun x6 =>
 Q1 (Fo d x6) fun r7 =>
 aa (!r7) (
 rH d bV b3 n4 n5 x6 r7 (!r7) true true) (
 aa (decide (n5 > 0)) (
 aa (decide (0<=((i64.wrap (n5 - 1)):Int))) (
 Q1 (x1.2.1[((i64.wrap (n5 - 1)):Int).toNat]?) fun x8 =>
 rH d bV b3 n4 n5 x6 r7 (!r7) false (decide (x8.1>=x6.1))) none) (
 rH d bV b3 n4 n5 x6 r7 (!r7) false false))) none) (
 xB b3 n4)) s.1 s.2.1 s.2.2
theorem e77 (d:Nat) (x1:t3):SH (d+1) x1 =
 Q8 (xA d x1 (xz d x1)) Qd (false,0,0):=by kernel_rfl
theorem e79 (d:Nat) (x1:t3) (n2:Int):Kz (d+1) x1 n2 =
 Q1 (DB d x1 n2) fun r3 =>
 aa (decide (r3>=0)) (
 Q1 (th d x1 r3) fun r4 =>
 some r4) (
 some false):=by kernel_rfl
theorem SI (d:Nat) (x1:t5):Fw (d+1) x1 =
 Q1 (i_ d x1.1 1 99) fun r2 =>
 aa r2 (
 Q1 (i_ d x1.2.1 0 3) fun r3 =>
 aa r3 (
 Q1 (i_ d x1.2.2.1 0 65535) fun r4 =>
 aa r4 (
 Q1 (i_ d x1.2.2.2.1 0 65535) fun r5 =>
 aa r5 (
 some (((i64.wrap ((BitVec.ofInt i64.bits x1.2.2.2.1 &&& BitVec.ofInt i64.bits x1.2.2.1).toNat:Int)):Int)==x1.2.2.2.1)) (
 some false)) (
 some false)) (
 some false)) (
 some false):=by kernel_rfl
noncomputable def DD (d:Nat) (x1:t3) (b3:Bool):Option Bool :=
 some (decide ((x1.2.2.1.length:Int)<=16))
noncomputable def nk (d:Nat) (bV:t9->Option Bool) (b3:Bool) (n4:Int) (b6 b7 b8 b9 Fu DC:Bool):Option Bool :=
 aa DC (
 some false) (
 bV (b3,(i64.wrap (n4+1))))
noncomputable def xC (d:Nat) (x1:t3) (xD:Bool->Option Bool) (bV:t9->Option Bool) (s:t9):Option Bool :=
(fun (b3:Bool) n4 =>
 aa (decide (n4 < (x1.2.2.1.length:Int))) (
 aa (decide (0<=n4)) (
 Q1 (x1.2.2.1[n4.toNat]?) fun x5 =>
 Q1 (Fw d x5) fun r6 =>
 aa (!r6) (
 nk d bV b3 n4 r6 (!r6) true true true true) (
 aa (decide (n4 > 0)) (
 aa (decide (0<=((i64.wrap (n4 - 1)):Int))) (
 Q1 (x1.2.2.1[((i64.wrap (n4 - 1)):Int).toNat]?) fun x7 =>
 aa (decide (x7.1>=x5.1)) (
 nk d bV b3 n4 r6 (!r6) false (decide (x7.1>=x5.1)) true true) (
 Q1 (Kz d x1 x5.2.2.2.2) fun r8 =>
 nk d bV b3 n4 r6 (!r6) false (decide (x7.1>=x5.1)) false (!r8))) none) (
 Q1 (Kz d x1 x5.2.2.2.2) fun r9 =>
 nk d bV b3 n4 r6 (!r6) false false false (!r9)))) none) (
 xD b3)) s.1 s.2
theorem e78 (d:Nat) (x1:t3):SJ (d+1) x1 =
 Q8 (xC d x1 (DD d x1)) Qd (false,0):=by kernel_rfl
theorem e36 (d:Nat) (x1:t3):N8 (d+1) x1 =
 Q1 (SB d x1.1) fun r2 =>
 aa r2 (
 Q1 (i_ d (x1.2.1.length:Int) 1 24) fun r3 =>
 aa r3 (
 Q1 (SH d x1) fun r4 =>
 aa r4 (
 Q1 (SJ d x1) fun r5 =>
 aa r5 (
 aa (x1.2.2.2==0) (
 some true) (
 Q1 (Kz d x1 x1.2.2.2) fun r6 =>
 some r6)) (
 some false)) (
 some false)) (
 some false)) (
 some false):=by kernel_rfl
noncomputable def kU (d:Nat) (l1:List t1) (x2:t1) (n4:Int):Option (List t1) :=
 aa (decide (0<=n4)) (
 aa (Nat.ble (n4.toNat) l1.length) (
 aa (Nat.ble ((([]:List t1).length+(l1.take (n4.toNat)).length)*64) Q7) (
 aa (Nat.ble (((([]:List t1)++(l1.take (n4.toNat))).length+[x2].length)*64) Q7) (
 aa (decide (0<=n4)) (
 aa (Nat.ble (n4.toNat) l1.length) (
 aa (Nat.ble ((((([]:List t1)++(l1.take (n4.toNat)))++[x2]).length+(l1.drop (n4.toNat)).length)*64) Q7) (
 some (((([]:List t1)++(l1.take (n4.toNat)))++[x2])++(l1.drop (n4.toNat)))) none) none) none) none) none) none) none
noncomputable def kV (d:Nat) (l1:List t1) (x2:t1) (j5 bN:Int->Option (List t1)) (s:Int):Option (List t1) :=
(fun n4 =>
 aa (decide (n4 < (l1.length:Int))) (
 aa (decide (0<=n4)) (
 Q1 (l1[n4.toNat]?) fun x5 =>
 aa (decide (x5.1 < x2.1)) (
 bN (i64.wrap (n4+1))) (
 j5 n4)) none) (
 j5 n4)) s
theorem SK (d:Nat) (l1:List t1) (x2:t1):BH (d+1) l1 x2 =
 Q8 (kV d l1 x2 (kU d l1 x2)) Qd 0:=by kernel_rfl
noncomputable def xE (d:Nat) (x1:t0) (s3:ByteArray) (n4:Int) (l5:List t1) (l6:List t5):Option t3 :=
 Q1 (i_ d x1.2.2.2.2.2.2.2.2 0 (i64.wrap ((x1.2.1.length:Int) - 1))) fun r7 =>
 aa r7 (
 aa (decide (0<=x1.2.2.2.2.2.2.2.2)) (
 Q1 (x1.2.1[x1.2.2.2.2.2.2.2.2.toNat]?) fun x8 =>
 some (s3,l5,l6,x8.1)) none) (
 some (s3,l5,l6,n4))
noncomputable def xF (d:Nat) (x1:t0) (xG:ByteArray->Int->(List t1)->(List t5)->Option t3) (bV:(Int×t3)->Option t3) (s:(Int×t3)):Option t3 :=
(fun n3 (x4:t3) =>
 aa (decide (n3 < (x1.2.1.length:Int))) (
 aa (decide (0<=n3)) (
 Q1 (x1.2.1[n3.toNat]?) fun x5 =>
 Q1 (BH d x4.2.1 x5) fun r6 =>
 bV ((i64.wrap (n3+1)),(x4.1,r6,x4.2.2))) none) (
 xG x4.1 x4.2.2.2 x4.2.1 x4.2.2.1)) s.1 s.2
theorem e57 (d:Nat) (x1:t0):N9 (d+1) x1 =
 aa (Nat.ble ((([]:List t5).length+x1.2.2.2.2.2.2.1.length)*40) Q7) (
 Q8 (xF d x1 (xE d x1)) Qd (0,(x1.1,[],(([]:List t5)++x1.2.2.2.2.2.2.1),0))) none:=by kernel_rfl
noncomputable def Fx (d:Nat) (l5:List Int):Option (List Int) :=
 some l5
noncomputable def oZ (d:Nat) (x1:t3) (r3:List Int) (tj:(List Int)->Option (List Int)) (ja:t14->Option (List Int)) (s:t14):Option (List Int) :=
(fun (l5:List Int) n6 =>
 aa (decide (n6 < (r3.length:Int))) (
 aa (decide (0<=n6)) (
 aa (Nat.blt (n6.toNat) r3.length) (
 Q1 (r3[n6.toNat]?) fun n7 =>
 Q1 (o5 d x1 n7) fun r8 =>
 aa (Nat.ble ((l5.length+r8.length)*8) Q7) (
 ja ((l5++r8),(i64.wrap (n6+1)))) none) none) none) (
 tj l5)) s.1 s.2
theorem SL (d:Nat) (x1:t3) (n2:Int):o5 (d+1) x1 n2 =
 Q1 (kT d x1 n2) fun r3 =>
 Q8 (oZ d x1 r3 (Fx d)) Qd ([n2],0):=by kernel_rfl
noncomputable def xH (d:Nat) (n3:Int):Option Int :=
 some n3
noncomputable def kW (d:Nat) (x1:t3) (tn bV:Int->Option Int) (s:Int):Option Int :=
(fun n3 =>
 aa (decide (0<=n3)) (
 Q1 (x1.2.1[n3.toNat]?) fun x4 =>
 aa (x4.2.1 != 0) (
 bV (i64.wrap (n3+1))) (
 tn n3)) none) s
theorem SM (d:Nat) (x1:t3):Fy (d+1) x1 =
 Q8 (kW d x1 (xH d)) Qd 0:=by kernel_rfl
noncomputable def o6 (d:Nat) (x1:t3) (l5:List Int) (Y5:ByteArray) (eL:Int) (gR:List t1) (dW eT Fz KA:List Int) (vC:List t5) (tq:List Int):Option t0 :=
 aa (x1.2.2.2 != 0) (
 Q1 (DB d x1 x1.2.2.2) fun vD =>
 aa (decide (0<=vD)) (
 aa (Nat.blt (vD.toNat) l5.length) (
 Q1 (l5[vD.toNat]?) fun eM =>
 some (Y5,gR,dW,eT,Fz,KA,vC,tq,eM)) none) none) (
 some (Y5,gR,dW,eT,Fz,KA,vC,tq,eL))
noncomputable def kX (d:Nat) (x1:t3) (l5:List Int) (tu:ByteArray->Int->(List t1)->(List Int)->(List Int)->(List Int)->(List Int)->(List t5)->(List Int)->Option t0) (FA:(Int×t0)->Option t0) (s:(Int×t0)):Option t0 :=
(fun eD (fR:t0) =>
 aa (decide (eD < (x1.2.2.1.length:Int))) (
 aa (decide (0<=eD)) (
 Q1 (x1.2.2.1[eD.toNat]?) fun nq =>
 Q1 (DB d x1 nq.2.2.2.2) fun BI =>
 aa (decide (0<=BI)) (
 aa (Nat.blt (BI.toNat) l5.length) (
 Q1 (l5[BI.toNat]?) fun o7 =>
 aa (Nat.ble ((fR.2.2.2.2.2.2.2.1.length+[o7].length)*8) Q7) (
 FA ((i64.wrap (eD+1)),(fR.1,fR.2.1,fR.2.2.1,fR.2.2.2.1,fR.2.2.2.2.1,fR.2.2.2.2.2.1,fR.2.2.2.2.2.2.1,(fR.2.2.2.2.2.2.2.1++[o7]),fR.2.2.2.2.2.2.2.2))) none) none) none) none) (
 tu fR.1 fR.2.2.2.2.2.2.2.2 fR.2.1 fR.2.2.1 fR.2.2.2.1 fR.2.2.2.2.1 fR.2.2.2.2.2.1 fR.2.2.2.2.2.2.1 fR.2.2.2.2.2.2.2.1)) s.1 s.2
noncomputable def kY (d:Nat) (x1:t3) (l5:List Int) (s7:ByteArray) (n8:Int) (l9:List t1) (l10 kZ DE fS:List Int) (j6:List t5) (ia:List Int):Option t0 :=
 Q8 (kX d x1 l5 (o6 d x1 l5)) Qd (0,(s7,l9,l10,kZ,DE,fS,j6,ia,n8))
noncomputable def k_ (d:Nat) (x1:t3) (gd:(Int×t0)->Option t0) (n7:Int) (x8:t0) (n9:Int) (aR:t1) (jL nr eD:Int) (Y4:Bool):Option t0 :=
 aa (Nat.ble ((x8.2.2.1.length+[jL].length)*8) Q7) (
 aa (Nat.ble ((x8.2.2.2.1.length+[eD].length)*8) Q7) (
 aa (Nat.ble ((x8.2.2.2.2.1.length+[nr].length)*8) Q7) (
 Q1 (o5 d x1 n9) fun vE =>
 aa (Nat.ble ((x8.2.2.2.2.2.1.length+[(i64.wrap (n7+(vE.length:Int)))].length)*8) Q7) (
 gd ((i64.wrap (n7+1)),(x8.1,(x8.2.1++[aR]),(x8.2.2.1++[jL]),(x8.2.2.2.1++[eD]),(x8.2.2.2.2.1++[nr]),(x8.2.2.2.2.2.1++[(i64.wrap (n7+(vE.length:Int)))]),x8.2.2.2.2.2.2))) none) none) none) none
noncomputable def ld (d:Nat) (x1:t3) (l5:List Int) (gd:(Int×t0)->Option t0) (n7:Int) (x8:t0) (n9:Int) (aR:t1) (jL nr:Int) (YZ:Bool):Option t0 :=
 Q1 (kT d x1 n9) fun oY =>
 aa (decide ((oY.length:Int) > 0)) (
 aa (Nat.blt 0 oY.length) (
 Q1 (oY[0]?) fun eD =>
 aa (decide (0<=eD)) (
 aa (Nat.blt (eD.toNat) l5.length) (
 Q1 (l5[eD.toNat]?) fun eL =>
 k_ d x1 gd n7 x8 n9 aR jL nr eL true) none) none) none) (
 k_ d x1 gd n7 x8 n9 aR jL nr (-1) false)
noncomputable def xI (d:Nat) (x1:t3) (l5:List Int) (gd:(Int×t0)->Option t0) (n7:Int) (x8:t0) (n9:Int) (aR:t1) (jL dL eD:Int):Option t0 :=
 ld d x1 l5 gd n7 x8 n9 aR jL dL true
noncomputable def o8 (d:Nat) (l5 jA:List Int) (nu:t10->Option t0) (dL eD:Int) (b19 KB:Bool):Option t0 :=
 aa KB (
 aa (decide (0<=((i64.wrap (eD+1)):Int))) (
 aa (Nat.blt (((i64.wrap (eD+1)):Int).toNat) jA.length) (
 Q1 (jA[((i64.wrap (eD+1)):Int).toNat]?) fun o7 =>
 aa (decide (0<=o7)) (
 aa (Nat.blt (o7.toNat) l5.length) (
 Q1 (l5[o7.toNat]?) fun n22 =>
 nu (n22,(i64.wrap (eD+1)))) none) none) none) none) (
 nu (dL,(i64.wrap (eD+1))))
noncomputable def lg (d:Nat) (l5:List Int) (n9:Int) (jA:List Int) (tv:Int->Int->Option t0) (nu:t10->Option t0) (s:t10):Option t0 :=
(fun dL eD =>
 aa (decide (eD < (jA.length:Int))) (
 aa (decide (0<=eD)) (
 aa (Nat.blt (eD.toNat) jA.length) (
 Q1 (jA[eD.toNat]?) fun eL =>
 aa (eL==n9) (
 o8 d l5 jA nu dL eD true (decide (((i64.wrap (eD+1)):Int) < (jA.length:Int)))) (
 o8 d l5 jA nu dL eD false false)) none) none) (
 tv dL eD)) s.1 s.2
noncomputable def jb (d:Nat) (x1:t3) (r3 l5:List Int) (tw:ByteArray->Int->(List t1)->(List Int)->(List Int)->(List Int)->(List Int)->(List t5)->(List Int)->Option t0) (gd:(Int×t0)->Option t0) (s:(Int×t0)):Option t0 :=
(fun n7 (x8:t0) =>
 aa (decide (n7 < (r3.length:Int))) (
 aa (decide (0<=n7)) (
 aa (Nat.blt (n7.toNat) r3.length) (
 Q1 (r3[n7.toNat]?) fun n9 =>
 aa (decide (0<=n9)) (
 Q1 (x1.2.1[n9.toNat]?) fun aR =>
 aa (Nat.ble ((x8.2.1.length+[aR].length)*64) Q7) (
 aa (decide (0<=n9)) (
 Q1 (x1.2.1[n9.toNat]?) fun bQ =>
 Q1 (DB d x1 bQ.2.1) fun mJ =>
 aa (decide (mJ>=0)) (
 aa (decide (0<=mJ)) (
 aa (Nat.blt (mJ.toNat) l5.length) (
 Q1 (l5[mJ.toNat]?) fun jL =>
 Q1 (kT d x1 mJ) fun jA =>
 Q8 (lg d l5 n9 jA (xI d x1 l5 gd n7 x8 n9 aR jL)) Qd ((-1),0)) none) none) (
 ld d x1 l5 gd n7 x8 n9 aR (-1) (-1) false)) none) none) none) none) none) (
 tw x8.1 x8.2.2.2.2.2.2.2.2 x8.2.1 x8.2.2.1 x8.2.2.2.1 x8.2.2.2.2.1 x8.2.2.2.2.2.1 x8.2.2.2.2.2.2.1 x8.2.2.2.2.2.2.2.1)) s.1 s.2
noncomputable def o9 (d:Nat) (x1:t3) (r3 l5:List Int):Option t0 :=
 aa (Nat.ble ((([]:List t5).length+x1.2.2.1.length)*40) Q7) (
 Q8 (jb d x1 r3 l5 (kY d x1 l5)) Qd (0,(x1.1,[],[],[],[],[],(([]:List t5)++x1.2.2.1),[],(-1)))) none
noncomputable def o_ (d:Nat) (r3:List Int) (tA:(List Int)->Option t0) (ja:t11->Option t0) (s:t11):Option t0 :=
(fun n5 (l6:List Int) =>
 aa (decide (n5 < (r3.length:Int))) (
 aa (decide (0<=n5)) (
 aa (Nat.blt (n5.toNat) r3.length) (
 Q1 (r3[n5.toNat]?) fun n7 =>
 aa (decide (0<=n7)) (
 aa (Nat.blt (n7.toNat) l6.length) (
 Q1 (l6[n7.toNat]?) fun n8 =>
 ja ((i64.wrap (n5+1)),(l6.set (n7.toNat) n5))) none) none) none) none) (
 tA l6)) s.1 s.2
theorem SN (d:Nat) (x1:t3):BJ (d+1) x1 =
 Q1 (Fy d x1) fun r2 =>
 Q1 (o5 d x1 r2) fun r3 =>
 aa (decide (0<=(r3.length:Int))) (
 aa (decide (0<=(r3.length:Int))) (
 aa (Nat.ble ((r3.length:Int).toNat) ((r3.length:Int).toNat)&&Nat.ble (((r3.length:Int).toNat)*8) Q7) (
 Q8 (o_ d r3 (o9 d x1 r3)) Qd (0,(List.replicate ((r3.length:Int).toNat) (0:Int)))) none) none) none:=by kernel_rfl
noncomputable def FB (d:Nat) (b4:Bool):Option Bool :=
 some true
noncomputable def pe (d:Nat) (l1 l2:List Int) (tB:Bool->Option Bool) (bN:t9->Option Bool) (s:t9):Option Bool :=
(fun (b4:Bool) n5 =>
 aa (decide (n5 < (l1.length:Int))) (
 aa (decide (0<=n5)) (
 Q1 (l1[n5.toNat]?) fun n6 =>
 aa (decide (0<=n5)) (
 Q1 (l2[n5.toNat]?) fun n7 =>
 aa (n6 != n7) (
 some false) (
 bN (b4,(i64.wrap (n5+1))))) none) none) (
 tB b4)) s.1 s.2
theorem SO (d:Nat) (l1 l2:List Int):pg (d+1) l1 l2 =
 aa ((l1.length:Int) != (l2.length:Int)) (
 some false) (
 Q8 (pe d l1 l2 (FB d)) Qd (false,0)):=by kernel_rfl
noncomputable def pn (d:Nat) (x1 x2:t0) (b7:Bool):Option Bool :=
 Q1 (pg d x1.2.2.1 x2.2.2.1) fun r8 =>
 aa r8 (
 Q1 (pg d x1.2.2.2.1 x2.2.2.2.1) fun r9 =>
 aa r9 (
 Q1 (pg d x1.2.2.2.2.1 x2.2.2.2.2.1) fun lp =>
 aa lp (
 Q1 (pg d x1.2.2.2.2.2.1 x2.2.2.2.2.2.1) fun gS =>
 aa gS (
 Q1 (pg d x1.2.2.2.2.2.2.2.1 x2.2.2.2.2.2.2.2.1) fun mJ =>
 some mJ) (
 some false)) (
 some false)) (
 some false)) (
 some false)
noncomputable def pq (d:Nat) (x1 x2:t0) (tC:Bool->Option Bool) (gd:t9->Option Bool) (s:t9):Option Bool :=
(fun (b7:Bool) n8 =>
 aa (decide (n8 < (x1.2.2.2.2.2.2.1.length:Int))) (
 aa (decide (0<=n8)) (
 Q1 (x1.2.2.2.2.2.2.1[n8.toNat]?) fun x9 =>
 aa (decide (0<=n8)) (
 Q1 (x2.2.2.2.2.2.2.1[n8.toNat]?) fun aR =>
 aa (!((x9.1==aR.1)&&((x9.2.1==aR.2.1)&&((x9.2.2.1==aR.2.2.1)&&((x9.2.2.2.1==aR.2.2.2.1)&&((x9.2.2.2.2==aR.2.2.2.2)&&true)))))) (
 some false) (
 gd (b7,(i64.wrap (n8+1))))) none) none) (
 tC b7)) s.1 s.2
noncomputable def pz (d:Nat) (x1 x2:t0) (b5:Bool):Option Bool :=
 Q8 (pq d x1 x2 (pn d x1 x2)) Qd (b5,0)
noncomputable def pE (d:Nat) (x1 x2:t0) (tD:Bool->Option Bool) (ja:t9->Option Bool) (s:t9):Option Bool :=
(fun (b5:Bool) n6 =>
 aa (decide (n6 < (x1.2.1.length:Int))) (
 aa (decide (0<=n6)) (
 Q1 (x1.2.1[n6.toNat]?) fun x7 =>
 aa (decide (0<=n6)) (
 Q1 (x2.2.1[n6.toNat]?) fun x8 =>
 aa (!((x7.1==x8.1)&&((x7.2.1==x8.2.1)&&((x7.2.2.1==x8.2.2.1)&&((x7.2.2.2.1==x8.2.2.2.1)&&((x7.2.2.2.2.1==x8.2.2.2.2.1)&&((x7.2.2.2.2.2.1==x8.2.2.2.2.2.1)&&((x7.2.2.2.2.2.2.1==x8.2.2.2.2.2.2.1)&&((x7.2.2.2.2.2.2.2==x8.2.2.2.2.2.2.2)&&true))))))))) (
 some false) (
 ja (b5,(i64.wrap (n6+1))))) none) none) (
 tD b5)) s.1 s.2
noncomputable def jc (d:Nat) (x1 x2:t0) (b3:Bool):Option Bool :=
 aa b3 (
 some false) (
 Q8 (pE d x1 x2 (pz d x1 x2)) Qd (false,0))
theorem SP (d:Nat) (x1 x2:t0):FC (d+1) x1 x2 =
 aa (!(x1.1.toList==x2.1.toList)) (
 jc d x1 x2 true) (
 aa ((x1.2.1.length:Int) != (x2.2.1.length:Int)) (
 jc d x1 x2 true) (
 aa ((x1.2.2.2.2.2.2.1.length:Int) != (x2.2.2.2.2.2.2.1.length:Int)) (
 jc d x1 x2 true) (
 jc d x1 x2 (x1.2.2.2.2.2.2.2.2 != x2.2.2.2.2.2.2.2.2)))):=by kernel_rfl
noncomputable def pG (d:Nat) (x1:t0) (b2:Bool):Option Bool :=
 aa b2 (
 some false) (
 Q1 (N9 d x1) fun r3 =>
 Q1 (N8 d r3) fun r4 =>
 aa r4 (
 Q1 (BJ d r3) fun r5 =>
 Q1 (FC d x1 r5) fun r6 =>
 some r6) (
 some false))
theorem SQ (d:Nat) (x1:t0):FD (d+1) x1 =
 aa (decide ((x1.2.1.length:Int) > 24)) (
 pG d x1 true) (
 pG d x1 (decide ((x1.2.2.2.2.2.2.1.length:Int) > 16))):=by kernel_rfl
noncomputable def FE (d:Nat) (b5:Bool):Option Bool :=
 some true
noncomputable def pH (d:Nat) (x1:t0) (x2:t7) (tG:Bool->Option Bool) (ja:t9->Option Bool) (s:t9):Option Bool :=
(fun (b5:Bool) n6 =>
 aa (decide (n6 < (x1.2.1.length:Int))) (
 aa (decide (0<=n6)) (
 Q1 (x1.2.1[n6.toNat]?) fun x7 =>
 aa (decide (0<=n6)) (
 Q1 (x2.1[n6.toNat]?) fun n8 =>
 Q1 (i_ d n8 0 x7.2.2.2.2.1) fun r9 =>
 aa (!r9) (
 some false) (
 aa (decide (0<=n6)) (
 Q1 (x2.2[n6.toNat]?) fun dV =>
 Q1 (i_ d dV 0 x7.2.2.2.2.2.1) fun gS =>
 aa (!gS) (
 some false) (
 ja (b5,(i64.wrap (n6+1))))) none)) none) none) (
 tG b5)) s.1 s.2
noncomputable def pI (d:Nat) (x1:t0) (x2:t7) (b3:Bool):Option Bool :=
 aa b3 (
 some false) (
 Q8 (pH d x1 x2 (FE d)) Qd (false,0))
theorem SS (d:Nat) (x1:t0) (x2:t7):FF (d+1) x1 x2 =
 aa ((x2.1.length:Int) != (x1.2.1.length:Int)) (
 pI d x1 x2 true) (
 pI d x1 x2 ((x2.2.length:Int) != (x1.2.1.length:Int))):=by kernel_rfl
theorem e70 (d:Nat) (x1:t0) (x2:t7):SU (d+1) x1 x2 =
 Q1 (FD d x1) fun r3 =>
 aa r3 (
 Q1 (FF d x1 x2) fun r4 =>
 some r4) (
 some false):=by kernel_rfl
theorem SV (d:Nat) (x1:t0) (n2:Int):FG (d+1) x1 n2 =
 aa (decide (0<=n2)) (
 Q1 (x1.2.2.2.1[n2.toNat]?) fun n3 =>
 some (decide (n3 < 0))) none:=by kernel_rfl
noncomputable def KC (d:Nat) (l3:List Int):Option (List Int) :=
 some l3
noncomputable def xJ (d:Nat) (x1:t0) (xK:(List Int)->Option (List Int)) (bV:t14->Option (List Int)) (s:t14):Option (List Int) :=
(fun (l3:List Int) n4 =>
 aa (decide (n4 < (x1.2.1.length:Int))) (
 Q1 (FG d x1 n4) fun r5 =>
 aa r5 (
 aa (Nat.ble ((l3.length+[n4].length)*8) Q7) (
 bV ((l3++[n4]),(i64.wrap (n4+1)))) none) (
 bV (l3,(i64.wrap (n4+1))))) (
 xK l3)) s.1 s.2
theorem e71 (d:Nat) (x1:t0):Dc (d+1) x1 =
 Q8 (xJ d x1 (KC d)) Qd ([],0):=by kernel_rfl
theorem SW (d:Nat) (n1:Int):tH (d+1) n1 =
 Q1 (i_ d n1 0 65535) fun r2 =>
 some r2:=by kernel_rfl
theorem e73 (d:Nat) (x1:t4):SX (d+1) x1 =
 Q1 (i_ d x1.1 1 100000) fun r2 =>
 aa r2 (
 Q1 (tH d x1.2.1) fun r3 =>
 aa r3 (
 Q1 (tH d x1.2.2.1) fun r4 =>
 aa r4 (
 Q1 (tH d x1.2.2.2.1) fun r5 =>
 aa r5 (
 Q1 (tH d x1.2.2.2.2.1) fun r6 =>
 aa r6 (
 Q1 (i_ d x1.2.2.2.2.2 1 1500) fun r7 =>
 some r7) (
 some false)) (
 some false)) (
 some false)) (
 some false)) (
 some false):=by kernel_rfl
theorem SY (d:Nat) (x1:t4) (n2:Int):KD (d+1) x1 n2 =
 aa (decide (0<=n2)) (
 aa (Nat.blt (n2.toNat) ([x1.2.1,x1.2.2.1,x1.2.2.2.1,x1.2.2.2.2.1].length)) (
 Q1 ([x1.2.1,x1.2.2.1,x1.2.2.2.1,x1.2.2.2.2.1][n2.toNat]?) fun n3 =>
 some n3) none) none:=by kernel_rfl
theorem SZ (d:Nat) (x1:t5) (x2:t4):FH (d+1) x1 x2 =
 Q1 (KD d x2 x1.2.1) fun r3 =>
 some (((i64.wrap ((BitVec.ofInt i64.bits r3 &&& BitVec.ofInt i64.bits x1.2.2.1).toNat:Int)):Int)==x1.2.2.2.1):=by kernel_rfl
noncomputable def FI (d:Nat) (n4:Int):Option Int :=
 some (-1)
noncomputable def pJ (d:Nat) (l1:List t5) (x2:t4) (tI:Int->Option Int) (bN:t10->Option Int) (s:t10):Option Int :=
(fun n4 n5 =>
 aa (decide (n5 < (l1.length:Int))) (
 aa (decide (0<=n5)) (
 Q1 (l1[n5.toNat]?) fun x6 =>
 Q1 (FH d x6 x2) fun r7 =>
 aa r7 (
 some n5) (
 bN (n4,(i64.wrap (n5+1))))) none) (
 tI n4)) s.1 s.2
theorem S0 (d:Nat) (l1:List t5) (x2:t4):FJ (d+1) l1 x2 =
 Q8 (pJ d l1 x2 (FI d)) Qd (0,0):=by kernel_rfl
theorem e74 (d:Nat) (x1:t0) (x2:t4):N_ (d+1) x1 x2 =
 Q1 (FJ d x1.2.2.2.2.2.2.1 x2) fun r3 =>
 aa (decide (r3>=0)) (
 aa (decide (0<=r3)) (
 Q1 (x1.2.2.2.2.2.2.2.1[r3.toNat]?) fun n4 =>
 some n4) none) (
 some x1.2.2.2.2.2.2.2.2):=by kernel_rfl
noncomputable def KF (d:Nat) (b4:Bool):Option Bool :=
 some false
noncomputable def xL (d:Nat) (l1:List Int) (n2:Int) (xM:Bool->Option Bool) (bN:t9->Option Bool) (s:t9):Option Bool :=
(fun (b4:Bool) n5 =>
 aa (decide (n5 < (l1.length:Int))) (
 aa (decide (0<=n5)) (
 Q1 (l1[n5.toNat]?) fun n6 =>
 aa (n6==n2) (
 some true) (
 bN (b4,(i64.wrap (n5+1))))) none) (
 xM b4)) s.1 s.2
theorem e75 (d:Nat) (l1:List Int) (n2:Int):Oa (d+1) l1 n2 =
 Q8 (xL d l1 n2 (KF d)) Qd (false,0):=by kernel_rfl
noncomputable def KG (d:Nat) (b6:Bool):Option Bool :=
 some true
noncomputable def xN (d:Nat) (gQ:(Bool×(List Int)×Int)->Option Bool) (n8:Int) (vA:Bool) (nr:Int) (ia:List Int):Option Bool :=
 gQ (vA,ia,(i64.wrap (n8+1)))
noncomputable def nv (d:Nat) (x1:t2) (r3:List Int) (n8:Int) (l9:List t4) (xO:Bool->Int->(List Int)->Option Bool) (FK:(Bool×(List Int)×Int)->Option Bool) (s:(Bool×(List Int)×Int)):Option Bool :=
(fun (vA:Bool) (j6:List Int) gD =>
 aa (decide (gD < (l9.length:Int))) (
 aa (decide (0<=gD)) (
 Q1 (l9[gD.toNat]?) fun ow =>
 Q1 (SX d ow) fun Fv =>
 aa (!Fv) (
 some false) (
 Q1 (N_ d x1.1 ow) fun BK =>
 aa (decide (0<=n8)) (
 aa (Nat.blt (n8.toNat) r3.length) (
 Q1 (r3[n8.toNat]?) fun tJ =>
 aa (BK != tJ) (
 some false) (
 Q1 (Oa d j6 ow.1) fun BI =>
 aa BI (
 some false) (
 aa (Nat.ble ((j6.length+[ow.1].length)*8) Q7) (
 FK (vA,(j6++[ow.1]),(i64.wrap (gD+1)))) none))) none) none)) none) (
 xO vA gD j6)) s.1 s.2.1 s.2.2
noncomputable def xP (d:Nat) (x1:t2) (r3:List Int) (xQ:Bool->Option Bool) (gQ:(Bool×(List Int)×Int)->Option Bool) (s:(Bool×(List Int)×Int)):Option Bool :=
(fun (b6:Bool) (l7:List Int) n8 =>
 aa (decide (n8 < (x1.2.2.1.length:Int))) (
 aa (decide (0<=n8)) (
 Q1 (x1.2.2.1[n8.toNat]?) fun l9 =>
 aa (decide (0<=n8)) (
 aa (Nat.blt (n8.toNat) r3.length) (
 Q1 (r3[n8.toNat]?) fun dV =>
 aa (decide (0<=dV)) (
 Q1 (x1.1.2.1[dV.toNat]?) fun bQ =>
 aa (decide ((l9.length:Int) > bQ.2.2.2.2.2.2.2)) (
 some false) (
 Q8 (nv d x1 r3 n8 l9 (xN d gQ n8)) Qd (b6,l7,0))) none) none) none) none) (
 xQ b6)) s.1 s.2.1 s.2.2
noncomputable def rI (d:Nat) (x1:t2) (r3:List Int) (b4:Bool):Option Bool :=
 aa b4 (
 some false) (
 Q8 (xP d x1 r3 (KG d)) Qd (false,[],0))
theorem e35 (d:Nat) (x1:t2):S3 (d+1) x1 =
 Q1 (SU d x1.1 x1.2.1) fun r2 =>
 aa (!r2) (
 some false) (
 Q1 (Dc d x1.1) fun r3 =>
 aa ((x1.2.2.1.length:Int) != (r3.length:Int)) (
 rI d x1 r3 true) (
 Q1 (i_ d x1.2.2.2.1 (-1) (i64.wrap ((r3.length:Int) - 1))) fun r4 =>
 aa (!r4) (
 rI d x1 r3 true) (
 Q1 (i_ d x1.2.2.2.2 0 1000000) fun r5 =>
 rI d x1 r3 (!r5)))):=by kernel_rfl
noncomputable def KH (d:Nat) (n4:Int):Option Int :=
 some (-1)
noncomputable def xR (d:Nat) (x1:t0) (n2:Int) (xS:Int->Option Int) (bN:t10->Option Int) (s:t10):Option Int :=
(fun n4 n5 =>
 aa (decide (n5 < (x1.2.1.length:Int))) (
 aa (decide (0<=n5)) (
 Q1 (x1.2.1[n5.toNat]?) fun x6 =>
 aa (x6.1==n2) (
 some n5) (
 bN (n4,(i64.wrap (n5+1))))) none) (
 xS n4)) s.1 s.2
theorem e56 (d:Nat) (x1:t0) (n2:Int):Ob (d+1) x1 n2 =
 Q8 (xR d x1 n2 (KH d)) Qd (0,0):=by kernel_rfl
noncomputable def FL (d:Nat) (l3 l4:List Int):Option t7 :=
 some (l3,l4)
noncomputable def pK (d:Nat) (x1:t0) (tK:(List Int)->(List Int)->Option t7) (bV:(Int×t7)->Option t7) (s:(Int×t7)):Option t7 :=
(fun n3 (x4:t7) =>
 aa (decide (n3 < (x1.2.1.length:Int))) (
 aa (decide (0<=n3)) (
 Q1 (x1.2.1[n3.toNat]?) fun x5 =>
 aa (Nat.ble ((x4.1.length+[x5.2.2.2.2.1].length)*8) Q7) (
 aa (Nat.ble ((x4.2.length+[x5.2.2.2.2.2.1].length)*8) Q7) (
 bV ((i64.wrap (n3+1)),((x4.1++[x5.2.2.2.2.1]),(x4.2++[x5.2.2.2.2.2.1])))) none) none) none) (
 tK x4.1 x4.2)) s.1 s.2
theorem S4 (d:Nat) (x1:t0):FM (d+1) x1 =
 Q8 (pK d x1 (FL d)) Qd (0,([],[])):=by kernel_rfl
theorem e80 (d:Nat) (x1:t3):RU (d+1) x1 =
 Q1 (BJ d x1) fun r2 =>
 Q1 (FM d r2) fun r3 =>
 Q1 (Dc d r2) fun r4 =>
 aa (decide (0<=(r4.length:Int))) (
 aa (decide (0<=(r4.length:Int))) (
 aa (Nat.ble ((r4.length:Int).toNat) ((r4.length:Int).toNat)&&Nat.ble (((r4.length:Int).toNat)*24) Q7) (
 some (r2,r3,(List.replicate ((r4.length:Int).toNat) ([]:List t4)),(-1),0)) none) none) none:=by kernel_rfl
theorem e81 (d:Nat) (n1 n2:Int):Oc (d+1) n1 n2 =
 aa (decide (n1 < n2)) (
 some n1) (
 some n2):=by kernel_rfl
theorem e82 (d:Nat) (x1:t2):RX (d+1) x1 =
 aa (decide (x1.2.2.2.1 < 0)) (
 some 0) (
 Q1 (Dc d x1.1) fun r2 =>
 aa (decide (0<=x1.2.2.2.1)) (
 aa (Nat.blt (x1.2.2.2.1.toNat) r2.length) (
 Q1 (r2[x1.2.2.2.1.toNat]?) fun n3 =>
 aa (decide (0<=n3)) (
 Q1 (x1.1.2.1[n3.toNat]?) fun x4 =>
 some x4.1) none) none) none):=by kernel_rfl
noncomputable def KI (d:Nat) (s9:ByteArray) (dV iy tL:Int) (fS:List t1) (j6 ia pL gh:List Int) (ox:List t5) (gR dW eT vC:List Int) (tq:List (List t4)):Option t8 :=
 some (((s9,fS,j6,ia,pL,gh,ox,gR,dV),(dW,eT),tq,iy,tL),vC)
noncomputable def Dk (d:Nat) (FN:t12->Option t8) (DF n29:Int) (l30:List Int) (j7:List (List t4)):Option t8 :=
 FN (l30,(i64.wrap (DF+1)),j7)
noncomputable def dK (d:Nat) (nx:t12->Option t8) (oy:List Int) (vF:Int) (xT:t4) (n33 n34:Int) (ny:List (List t4)):Option t8 :=
 aa (n33 != 1) (
 aa (Nat.ble ((oy.length+[xT.1].length)*8) Q7) (
 nx ((oy++[xT.1]),(i64.wrap (vF+1)),ny)) none) (
 nx (oy,(i64.wrap (vF+1)),ny))
noncomputable def iX (d:Nat) (nx:t12->Option t8) (oy:List Int) (vF:Int) (j7:List (List t4)) (xT:t4) (KJ:t1) (gT:Int):Option t8 :=
 aa (decide (0<=gT)) (
 aa (Nat.blt (gT.toNat) j7.length) (
 Q1 (j7[gT.toNat]?) fun BL =>
 aa (decide ((BL.length:Int)>=KJ.2.2.2.2.2.2.2)) (
 dK d nx oy vF xT 2 KJ.1 j7) (
 aa (decide (0<=gT)) (
 aa (Nat.blt (gT.toNat) j7.length) (
 Q1 (j7[gT.toNat]?) fun lq =>
 aa (Nat.ble ((lq.length+[xT].length)*48) Q7) (
 aa (decide (0<=gT)) (
 aa (Nat.blt (gT.toNat) j7.length) (
 aa (Nat.beq (gT.toNat) (gT.toNat)) (
 Q1 (j7[gT.toNat]?) fun S5 =>
 dK d nx oy vF xT 1 KJ.1 (j7.set (gT.toNat) (lq++[xT]))) none) none) none) none) none) none)) none) none
noncomputable def nj (d:Nat) (s9:ByteArray) (dV:Int) (fS:List t1) (j6 ia pL gh:List Int) (ox:List t5) (gR:List Int) (mK:Int) (nA FO:Int->Option t8) (s:Int):Option t8 :=
(fun gT =>
 Q1 (Dc d (s9,fS,j6,ia,pL,gh,ox,gR,dV)) fun Y6 =>
 aa (decide (0<=gT)) (
 aa (Nat.blt (gT.toNat) Y6.length) (
 Q1 (Y6[gT.toNat]?) fun Y7 =>
 aa (Y7 != mK) (
 FO (i64.wrap (gT+1))) (
 nA gT)) none) none) s
noncomputable def rC (d:Nat) (s9:ByteArray) (dV:Int) (fS:List t1) (j6 ia pL gh:List Int) (ox:List t5) (gR:List Int) (vG:List t4) (xU:Int->(List Int)->(List (List t4))->Option t8) (nx:t12->Option t8) (s:t12):Option t8 :=
(fun (oy:List Int) vF (j7:List (List t4)) =>
 aa (decide (vF < (vG.length:Int))) (
 aa (decide (0<=vF)) (
 Q1 (vG[vF.toNat]?) fun xT =>
 Q1 (N_ d (s9,fS,j6,ia,pL,gh,ox,gR,dV) xT) fun mK =>
 aa (decide (mK < 0)) (
 dK d nx oy vF xT 3 0 j7) (
 aa (decide (0<=mK)) (
 aa (Nat.blt (mK.toNat) fS.length) (
 Q1 (fS[mK.toNat]?) fun KJ =>
 Q8 (nj d s9 dV fS j6 ia pL gh ox gR mK (iX d nx oy vF j7 xT KJ)) Qd 0) none) none)) none) (
 xU vF oy j7)) s.1 s.2.1 s.2.2
noncomputable def rD (d:Nat) (x1:t2) (s9:ByteArray) (dV:Int) (fS:List t1) (j6 ia pL gh:List Int) (ox:List t5) (gR:List Int) (xV:(List Int)->(List (List t4))->Option t8) (FN:t12->Option t8) (s:t12):Option t8 :=
(fun (vC:List Int) DF (xW:List (List t4)) =>
 aa (decide (DF < (x1.2.2.1.length:Int))) (
 aa (decide (0<=DF)) (
 Q1 (x1.2.2.1[DF.toNat]?) fun vG =>
 Q8 (rC d s9 dV fS j6 ia pL gh ox gR vG (Dk d FN DF)) Qd (vC,0,xW)) none) (
 xV vC xW)) s.1 s.2.1 s.2.2
noncomputable def wO (d:Nat) (x1:t2) (s9:ByteArray) (dV iy tL:Int) (fS:List t1) (j6 ia pL gh:List Int) (ox:List t5) (gR dW eT:List Int) (Fz:List (List t4)):Option t8 :=
 Q8 (rD d x1 s9 dV fS j6 ia pL gh ox gR (KI d s9 dV iy tL fS j6 ia pL gh ox gR dW eT)) Qd ([],0,Fz)
noncomputable def wP (d:Nat) (x1:t2) (r7:List Int) (xX:ByteArray->Int->Int->Int->(List t1)->(List Int)->(List Int)->(List Int)->(List Int)->(List t5)->(List Int)->(List Int)->(List Int)->(List (List t4))->Option t8) (xY:(Int×t2)->Option t8) (s:(Int×t2)):Option t8 :=
(fun n9 (aR:t2) =>
 aa (decide (n9 < (r7.length:Int))) (
 aa (decide (0<=n9)) (
 aa (Nat.blt (n9.toNat) r7.length) (
 Q1 (r7[n9.toNat]?) fun iy =>
 aa (decide (0<=iy)) (
 aa (Nat.blt (iy.toNat) aR.1.2.1.length) (
 Q1 (aR.1.2.1[iy.toNat]?) fun dB =>
 Q1 (RX (d+1) x1) fun tM =>
 aa (dB.1==tM) (
 xY ((i64.wrap (n9+1)),(aR.1,aR.2.1,aR.2.2.1,n9,aR.2.2.2.2))) (
 xY ((i64.wrap (n9+1)),aR))) none) none) none) none) (
 xX aR.1.1 aR.1.2.2.2.2.2.2.2.2 aR.2.2.2.1 aR.2.2.2.2 aR.1.2.1 aR.1.2.2.1 aR.1.2.2.2.1 aR.1.2.2.2.2.1 aR.1.2.2.2.2.2.1 aR.1.2.2.2.2.2.2.1 aR.1.2.2.2.2.2.2.2.1 aR.2.1.1 aR.2.1.2 aR.2.2.1)) s.1 s.2
noncomputable def wN (d:Nat) (x1 r3:t2) (l5 l6:List Int):Option t8 :=
 Q1 (Dc (d+1) r3.1) fun r7 =>
 Q8 (wP d x1 r7 (wO d x1)) Qd (0,(r3.1,(l5,l6),r3.2.2.1,r3.2.2.2.1,x1.2.2.2.2))
noncomputable def rB (d:Nat) (x1 r3:t2) (xZ:(List Int)->(List Int)->Option t8) (ja:t15->Option t8) (s:t15):Option t8 :=
(fun n5 (l6:List Int) (l7:List Int) =>
 aa (decide (n5 < (r3.1.2.1.length:Int))) (
 aa (decide (0<=n5)) (
 aa (Nat.blt (n5.toNat) r3.1.2.1.length) (
 Q1 (r3.1.2.1[n5.toNat]?) fun x8 =>
 Q1 (Ob (d+1) x1.1 x8.1) fun r9 =>
 aa (decide (r9>=0)) (
 aa (decide (0<=r9)) (
 Q1 (x1.2.1.1[r9.toNat]?) fun dV =>
 Q1 (Oc (d+1) dV x8.2.2.2.2.1) fun gS =>
 aa (decide (0<=n5)) (
 aa (Nat.blt (n5.toNat) l6.length) (
 Q1 (l6[n5.toNat]?) fun tL =>
 aa (decide (0<=r9)) (
 Q1 (x1.2.1.2[r9.toNat]?) fun jL =>
 Q1 (Oc (d+1) jL x8.2.2.2.2.2.1) fun jA =>
 aa (decide (0<=n5)) (
 aa (Nat.blt (n5.toNat) l7.length) (
 Q1 (l7[n5.toNat]?) fun gD =>
 ja ((i64.wrap (n5+1)),(l6.set (n5.toNat) gS),(l7.set (n5.toNat) jA))) none) none) none) none) none) none) (
 ja ((i64.wrap (n5+1)),l6,l7))) none) none) (
 xZ l6 l7)) s.1 s.2.1 s.2.2
theorem e37 (d:Nat) (x1:t2) (x2:t3):RY (d+2) x1 x2 =
 Q1 (RU (d+1) x2) fun r3 =>
 Q8 (rB d x1 r3 (wN d x1 r3)) Qd (0,r3.2.1.1,r3.2.1.2):=by kernel_rfl
theorem e59 (d:Nat) (x1:t2) (x2:t3) (b3:Bool):N5 (d+1) x1 x2 b3 =
 aa (!b3) (
 some ((((⟨#[]⟩:ByteArray),[],[],[],[],[],[],[],0),([],[]),[],0,0),[],false)) (
 Q1 (N8 d x2) fun r4 =>
 aa (!r4) (
 some ((((⟨#[]⟩:ByteArray),[],[],[],[],[],[],[],0),([],[]),[],0,0),[],false)) (
 Q1 (RY d x1 x2) fun r5 =>
 some (r5.1,r5.2,true))):=by kernel_rfl
noncomputable def wR (d:Nat) (x1:t2) (n2 n3 n4:Int) (b5:Bool):Option (t2×Bool) :=
 aa b5 (
 some ((((⟨#[]⟩:ByteArray),[],[],[],[],[],[],[],0),([],[]),[],0,0),false)) (
 Q1 (N9 d x1.1) fun r6 =>
 Q1 (DB d r6 n2) fun r7 =>
 aa (decide (0<=r7)) (
 aa (Nat.blt (r7.toNat) r6.2.1.length) (
 Q1 (r6.2.1[r7.toNat]?) fun x8 =>
 Q1 ((r6.2.1.set (r7.toNat) (x8.1,x8.2.1,n3,x8.2.2.2))[r7.toNat]?) fun x9 =>
 Q1 (N5 d x1 (r6.1,((r6.2.1.set (r7.toNat) (x8.1,x8.2.1,n3,x8.2.2.2)).set (r7.toNat) (x9.1,x9.2.1,x9.2.2.1,n4,x9.2.2.2.2)),r6.2.2) true) fun lp =>
 some (lp.1,lp.2.2)) none) none)
theorem e21 (d:Nat) (x1:t2) (n2 n3 n4:Int):g21 (d+1) x1 n2 n3 n4 =
 Q1 (S3 d x1) fun r5 =>
 aa (!r5) (
 wR d x1 n2 n3 n4 true) (
 Q1 (Ob d x1.1 n2) fun r6 =>
 wR d x1 n2 n3 n4 (decide (r6 < 0))):=by kernel_rfl
theorem S6 (d:Nat) (n1:Int):FP (d+1) n1 =
 aa (decide (n1>=97)) (
 some (decide (n1<=122))) (
 some false):=by kernel_rfl
noncomputable def FQ (d:Nat) (b3:Bool):Option Bool :=
 some false
noncomputable def pM (d:Nat) (s1:ByteArray) (tN:Bool->Option Bool) (bV:t9->Option Bool) (s:t9):Option Bool :=
(fun (b3:Bool) n4 =>
 aa (decide (n4 < 14)) (
 aa (decide (0<=n4)) (
 Q1 (([(⟨#[113,100,105,115,99]⟩:ByteArray),(⟨#[100,101,102,97,117,108,116]⟩:ByteArray),(⟨#[99,108,97,115,115]⟩:ByteArray),(⟨#[114,97,116,101]⟩:ByteArray),(⟨#[99,101,105,108]⟩:ByteArray),(⟨#[98,117,114,115,116]⟩:ByteArray),(⟨#[99,98,117,114,115,116]⟩:ByteArray),(⟨#[112,114,105,111]⟩:ByteArray),(⟨#[108,105,109,105,116]⟩:ByteArray),(⟨#[102,105,108,116,101,114]⟩:ByteArray),(⟨#[115,111,117,114,99,101]⟩:ByteArray),(⟨#[100,101,115,116]⟩:ByteArray),(⟨#[112,111,114,116]⟩:ByteArray),(⟨#[109,97,114,107]⟩:ByteArray)]:List ByteArray)[n4.toNat]?) fun s5 =>
 aa (s5.toList==s1.toList) (
 some true) (
 bV (b3,(i64.wrap (n4+1))))) none) (
 tN b3)) s.1 s.2
theorem S7 (d:Nat) (s1:ByteArray):FR (d+1) s1 =
 Q8 (pM d s1 (FQ d)) Qd (false,0):=by kernel_rfl
noncomputable def pN (d:Nat) (s1:ByteArray) (b4:Bool):Option Bool :=
 Q1 (FR d s1) fun r5 =>
 some (!r5)
noncomputable def pO (d:Nat) (s1:ByteArray) (tO:Bool->Option Bool) (bN:t9->Option Bool) (s:t9):Option Bool :=
(fun (b4:Bool) n5 =>
 aa (decide (n5 < (s1.size:Int))) (
 aa (decide (0<=n5)) (
 Q1 (s1.data.toList[n5.toNat]?) fun c6 =>
 Q1 (FP d (c6.toNat:Int)) fun r7 =>
 aa (!r7) (
 some false) (
 bN (b4,(i64.wrap (n5+1))))) none) (
 tO b4)) s.1 s.2
noncomputable def pP (d:Nat) (s1:ByteArray) (b2:Bool):Option Bool :=
 aa b2 (
 some false) (
 Q8 (pO d s1 (pN d s1)) Qd (false,0))
theorem S8 (d:Nat) (s1:ByteArray):FT (d+1) s1 =
 aa (decide (((s1.size:Int):Int) < 1)) (
 pP d s1 true) (
 pP d s1 (decide (((s1.size:Int):Int) > 8))):=by kernel_rfl
theorem S9 (d:Nat) (n1:Int):FU (d+1) n1 =
 aa (decide (n1>=1)) (
 some (decide (n1<=999))) (
 some false):=by kernel_rfl
noncomputable def x_ (d:Nat) (x1:t3) (b3:Bool):Option Bool :=
 aa (decide ((x1.2.1.length:Int)>=1)) (
 some (decide ((x1.2.1.length:Int)<=24))) (
 some false)
noncomputable def pQ (d:Nat) (x1:t3) (tP:Bool->Option Bool) (bV:t9->Option Bool) (s:t9):Option Bool :=
(fun (b3:Bool) n4 =>
 aa (decide (n4 < (x1.2.1.length:Int))) (
 aa (decide (0<=n4)) (
 Q1 (x1.2.1[n4.toNat]?) fun x5 =>
 Q1 (FU d x5.1) fun r6 =>
 aa (!r6) (
 some false) (
 aa (decide (n4 > 0)) (
 aa (decide (0<=((i64.wrap (n4 - 1)):Int))) (
 Q1 (x1.2.1[((i64.wrap (n4 - 1)):Int).toNat]?) fun x7 =>
 aa (decide (x5.1<=x7.1)) (
 some false) (
 bV (b3,(i64.wrap (n4+1))))) none) (
 bV (b3,(i64.wrap (n4+1)))))) none) (
 tP b3)) s.1 s.2
theorem S_ (d:Nat) (x1:t3):FV (d+1) x1 =
 Q8 (pQ d x1 (x_ d x1)) Qd (false,0):=by kernel_rfl
noncomputable def ya (d:Nat) (n4:Int):Option Int :=
 some (-1)
noncomputable def jd (d:Nat) (x1:t3) (n2:Int) (nB:Int->Option Int) (bN:t10->Option Int) (s:t10):Option Int :=
(fun n4 n5 =>
 aa (decide (n5 < (x1.2.1.length:Int))) (
 aa (decide (0<=n5)) (
 Q1 (x1.2.1[n5.toNat]?) fun x6 =>
 aa (x6.1==n2) (
 some n5) (
 bN (n4,(i64.wrap (n5+1))))) none) (
 nB n4)) s.1 s.2
theorem e61 (d:Nat) (x1:t3) (n2:Int):ID (d+3) x1 n2 =
 Q8 (jd d x1 n2 (ya d)) Qd (0,0):=by kernel_rfl
noncomputable def FW (d:Nat) (l3:List Int):Option (List Int) :=
 some l3
noncomputable def pR (d:Nat) (bV:t14->Option (List Int)) (l3:List Int) (n4:Int) (b6 b7:Bool):Option (List Int) :=
 aa b7 (
 aa (Nat.ble ((l3.length+[n4].length)*8) Q7) (
 bV ((l3++[n4]),(i64.wrap (n4+1)))) none) (
 bV (l3,(i64.wrap (n4+1))))
noncomputable def pS (d:Nat) (x1:t3) (tQ:(List Int)->Option (List Int)) (bV:t14->Option (List Int)) (s:t14):Option (List Int) :=
(fun (l3:List Int) n4 =>
 aa (decide (n4 < (x1.2.1.length:Int))) (
 aa (decide (0<=n4)) (
 Q1 (x1.2.1[n4.toNat]?) fun x5 =>
 aa (x5.2.1 != 0) (
 Q1 (ID d x1 x5.2.1) fun r6 =>
 pR d bV l3 n4 true (decide (r6 < 0))) (
 pR d bV l3 n4 false false)) none) (
 tQ l3)) s.1 s.2
theorem Ta (d:Nat) (x1:t3):FX (d+1) x1 =
 Q8 (pS d x1 (FW d)) Qd (([]:List Int),0):=by kernel_rfl
noncomputable def pT (d:Nat) (x1:t3) (n3:Int):Option Bool :=
 aa (n3==1) (
 Q1 (FX d x1) fun r4 =>
 some ((r4.length:Int)==0)) (
 some false)
noncomputable def pU (d:Nat) (x1:t3) (tR:Int->Option Bool) (bV:t10->Option Bool) (s:t10):Option Bool :=
(fun n3 n4 =>
 aa (decide (n4 < (x1.2.1.length:Int))) (
 aa (decide (0<=n4)) (
 Q1 (x1.2.1[n4.toNat]?) fun x5 =>
 aa (x5.2.1==0) (
 bV ((i64.wrap (n3+1)),(i64.wrap (n4+1)))) (
 bV (n3,(i64.wrap (n4+1))))) none) (
 tR n3)) s.1 s.2
theorem Tb (d:Nat) (x1:t3):FY (d+1) x1 =
 Q8 (pU d x1 (pT d x1)) Qd (0,0):=by kernel_rfl
noncomputable def FZ (d:Nat) (n4:Int):Option Int :=
 some (-1)
noncomputable def pV (d:Nat) (l1:List Int) (n2:Int) (tS:Int->Option Int) (bN:t10->Option Int) (s:t10):Option Int :=
(fun n4 n5 =>
 aa (decide (n5 < (l1.length:Int))) (
 aa (decide (0<=n5)) (
 Q1 (l1[n5.toNat]?) fun n6 =>
 aa (n2==n6) (
 some n5) (
 bN (n4,(i64.wrap (n5+1))))) none) (
 tS n4)) s.1 s.2
theorem Tc (d:Nat) (l1:List Int) (n2:Int):wG (d+1) l1 n2 =
 Q8 (pV d l1 n2 (FZ d)) Qd (0,0):=by kernel_rfl
theorem Td (d:Nat) (l1:List Int) (n2:Int):F0 (d+1) l1 n2 =
 Q1 (wG d l1 n2) fun r3 =>
 some (decide (r3>=0)):=by kernel_rfl
noncomputable def yb (d:Nat) (b4:Bool) (l5 l6:List Int):Option ((List Int)×Bool) :=
 some (l6,true)
noncomputable def yd (d:Nat) (x1:t3) (tT:Bool->(List Int)->(List Int)->Option ((List Int)×Bool)) (bN:(Int×(List Int)×Bool×(List Int))->Option ((List Int)×Bool)) (s:(Int×(List Int)×Bool×(List Int))):Option ((List Int)×Bool) :=
(fun n4 (l5:List Int) (b6:Bool) (l7:List Int) =>
 aa (decide (n4>=0)) (
 Q1 (F0 d l7 n4) fun r8 =>
 aa r8 (
 some (l7,false)) (
 aa (Nat.ble ((l7.length+[n4].length)*8) Q7) (
 aa (decide (0<=n4)) (
 Q1 (x1.2.1[n4.toNat]?) fun x9 =>
 Q1 (ID d x1 x9.2.1) fun lp =>
 bN (lp,l5,b6,(l7++[n4]))) none) none)) (
 tT b6 l5 l7)) s.1 s.2.1 s.2.2.1 s.2.2.2
theorem Te (d:Nat) (x1:t3) (n2:Int):F1 (d+1) x1 n2 =
 Q8 (yd d x1 (yb d)) Qd (n2,[],false,([]:List Int)):=by kernel_rfl
noncomputable def F2 (d:Nat) (b3:Bool):Option Bool :=
 some true
noncomputable def pX (d:Nat) (x1:t3) (tU:Bool->Option Bool) (bV:t9->Option Bool) (s:t9):Option Bool :=
(fun (b3:Bool) n4 =>
 aa (decide (n4 < (x1.2.1.length:Int))) (
 Q1 (F1 d x1 n4) fun r5 =>
 aa (!r5.2) (
 some false) (
 aa (decide ((r5.1.length:Int) > 8)) (
 some false) (
 aa (decide (0<=((i64.wrap ((r5.1.length:Int) - 1)):Int))) (
 aa (Nat.blt (((i64.wrap ((r5.1.length:Int) - 1)):Int).toNat) r5.1.length) (
 Q1 (r5.1[((i64.wrap ((r5.1.length:Int) - 1)):Int).toNat]?) fun n6 =>
 aa (decide (0<=n6)) (
 Q1 (x1.2.1[n6.toNat]?) fun x7 =>
 aa (x7.2.1 != 0) (
 some false) (
 bV (b3,(i64.wrap (n4+1))))) none) none) none))) (
 tU b3)) s.1 s.2
theorem Tf (d:Nat) (x1:t3):F3 (d+1) x1 =
 Q8 (pX d x1 (F2 d)) Qd (false,0):=by kernel_rfl
theorem Tg (d:Nat) (x1:t1):F4 (d+1) x1 =
 aa (decide (x1.2.2.1>=1)) (
 aa (decide (x1.2.2.1<=100000)) (
 aa (decide (x1.2.2.2.1>=x1.2.2.1)) (
 some (decide (x1.2.2.2.1<=100000))) (
 some false)) (
 some false)) (
 some false):=by kernel_rfl
noncomputable def jM (d:Nat) (n3:Int):Option Bool :=
 some (!(decide (((-1):Int)>=0)))
noncomputable def ef (d:Nat) (x1:t3) (gU:Int->Option Bool) (bV:t10->Option Bool) (s:t10):Option Bool :=
(fun n3 n4 =>
 aa (decide (n4 < (x1.2.1.length:Int))) (
 aa (decide (0<=n4)) (
 Q1 (x1.2.1[n4.toNat]?) fun x5 =>
 aa (decide (x5.2.2.1 < 0)) (
 some (!(decide (n4>=0)))) (
 aa (decide (x5.2.2.1 > 1000000000)) (
 some (!(decide (n4>=0)))) (
 bV (n3,(i64.wrap (n4+1)))))) none) (
 gU n3)) s.1 s.2
theorem Th (d:Nat) (x1:t3):F5 (d+4) x1 =
 Q8 (ef d x1 (jM d)) Qd (0,0):=by kernel_rfl
noncomputable def F6 (d:Nat) (l4:List Int):Option (List Int) :=
 some l4
noncomputable def pY (d:Nat) (x1:t3) (n2:Int) (tV:(List Int)->Option (List Int)) (bN:t14->Option (List Int)) (s:t14):Option (List Int) :=
(fun (l4:List Int) n5 =>
 aa (decide (n5 < (x1.2.1.length:Int))) (
 aa (decide (0<=n5)) (
 Q1 (x1.2.1[n5.toNat]?) fun x6 =>
 aa (decide (0<=n2)) (
 Q1 (x1.2.1[n2.toNat]?) fun x7 =>
 aa (x6.2.1==x7.1) (
 aa (Nat.ble ((l4.length+[n5].length)*8) Q7) (
 bN ((l4++[n5]),(i64.wrap (n5+1)))) none) (
 bN (l4,(i64.wrap (n5+1))))) none) none) (
 tV l4)) s.1 s.2
theorem Ti (d:Nat) (x1:t3) (n2:Int):ye (d+1) x1 n2 =
 Q8 (pY d x1 n2 (F6 d)) Qd (([]:List Int),0):=by kernel_rfl
noncomputable def F7 (d:Nat) (n5:Int):Option Int :=
 some n5
noncomputable def pZ (d:Nat) (x1:t3) (r3:List Int) (tW:Int->Option Int) (ja:t10->Option Int) (s:t10):Option Int :=
(fun n5 n6 =>
 aa (decide (n6 < (r3.length:Int))) (
 aa (decide (0<=n6)) (
 aa (Nat.blt (n6.toNat) r3.length) (
 Q1 (r3[n6.toNat]?) fun n7 =>
 aa (decide (0<=n7)) (
 Q1 (x1.2.1[n7.toNat]?) fun x8 =>
 ja ((i64.wrap (n5+x8.2.2.1)),(i64.wrap (n6+1)))) none) none) none) (
 tW n5)) s.1 s.2
theorem Tj (d:Nat) (x1:t3) (n2:Int):F8 (d+1) x1 n2 =
 Q1 (ye d x1 n2) fun r3 =>
 Q8 (pZ d x1 r3 (F7 d)) Qd (0,0):=by kernel_rfl
noncomputable def F9 (d:Nat) (l3:List Int):Option (List Int) :=
 some l3
noncomputable def p5 (d:Nat) (x1:t3) (tX:(List Int)->Option (List Int)) (bV:t14->Option (List Int)) (s:t14):Option (List Int) :=
(fun (l3:List Int) n4 =>
 aa (decide (n4 < (x1.2.1.length:Int))) (
 aa (decide (0<=n4)) (
 Q1 (x1.2.1[n4.toNat]?) fun x5 =>
 Q1 (F8 d x1 n4) fun r6 =>
 aa (decide (r6 > x5.2.2.1)) (
 aa (Nat.ble ((l3.length+[n4].length)*8) Q7) (
 bV ((l3++[n4]),(i64.wrap (n4+1)))) none) (
 bV (l3,(i64.wrap (n4+1))))) none) (
 tX l3)) s.1 s.2
theorem Tl (d:Nat) (x1:t3):F_ (d+1) x1 =
 Q8 (p5 d x1 (F9 d)) Qd (([]:List Int),0):=by kernel_rfl
theorem Tm (d:Nat) (x1:t1):Ga (d+1) x1 =
 aa (decide (x1.2.2.2.2.1>=1500)) (
 aa (decide (x1.2.2.2.2.1<=1000000)) (
 aa (decide (x1.2.2.2.2.2.1>=1500)) (
 aa (decide (x1.2.2.2.2.2.1<=1000000)) (
 aa (decide (x1.2.2.2.2.2.2.1>=0)) (
 some (decide (x1.2.2.2.2.2.2.1<=7))) (
 some false)) (
 some false)) (
 some false)) (
 some false)) (
 some false):=by kernel_rfl
noncomputable def jN (d:Nat) (n4:Int):Option Bool :=
 some (!(decide (((-1):Int)>=0)))
noncomputable def eg (d:Nat) (x1:t3) (n2:Int) (gV:Int->Option Bool) (bN:t10->Option Bool) (s:t10):Option Bool :=
(fun n4 n5 =>
 aa (decide (n5 < (x1.2.1.length:Int))) (
 aa (decide (0<=n5)) (
 Q1 (x1.2.1[n5.toNat]?) fun x6 =>
 aa (decide (0<=n2)) (
 Q1 (x1.2.1[n2.toNat]?) fun x7 =>
 aa (x6.2.1==x7.1) (
 some (!(decide (n5>=0)))) (
 bN (n4,(i64.wrap (n5+1))))) none) none) (
 gV n4)) s.1 s.2
theorem Tn (d:Nat) (x1:t3) (n2:Int):tY (d+4) x1 n2 =
 Q8 (eg d x1 n2 (jN d)) Qd (0,0):=by kernel_rfl
theorem To (d:Nat) (x1:t3) (n2:Int):Gb (d+1) x1 n2 =
 aa (decide (0<=n2)) (
 Q1 (x1.2.1[n2.toNat]?) fun x3 =>
 Q1 (tY d x1 n2) fun r4 =>
 aa r4 (
 aa (decide (x3.2.2.2.2.2.2.2>=1)) (
 some (decide (x3.2.2.2.2.2.2.2<=60))) (
 some false)) (
 some (x3.2.2.2.2.2.2.2==0))) none:=by kernel_rfl
theorem Tp (d:Nat) (x1:t3) (n2:Int):yg (d+1) x1 n2 =
 Q1 (ID d x1 n2) fun r3 =>
 aa (decide (r3>=0)) (
 Q1 (tY d x1 r3) fun r4 =>
 some r4) (
 some false):=by kernel_rfl
theorem Tq (d:Nat) (x1:t5):Gc (d+1) x1 =
 aa (decide (x1.1>=1)) (
 aa (decide (x1.1<=99)) (
 aa (decide (x1.2.1>=0)) (
 aa (decide (x1.2.1<=3)) (
 aa (decide (x1.2.2.1>=0)) (
 aa (decide (x1.2.2.1<=65535)) (
 aa (decide (x1.2.2.2.1>=0)) (
 aa (decide (x1.2.2.2.1<=65535)) (
 some (((i64.wrap ((BitVec.ofInt i64.bits x1.2.2.2.1 &&& ~~~BitVec.ofInt i64.bits x1.2.2.1).toNat:Int)):Int)==0)) (
 some false)) (
 some false)) (
 some false)) (
 some false)) (
 some false)) (
 some false)) (
 some false)) (
 some false):=by kernel_rfl
noncomputable def yh (d:Nat) (x1:t3) (b3:Bool):Option Bool :=
 some (decide ((x1.2.2.1.length:Int)<=16))
noncomputable def je (d:Nat) (bV:t9->Option Bool) (b3:Bool) (n4:Int) (b6 b7 b8 b9 Fu DC:Bool):Option Bool :=
 aa DC (
 some false) (
 bV (b3,(i64.wrap (n4+1))))
noncomputable def p6 (d:Nat) (x1:t3) (tZ:Bool->Option Bool) (bV:t9->Option Bool) (s:t9):Option Bool :=
(fun (b3:Bool) n4 =>
 aa (decide (n4 < (x1.2.2.1.length:Int))) (
 aa (decide (0<=n4)) (
 Q1 (x1.2.2.1[n4.toNat]?) fun x5 =>
 Q1 (Gc d x5) fun r6 =>
 aa (!r6) (
 je d bV b3 n4 r6 (!r6) true true true true) (
 aa (decide (n4 > 0)) (
 aa (decide (0<=((i64.wrap (n4 - 1)):Int))) (
 Q1 (x1.2.2.1[((i64.wrap (n4 - 1)):Int).toNat]?) fun x7 =>
 aa (decide (x5.1<=x7.1)) (
 je d bV b3 n4 r6 (!r6) false (decide (x5.1<=x7.1)) true true) (
 Q1 (yg d x1 x5.2.2.2.2) fun r8 =>
 je d bV b3 n4 r6 (!r6) false (decide (x5.1<=x7.1)) false (!r8))) none) (
 Q1 (yg d x1 x5.2.2.2.2) fun r9 =>
 je d bV b3 n4 r6 (!r6) false false false (!r9)))) none) (
 tZ b3)) s.1 s.2
theorem Tt (d:Nat) (x1:t3):Ge (d+1) x1 =
 Q8 (p6 d x1 (yh d x1)) Qd (false,0):=by kernel_rfl
noncomputable def lu (d:Nat) (n8:Int):Option Bool :=
 some (!(decide (((-1):Int)>=0)))
noncomputable def eN (d:Nat) (x1:t3) (dn:Int->Option Bool) (Tu:t10->Option Bool) (s:t10):Option Bool :=
(fun n8 n9 =>
 aa (decide (n9 < (x1.2.1.length:Int))) (
 aa (decide (0<=n9)) (
 Q1 (x1.2.1[n9.toNat]?) fun aR =>
 Q1 (F4 d aR) fun gS =>
 aa (!gS) (
 some (!(decide (n9>=0)))) (
 Tu (n8,(i64.wrap (n9+1))))) none) (
 dn n8)) s.1 s.2
noncomputable def lz (d:Nat) (gD:Int):Option Bool :=
 some (!(decide (((-1):Int)>=0)))
noncomputable def eo (d:Nat) (x1:t3) (dn:Int->Option Bool) (iz:t10->Option Bool) (s:t10):Option Bool :=
(fun gD dL =>
 aa (decide (dL < (x1.2.1.length:Int))) (
 aa (decide (0<=dL)) (
 Q1 (x1.2.1[dL.toNat]?) fun x17 =>
 Q1 (Ga d x17) fun BK =>
 aa (!BK) (
 some (!(decide (dL>=0)))) (
 iz (gD,(i64.wrap (dL+1))))) none) (
 dn gD)) s.1 s.2
noncomputable def KK (d:Nat) (KB:Bool):Option Bool :=
 some true
noncomputable def yj (d:Nat) (x1:t3) (ym:Bool->Option Bool) (Tv:t9->Option Bool) (s:t9):Option Bool :=
(fun (KB:Bool) o7 =>
 aa (decide (o7 < (x1.2.1.length:Int))) (
 Q1 (Gb (d+3) x1 o7) fun rJ =>
 aa (!rJ) (
 some false) (
 Tv (KB,(i64.wrap (o7+1))))) (
 ym KB)) s.1 s.2
theorem AO (d:Nat) (x1:t3) (n2:Int):t_ (d+4) x1 n2 =
 aa (n2==1) (
 Q1 (FT (d+3) x1.1) fun r3 =>
 some r3) (
 aa (n2==2) (
 Q1 (FV (d+3) x1) fun r4 =>
 some r4) (
 aa (n2==3) (
 Q1 (FY (d+3) x1) fun r5 =>
 some r5) (
 aa (n2==4) (
 Q1 (F3 (d+3) x1) fun r6 =>
 some r6) (
 aa (n2==5) (
 Q8 (eN d x1 (lu d)) Qd (0,0)) (
 aa (n2==6) (
 Q1 (F5 (d+3) x1) fun mJ =>
 aa mJ (
 Q1 (F_ (d+3) x1) fun tM =>
 some ((tM.length:Int)==0)) (
 some false)) (
 aa (n2==7) (
 Q8 (eo d x1 (lz d)) Qd (0,0)) (
 aa (n2==8) (
 Q8 (yj d x1 (KK d)) Qd (false,0)) (
 aa (n2==9) (
 Q1 (Ge (d+3) x1) fun AP =>
 some AP) (
 aa (x1.2.2.2==0) (
 some true) (
 Q1 (yg (d+3) x1 x1.2.2.2) fun RS =>
 some RS)))))))))):=by kernel_rfl
noncomputable def gk (d:Nat) (b4:Bool):Option Bool :=
 some true
noncomputable def fq (d:Nat) (x1:t3) (yp:Bool->Option Bool) (bN:t9->Option Bool) (s:t9):Option Bool :=
(fun (b4:Bool) n5 =>
 aa (decide (n5<=10)) (
 Q1 (t_ d x1 n5) fun r6 =>
 aa (!r6) (
 some false) (
 bN (b4,(i64.wrap (n5+1))))) (
 yp b4)) s.1 s.2
noncomputable def yq (d:Nat) (x1:t3) (b2:Bool):Option Bool :=
 aa b2 (
 some false) (
 Q8 (fq d x1 (gk d)) Qd (false,1))
theorem e43 (d:Nat) (x1:t3):Od (d+1) x1 =
 aa (decide ((x1.2.1.length:Int) > 24)) (
 yq d x1 true) (
 yq d x1 (decide ((x1.2.2.1.length:Int) > 16))):=by kernel_rfl
theorem e66 (d:Nat) (l1:List t5):Oe (d+1) l1 =
 IE l1.length (
 some []) (
 aa (Nat.ble ((([]:List t5).length+l1.length)*40) Q7) (
 some (([]:List t5)++l1)) none):=by kernel_rfl
theorem Tw (d:Nat) (l1:List t1):Gf (d+1) l1 =
 IE l1.length (
 some []) (
 aa (Nat.ble ((([]:List t1).length+l1.length)*64) Q7) (
 some (([]:List t1)++l1)) none):=by kernel_rfl
theorem Tx (d:Nat) (n1 n2:Int):ua (d+1) n1 n2 =
 aa (decide (n1 < n2)) (
 some (-1)) (
 aa (decide (n1 > n2)) (
 some 1) (
 some 0)):=by kernel_rfl
noncomputable def p7 (d:Nat) (l6:List t1):Option (List t1) :=
 some l6
noncomputable def p8 (d:Nat) (gQ:t13->Option (List t1)) (n6 n9 dV:Int) (DC N7:Bool) (fS:List t1):Option (List t1) :=
 gQ ((i64.wrap (n6+1)),fS)
noncomputable def lA (d:Nat) (fD:Int->Int->Bool->Bool->(List t1)->Option (List t1)) (n2:Int) (xY:t13->Option (List t1)) (n9:Int) (l10:List t1) (DC N7:Bool):Option (List t1) :=
 aa N7 (
 aa (decide (0<=((i64.wrap (n9 - 1)):Int))) (
 aa (Nat.blt (((i64.wrap (n9 - 1)):Int).toNat) l10.length) (
 Q1 (l10[((i64.wrap (n9 - 1)):Int).toNat]?) fun gC =>
 aa (decide (0<=n9)) (
 aa (Nat.blt (n9.toNat) l10.length) (
 Q1 (l10[n9.toNat]?) fun mI =>
 aa (decide (0<=n9)) (
 aa (Nat.blt (n9.toNat) l10.length) (
 Q1 (l10[n9.toNat]?) fun Tz =>
 aa (decide (0<=((i64.wrap (n9 - 1)):Int))) (
 aa (Nat.blt (((i64.wrap (n9 - 1)):Int).toNat) ((l10.set (n9.toNat) gC).length)) (
 Q1 ((l10.set (n9.toNat) gC)[((i64.wrap (n9 - 1)):Int).toNat]?) fun ow =>
 xY ((i64.wrap (n9 - 1)),((l10.set (n9.toNat) gC).set (((i64.wrap (n9 - 1)):Int).toNat) mI))) none) none) none) none) none) none) none) none) (
 fD n9 n9 (decide (n9 > n2)) DC l10)
noncomputable def yt (d:Nat) (n2:Int) (fD:Int->Int->Bool->Bool->(List t1)->Option (List t1)) (xY:t13->Option (List t1)) (s:t13):Option (List t1) :=
(fun n9 (l10:List t1) =>
 aa (decide (n9 > n2)) (
 aa (decide (0<=n9)) (
 aa (Nat.blt (n9.toNat) l10.length) (
 Q1 (l10[n9.toNat]?) fun bQ =>
 aa (decide (0<=((i64.wrap (n9 - 1)):Int))) (
 aa (Nat.blt (((i64.wrap (n9 - 1)):Int).toNat) l10.length) (
 Q1 (l10[((i64.wrap (n9 - 1)):Int).toNat]?) fun dB =>
 Q1 (ua d bQ.1 dB.1) fun tM =>
 lA d fD n2 xY n9 l10 true (decide (tM < 0))) none) none) none) none) (
 lA d fD n2 xY n9 l10 false false)) s.1 s.2
noncomputable def p9 (d:Nat) (n2 n3:Int) (uc:(List t1)->Option (List t1)) (gQ:t13->Option (List t1)) (s:t13):Option (List t1) :=
(fun n6 (l7:List t1) =>
 aa (decide (n6 < n3)) (
 Q8 (yt d n2 (p8 d gQ n6)) Qd (n6,l7)) (
 uc l7)) s.1 s.2
theorem TA (d:Nat) (l1:List t1) (n2 n3:Int) (b4:Bool):BM (d+2) l1 n2 n3 b4 =
 Q8 (p9 d n2 n3 (p7 d)) Qd ((i64.wrap (n2+1)),l1):=by kernel_rfl
noncomputable def yu (d:Nat) (l7:List t1):Option (List t1) :=
 some l7
noncomputable def yw (d:Nat) (n2 n3 n4:Int) (ud:(List t1)->Option (List t1)) (gd:t13->Option (List t1)) (s:t13):Option (List t1) :=
(fun n7 (l8:List t1) =>
 aa (decide (n7 < n4)) (
 aa (decide (0<=((i64.wrap (n3+n7)):Int))) (
 aa (Nat.blt (((i64.wrap (n3+n7)):Int).toNat) l8.length) (
 Q1 (l8[((i64.wrap (n3+n7)):Int).toNat]?) fun x9 =>
 aa (decide (0<=((i64.wrap (n2+n7)):Int))) (
 aa (Nat.blt (((i64.wrap (n2+n7)):Int).toNat) l8.length) (
 Q1 (l8[((i64.wrap (n2+n7)):Int).toNat]?) fun aR =>
 aa (decide (0<=((i64.wrap (n2+n7)):Int))) (
 aa (Nat.blt (((i64.wrap (n2+n7)):Int).toNat) l8.length) (
 Q1 (l8[((i64.wrap (n2+n7)):Int).toNat]?) fun bQ =>
 aa (decide (0<=((i64.wrap (n3+n7)):Int))) (
 aa (Nat.blt (((i64.wrap (n3+n7)):Int).toNat) ((l8.set (((i64.wrap (n2+n7)):Int).toNat) x9).length)) (
 Q1 ((l8.set (((i64.wrap (n2+n7)):Int).toNat) x9)[((i64.wrap (n3+n7)):Int).toNat]?) fun dB =>
 gd ((i64.wrap (n7+1)),((l8.set (((i64.wrap (n2+n7)):Int).toNat) x9).set (((i64.wrap (n3+n7)):Int).toNat) aR))) none) none) none) none) none) none) none) none) (
 ud l8)) s.1 s.2
theorem TB (d:Nat) (l1:List t1) (n2 n3 n4:Int) (b5:Bool):yx (d+1) l1 n2 n3 n4 b5 =
 Q8 (yw d n2 n3 n4 (yu d)) Qd (0,l1):=by kernel_rfl
noncomputable def yy (d:Nat) (n3 n7:Int) (l8:List t1):Option (List t1) :=
 Q1 (yx d l8 (i64.wrap (n3 - n7)) n3 n7 false) fun r9 =>
 some r9
noncomputable def yz (d:Nat) (n3:Int) (ue:Int->(List t1)->Option (List t1)) (gd:(Int×Int×(List t1))->Option (List t1)) (s:(Int×Int×(List t1))):Option (List t1) :=
(fun n7 n8 (l9:List t1) =>
 aa (n7 != n8) (
 aa (decide (n7 > n8)) (
 Q1 (yx d l9 (i64.wrap (n3 - n7)) n3 n8 false) fun lp =>
 gd ((i64.wrap (n7 - n8)),n8,lp)) (
 Q1 (yx d l9 (i64.wrap (n3 - n7)) (i64.wrap ((i64.wrap (n3+n8)) - n7)) n7 false) fun gS =>
 gd (n7,(i64.wrap (n8 - n7)),gS))) (
 ue n7 l9)) s.1 s.2.1 s.2.2
theorem TC (d:Nat) (l1:List t1) (n2 n3 n4:Int) (b5:Bool):Gg (d+1) l1 n2 n3 n4 b5 =
 Q8 (yz d n3 (yy d n3)) Qd ((i64.wrap (n3 - n2)),(i64.wrap (n4 - n3)),l1):=by kernel_rfl
noncomputable def p_ (d:Nat) (l9:List t1):Option (List t1) :=
 some l9
noncomputable def qa (d:Nat) (n7:Int) (ug:(List t1)->Option (List t1)) (xY:t13->Option (List t1)) (s:t13):Option (List t1) :=
(fun n9 (l10:List t1) =>
 aa (decide (n9 < (i64.wrap (n7 - 1)))) (
 aa (decide (0<=((i64.wrap (n9+1)):Int))) (
 aa (Nat.blt (((i64.wrap (n9+1)):Int).toNat) l10.length) (
 Q1 (l10[((i64.wrap (n9+1)):Int).toNat]?) fun bQ =>
 aa (decide (0<=n9)) (
 aa (Nat.blt (n9.toNat) l10.length) (
 Q1 (l10[n9.toNat]?) fun dB =>
 aa (decide (0<=n9)) (
 aa (Nat.blt (n9.toNat) l10.length) (
 Q1 (l10[n9.toNat]?) fun gC =>
 aa (decide (0<=((i64.wrap (n9+1)):Int))) (
 aa (Nat.blt (((i64.wrap (n9+1)):Int).toNat) ((l10.set (n9.toNat) bQ).length)) (
 Q1 ((l10.set (n9.toNat) bQ)[((i64.wrap (n9+1)):Int).toNat]?) fun mI =>
 xY ((i64.wrap (n9+1)),((l10.set (n9.toNat) bQ).set (((i64.wrap (n9+1)):Int).toNat) dB))) none) none) none) none) none) none) none) none) (
 ug l10)) s.1 s.2
noncomputable def lB (d:Nat) (l1:List t1) (n2 n7:Int):Option (List t1) :=
 Q8 (qa d n7 (p_ d)) Qd (n2,l1)
noncomputable def qb (d:Nat) (l1:List t1) (n2:Int) (uh:Int->Option (List t1)) (gd:t10->Option (List t1)) (s:t10):Option (List t1) :=
(fun n7 n8 =>
 aa (decide (n7 < n8)) (
 aa (decide (0<=((i64.wrap ((u64.wrap (i64.wrap (n7+n8))).fdiv (2 ^ (min (1:Int).toNat u64.bits)))):Int))) (
 aa (Nat.blt (((i64.wrap ((u64.wrap (i64.wrap (n7+n8))).fdiv (2 ^ (min (1:Int).toNat u64.bits)))):Int).toNat) l1.length) (
 Q1 (l1[((i64.wrap ((u64.wrap (i64.wrap (n7+n8))).fdiv (2 ^ (min (1:Int).toNat u64.bits)))):Int).toNat]?) fun x9 =>
 aa (decide (0<=n2)) (
 aa (Nat.blt (n2.toNat) l1.length) (
 Q1 (l1[n2.toNat]?) fun aR =>
 Q1 (ua d x9.1 aR.1) fun gS =>
 aa (decide (gS < 0)) (
 gd ((i64.wrap ((i64.wrap ((u64.wrap (i64.wrap (n7+n8))).fdiv (2 ^ (min (1:Int).toNat u64.bits))))+1)),n8)) (
 gd (n7,(i64.wrap ((u64.wrap (i64.wrap (n7+n8))).fdiv (2 ^ (min (1:Int).toNat u64.bits))))))) none) none) none) none) (
 uh n7)) s.1 s.2
noncomputable def qc (d:Nat) (ox:List t1):Option (List t1) :=
 some ox
noncomputable def qd (d:Nat) (dL:Int) (uj:(List t1)->Option (List t1)) (Gh:t13->Option (List t1)) (s:t13):Option (List t1) :=
(fun eL (gR:List t1) =>
 aa (decide (eL > dL)) (
 aa (decide (0<=((i64.wrap (eL - 1)):Int))) (
 aa (Nat.blt (((i64.wrap (eL - 1)):Int).toNat) gR.length) (
 Q1 (gR[((i64.wrap (eL - 1)):Int).toNat]?) fun BN =>
 aa (decide (0<=eL)) (
 aa (Nat.blt (eL.toNat) gR.length) (
 Q1 (gR[eL.toNat]?) fun x21 =>
 aa (decide (0<=eL)) (
 aa (Nat.blt (eL.toNat) gR.length) (
 Q1 (gR[eL.toNat]?) fun TD =>
 aa (decide (0<=((i64.wrap (eL - 1)):Int))) (
 aa (Nat.blt (((i64.wrap (eL - 1)):Int).toNat) ((gR.set (eL.toNat) BN).length)) (
 Q1 ((gR.set (eL.toNat) BN)[((i64.wrap (eL - 1)):Int).toNat]?) fun Y8 =>
 Gh ((i64.wrap (eL - 1)),((gR.set (eL.toNat) BN).set (((i64.wrap (eL - 1)):Int).toNat) x21))) none) none) none) none) none) none) none) none) (
 uj gR)) s.1 s.2
noncomputable def lC (d:Nat) (l1:List t1) (n3 dL:Int):Option (List t1) :=
 Q8 (qd d dL (qc d)) Qd (n3,l1)
noncomputable def qe (d:Nat) (l1:List t1) (n3:Int) (uk:Int->Option (List t1)) (nu:t10->Option (List t1)) (s:t10):Option (List t1) :=
(fun dL eD =>
 aa (decide (dL < eD)) (
 aa (decide (0<=n3)) (
 aa (Nat.blt (n3.toNat) l1.length) (
 Q1 (l1[n3.toNat]?) fun fR =>
 aa (decide (0<=((i64.wrap ((u64.wrap (i64.wrap (dL+eD))).fdiv (2 ^ (min (1:Int).toNat u64.bits)))):Int))) (
 aa (Nat.blt (((i64.wrap ((u64.wrap (i64.wrap (dL+eD))).fdiv (2 ^ (min (1:Int).toNat u64.bits)))):Int).toNat) l1.length) (
 Q1 (l1[((i64.wrap ((u64.wrap (i64.wrap (dL+eD))).fdiv (2 ^ (min (1:Int).toNat u64.bits)))):Int).toNat]?) fun nq =>
 Q1 (ua d fR.1 nq.1) fun BI =>
 aa (!(decide (BI < 0))) (
 nu ((i64.wrap ((i64.wrap ((u64.wrap (i64.wrap (dL+eD))).fdiv (2 ^ (min (1:Int).toNat u64.bits))))+1)),eD)) (
 nu (dL,(i64.wrap ((u64.wrap (i64.wrap (dL+eD))).fdiv (2 ^ (min (1:Int).toNat u64.bits))))))) none) none) none) none) (
 uk dL)) s.1 s.2
noncomputable def lD (d:Nat) (n2 n3 n4 eM:Int) (j7:List t1) (b32:Bool):Option (List t1) :=
 aa b32 (
 Q1 (um (d+1) j7 (i64.wrap ((u64.wrap (i64.wrap (n2+n4))).fdiv (2 ^ (min (1:Int).toNat u64.bits)))) (i64.wrap ((i64.wrap ((i64.wrap ((u64.wrap (i64.wrap (n2+n4))).fdiv (2 ^ (min (1:Int).toNat u64.bits))))+n3)) - eM)) n4 false) fun mK =>
 some mK) (
 some j7)
noncomputable def lE (d:Nat) (n2 n3 n4 eM:Int) (j7:List t1):Option (List t1) :=
 aa (decide (((i64.wrap ((u64.wrap (i64.wrap (n2+n4))).fdiv (2 ^ (min (1:Int).toNat u64.bits)))):Int) < (i64.wrap ((i64.wrap ((i64.wrap ((u64.wrap (i64.wrap (n2+n4))).fdiv (2 ^ (min (1:Int).toNat u64.bits))))+n3)) - eM)))) (
 lD d n2 n3 n4 eM j7 (decide (((i64.wrap ((i64.wrap ((i64.wrap ((u64.wrap (i64.wrap (n2+n4))).fdiv (2 ^ (min (1:Int).toNat u64.bits))))+n3)) - eM)):Int) < n4))) (
 lD d n2 n3 n4 eM j7 false)
noncomputable def lG (d:Nat) (n2 n3 n4 eM:Int) (oy:List t1) (b30:Bool):Option (List t1) :=
 aa b30 (
 Q1 (um (d+1) oy n2 eM (i64.wrap ((u64.wrap (i64.wrap (n2+n4))).fdiv (2 ^ (min (1:Int).toNat u64.bits)))) false) fun vH =>
 lE d n2 n3 n4 eM vH) (
 lE d n2 n3 n4 eM oy)
noncomputable def lH (d:Nat) (n2 n3 n4 eM:Int) (oy:List t1):Option (List t1) :=
 aa (decide (n2 < eM)) (
 lG d n2 n3 n4 eM oy (decide (eM < (i64.wrap ((u64.wrap (i64.wrap (n2+n4))).fdiv (2 ^ (min (1:Int).toNat u64.bits))))))) (
 lG d n2 n3 n4 eM oy false)
noncomputable def lI (d:Nat) (l1:List t1) (n2 n3 n4 eM:Int) (b28:Bool):Option (List t1) :=
 aa b28 (
 Q1 (Gg (d+1) l1 eM n3 (i64.wrap ((i64.wrap ((i64.wrap ((u64.wrap (i64.wrap (n2+n4))).fdiv (2 ^ (min (1:Int).toNat u64.bits))))+n3)) - eM)) false) fun vJ =>
 lH d n2 n3 n4 eM vJ) (
 lH d n2 n3 n4 eM l1)
noncomputable def lJ (d:Nat) (l1:List t1) (n2 n3 n4 eM:Int):Option (List t1) :=
 aa (decide (eM < n3)) (
 lI d l1 n2 n3 n4 eM (decide (n3 < (i64.wrap ((i64.wrap ((i64.wrap ((u64.wrap (i64.wrap (n2+n4))).fdiv (2 ^ (min (1:Int).toNat u64.bits))))+n3)) - eM))))) (
 lI d l1 n2 n3 n4 eM false)
noncomputable def qf (d:Nat) (l1:List t1) (n2 n3 n4:Int) (uo:Int->Option (List t1)) (KL:t10->Option (List t1)) (s:t10):Option (List t1) :=
(fun eM AQ =>
 aa (decide (eM < AQ)) (
 aa (decide (0<=((i64.wrap ((i64.wrap ((i64.wrap ((i64.wrap ((u64.wrap (i64.wrap (n2+n4))).fdiv (2 ^ (min (1:Int).toNat u64.bits))))+n3)) - 1)) - (i64.wrap ((u64.wrap (i64.wrap (eM+AQ))).fdiv (2 ^ (min (1:Int).toNat u64.bits)))))):Int))) (
 aa (Nat.blt (((i64.wrap ((i64.wrap ((i64.wrap ((i64.wrap ((u64.wrap (i64.wrap (n2+n4))).fdiv (2 ^ (min (1:Int).toNat u64.bits))))+n3)) - 1)) - (i64.wrap ((u64.wrap (i64.wrap (eM+AQ))).fdiv (2 ^ (min (1:Int).toNat u64.bits)))))):Int).toNat) l1.length) (
 Q1 (l1[((i64.wrap ((i64.wrap ((i64.wrap ((i64.wrap ((u64.wrap (i64.wrap (n2+n4))).fdiv (2 ^ (min (1:Int).toNat u64.bits))))+n3)) - 1)) - (i64.wrap ((u64.wrap (i64.wrap (eM+AQ))).fdiv (2 ^ (min (1:Int).toNat u64.bits)))))):Int).toNat]?) fun x29 =>
 aa (decide (0<=((i64.wrap ((u64.wrap (i64.wrap (eM+AQ))).fdiv (2 ^ (min (1:Int).toNat u64.bits)))):Int))) (
 aa (Nat.blt (((i64.wrap ((u64.wrap (i64.wrap (eM+AQ))).fdiv (2 ^ (min (1:Int).toNat u64.bits)))):Int).toNat) l1.length) (
 Q1 (l1[((i64.wrap ((u64.wrap (i64.wrap (eM+AQ))).fdiv (2 ^ (min (1:Int).toNat u64.bits)))):Int).toNat]?) fun x30 =>
 Q1 (ua d x29.1 x30.1) fun vH =>
 aa (!(decide (vH < 0))) (
 KL ((i64.wrap ((i64.wrap ((u64.wrap (i64.wrap (eM+AQ))).fdiv (2 ^ (min (1:Int).toNat u64.bits))))+1)),AQ)) (
 KL (eM,(i64.wrap ((u64.wrap (i64.wrap (eM+AQ))).fdiv (2 ^ (min (1:Int).toNat u64.bits))))))) none) none) none) none) (
 uo eM)) s.1 s.2
noncomputable def iJ (d:Nat) (l1:List t1) (n2 n3 n4 eG DF:Int):Option (List t1) :=
 Q8 (qf d l1 n2 n3 n4 (lJ d l1 n2 n3 n4)) Qd (eG,DF)
theorem TE (d:Nat) (l1:List t1) (n2 n3 n4:Int) (b5:Bool):um (d+2) l1 n2 n3 n4 b5 =
 aa (((i64.wrap (n3 - n2)):Int)==1) (
 Q8 (qb d l1 n2 (lB d l1 n2)) Qd (n3,n4)) (
 aa (((i64.wrap (n4 - n3)):Int)==1) (
 Q8 (qe d l1 n3 (lC d l1 n3)) Qd (n2,n3)) (
 aa (decide (n3 > (i64.wrap ((u64.wrap (i64.wrap (n2+n4))).fdiv (2 ^ (min (1:Int).toNat u64.bits)))))) (
 iJ d l1 n2 n3 n4 (i64.wrap ((i64.wrap ((i64.wrap ((u64.wrap (i64.wrap (n2+n4))).fdiv (2 ^ (min (1:Int).toNat u64.bits))))+n3)) - n4)) (i64.wrap ((u64.wrap (i64.wrap (n2+n4))).fdiv (2 ^ (min (1:Int).toNat u64.bits))))) (
 iJ d l1 n2 n3 n4 n2 n3))):=by kernel_rfl
noncomputable def yA (d:Nat) (l10:List t1):Option (List t1) :=
 some l10
noncomputable def yB (d:Nat) (n2:Int) (DG:(Int×Int×Int×(List t1))->Option (List t1)) (dV gD dL eD:Int) (ox:List t1):Option (List t1) :=
 aa (decide (((i64.wrap (gD+dV)):Int) < n2)) (
 Q1 (um d ox gD (i64.wrap (gD+dV)) n2 false) fun vE =>
 DG ((i64.wrap (dV*2)),gD,dL,vE)) (
 DG ((i64.wrap (dV*2)),gD,dL,ox))
noncomputable def yC (d:Nat) (n2 dV:Int) (uq:Int->Int->Int->(List t1)->Option (List t1)) (iz:(Int×Int×(List t1))->Option (List t1)) (s:(Int×Int×(List t1))):Option (List t1) :=
(fun gD dL (gh:List t1) =>
 aa (decide (dL<=n2)) (
 Q1 (um d gh gD (i64.wrap (gD+dV)) dL false) fun BK =>
 iz (dL,(i64.wrap (dL+(i64.wrap ((2:Int)*dV)))),BK)) (
 uq gD dL dL gh)) s.1 s.2.1 s.2.2
noncomputable def yD (d:Nat) (n2:Int) (ur:(List t1)->Option (List t1)) (DG:(Int×Int×Int×(List t1))->Option (List t1)) (s:(Int×Int×Int×(List t1))):Option (List t1) :=
(fun dV iy tL (fS:List t1) =>
 aa (decide (dV < n2)) (
 Q8 (yC d n2 dV (yB d n2 DG dV)) Qd (0,(i64.wrap ((2:Int)*dV)),fS)) (
 ur fS)) s.1 s.2.1 s.2.2.1 s.2.2.2
noncomputable def yE (d:Nat) (n2 n5 n6:Int) (l7:List t1):Option (List t1) :=
 Q1 (BM d l7 n5 n2 false) fun r8 =>
 Q8 (yD d n2 (yA d)) Qd (20,n5,n6,r8)
noncomputable def yF (d:Nat) (n2:Int) (uu:Int->Int->(List t1)->Option (List t1)) (ja:(Int×Int×(List t1))->Option (List t1)) (s:(Int×Int×(List t1))):Option (List t1) :=
(fun n5 n6 (l7:List t1) =>
 aa (decide (n6<=n2)) (
 Q1 (BM d l7 n5 n6 false) fun r8 =>
 ja (n6,(i64.wrap (n6+20)),r8)) (
 uu n5 n6 l7)) s.1 s.2.1 s.2.2
theorem TF (d:Nat) (l1:List t1) (n2:Int) (b3:Bool):Gi (d+1) l1 n2 b3 =
 Q8 (yF d n2 (yE d n2)) Qd (0,20,l1):=by kernel_rfl
theorem TG (d:Nat) (l1:List t1) (b2:Bool):BO (d+1) l1 b2 =
 Q1 (Gi d l1 (l1.length:Int) false) fun r3 =>
 some r3:=by kernel_rfl
noncomputable def yG (d:Nat) (x1:t0) (r2:List t1) (r3:List t5) (b4:Bool):Option t3 :=
 aa b4 (
 aa (decide (0<=x1.2.2.2.2.2.2.2.2)) (
 Q1 (x1.2.1[x1.2.2.2.2.2.2.2.2.toNat]?) fun x5 =>
 Q1 (BO d r2 false) fun r6 =>
 some (x1.1,r6,r3,x5.1)) none) (
 Q1 (BO d r2 false) fun r7 =>
 some (x1.1,r7,r3,0))
theorem e60 (d:Nat) (x1:t0):KM (d+1) x1 =
 Q1 (Gf d x1.2.1) fun r2 =>
 Q1 (Oe d x1.2.2.2.2.2.2.1) fun r3 =>
 aa (decide (x1.2.2.2.2.2.2.2.2>=0)) (
 yG d x1 r2 r3 (decide (x1.2.2.2.2.2.2.2.2 < (x1.2.1.length:Int)))) (
 yG d x1 r2 r3 false):=by kernel_rfl
theorem TH (d:Nat) (n1 n2:Int):KN (d+1) n1 n2 =
 some ((u64.wrap ((u64.wrap ((u64.wrap ((n1.fdiv (2 ^ (min (32:Int).toNat u64.bits)))*(n2.fdiv (2 ^ (min (32:Int).toNat u64.bits)))))+((u64.wrap ((u64.wrap ((n1.fdiv (2 ^ (min (32:Int).toNat u64.bits)))*(u64.wrap ((BitVec.ofInt u64.bits n2 &&& BitVec.ofInt u64.bits 4294967295).toNat:Int))))+((u64.wrap ((u64.wrap ((BitVec.ofInt u64.bits n1 &&& BitVec.ofInt u64.bits 4294967295).toNat:Int))*(u64.wrap ((BitVec.ofInt u64.bits n2 &&& BitVec.ofInt u64.bits 4294967295).toNat:Int)))).fdiv (2 ^ (min (32:Int).toNat u64.bits))))).fdiv (2 ^ (min (32:Int).toNat u64.bits)))))+((u64.wrap ((u64.wrap ((BitVec.ofInt u64.bits (u64.wrap ((u64.wrap ((n1.fdiv (2 ^ (min (32:Int).toNat u64.bits)))*(u64.wrap ((BitVec.ofInt u64.bits n2 &&& BitVec.ofInt u64.bits 4294967295).toNat:Int))))+((u64.wrap ((u64.wrap ((BitVec.ofInt u64.bits n1 &&& BitVec.ofInt u64.bits 4294967295).toNat:Int))*(u64.wrap ((BitVec.ofInt u64.bits n2 &&& BitVec.ofInt u64.bits 4294967295).toNat:Int)))).fdiv (2 ^ (min (32:Int).toNat u64.bits))))) &&& BitVec.ofInt u64.bits 4294967295).toNat:Int))+(u64.wrap ((u64.wrap ((BitVec.ofInt u64.bits n1 &&& BitVec.ofInt u64.bits 4294967295).toNat:Int))*(n2.fdiv (2 ^ (min (32:Int).toNat u64.bits))))))).fdiv (2 ^ (min (32:Int).toNat u64.bits))))),(u64.wrap (n1*n2))):=by kernel_rfl
theorem TI (d:Nat) (n1 n2:Int):Gj (d+1) n1 n2 =
 Q1 (KN d n1 n2) fun r3 =>
 some (r3.1,r3.2):=by kernel_rfl
noncomputable def yH (d:Nat) (l6:List Int):Option (List Int) :=
 some l6
noncomputable def yI (d:Nat) (uv:(List Int)->Option (List Int)) (gQ:t11->Option (List Int)) (s:t11):Option (List Int) :=
(fun n6 (l7:List Int) =>
 aa (decide (n6 < (l7.length:Int))) (
 aa (decide (0<=n6)) (
 aa (Nat.ble (n6.toNat) l7.length) (
 aa (decide (0<=n6)) (
 aa (Nat.ble (n6.toNat) l7.length) (
 gQ ((i64.wrap (n6+((min (l7.take (n6.toNat)).length (l7.length - (0+n6.toNat)):Nat):Int))),(mL l7 (0+n6.toNat) (l7.length - (0+n6.toNat)) (l7.take (n6.toNat))))) none) none) none) none) (
 uv l7)) s.1 s.2
noncomputable def qg (d:Nat) (l1:List Int) (r3:t10) (b4:Bool):Option (List Int) :=
 aa b4 (
 none) (
 aa (decide (0<=((i64.wrap r3.2):Int))) (
 aa (decide (0<=((i64.wrap r3.2):Int))) (
 aa (Nat.ble (((i64.wrap r3.2):Int).toNat) (((i64.wrap r3.2):Int).toNat)&&Nat.ble ((((i64.wrap r3.2):Int).toNat)*8) Q7) (
 Q8 (yI d (yH d)) Qd (((min l1.length ((List.replicate (((i64.wrap r3.2):Int).toNat) (0:Int)).length):Nat):Int),(mL (List.replicate (((i64.wrap r3.2):Int).toNat) (0:Int)) 0 ((List.replicate (((i64.wrap r3.2):Int).toNat) (0:Int)).length) l1))) none) none) none)
theorem TJ (d:Nat) (l1:List Int) (n2:Int):yJ (d+1) l1 n2 =
 aa (decide (n2 < 0)) (
 none) (
 Q1 (Gj d (u64.wrap (l1.length:Int)) (u64.wrap n2)) fun r3 =>
 aa (decide (r3.1 > 0)) (
 qg d l1 r3 true) (
 qg d l1 r3 (decide (r3.2 > 9223372036854775807)))):=by kernel_rfl
theorem TK (d:Nat) (n1:Int):jO (d+1) n1 =
 BP n1:=by kernel_rfl
theorem TL (d:Nat) (s1:ByteArray) (n2:Int):KO (d+1) s1 n2 =
 BQ s1 n2:=by kernel_rfl
theorem TN (d:Nat) (x1:t6) (n2:Int) (s3:ByteArray):nC (d+1) x1 n2 s3 =
 Q1 (KO d (⟨#[32,32]⟩:ByteArray) n2) fun r4 =>
 aa (Nat.ble (r4.size+s3.size) 9223372036854775807) (
 aa (Nat.ble ((x1.2.1.length+[(r4++s3)].length)*16) Q7) (
 some (x1.1,(x1.2.1++[(r4++s3)]),x1.2.2)) none) none:=by kernel_rfl
noncomputable def lK (d:Nat) (n1:Int) (b4:Bool):Option ByteArray :=
 aa b4 (
 Q1 (jO d (i64.wrap (n1.tdiv 1000))) fun r5 =>
 aa (Nat.ble (r5.size+((⟨#[107]⟩:ByteArray):ByteArray).size) 9223372036854775807) (
 some (r5++((⟨#[107]⟩:ByteArray):ByteArray))) none) (
 Q1 (jO d n1) fun r6 =>
 some r6)
noncomputable def lM (d:Nat) (n1:Int) (b2:Bool):Option ByteArray :=
 aa b2 (
 Q1 (jO d (i64.wrap (n1.tdiv 1000000))) fun r3 =>
 aa (Nat.ble (r3.size+((⟨#[109]⟩:ByteArray):ByteArray).size) 9223372036854775807) (
 some (r3++((⟨#[109]⟩:ByteArray):ByteArray))) none) (
 aa (decide (n1 > 0)) (
 lK d n1 (((n1.tmod 1000):Int)==0)) (
 lK d n1 false))
theorem TO (d:Nat) (n1:Int):qh (d+1) n1 =
 aa (decide (n1 > 0)) (
 lM d n1 (((n1.tmod 1000000):Int)==0)) (
 lM d n1 false):=by kernel_rfl
theorem TP (d:Nat) (x1:t1):BS (d+1) x1 =
 Q1 (jO d x1.1) fun r2 =>
 aa (Nat.ble (((⟨#[99,108,97,115,115,32]⟩:ByteArray):ByteArray).size+r2.size) 9223372036854775807) (
 aa (Nat.ble (((((⟨#[99,108,97,115,115,32]⟩:ByteArray):ByteArray)++r2):ByteArray).size+((⟨#[32,114,97,116,101,32]⟩:ByteArray):ByteArray).size) 9223372036854775807) (
 Q1 (qh d x1.2.2.1) fun r3 =>
 aa (Nat.ble (((((((⟨#[99,108,97,115,115,32]⟩:ByteArray):ByteArray)++r2):ByteArray)++((⟨#[32,114,97,116,101,32]⟩:ByteArray):ByteArray)):ByteArray).size+r3.size) 9223372036854775807) (
 aa (Nat.ble (((((((((⟨#[99,108,97,115,115,32]⟩:ByteArray):ByteArray)++r2):ByteArray)++((⟨#[32,114,97,116,101,32]⟩:ByteArray):ByteArray)):ByteArray)++r3):ByteArray).size+((⟨#[32,99,101,105,108,32]⟩:ByteArray):ByteArray).size) 9223372036854775807) (
 Q1 (qh d x1.2.2.2.1) fun r4 =>
 aa (Nat.ble (((((((((((⟨#[99,108,97,115,115,32]⟩:ByteArray):ByteArray)++r2):ByteArray)++((⟨#[32,114,97,116,101,32]⟩:ByteArray):ByteArray)):ByteArray)++r3):ByteArray)++((⟨#[32,99,101,105,108,32]⟩:ByteArray):ByteArray)):ByteArray).size+r4.size) 9223372036854775807) (
 aa (Nat.ble (((((((((((((⟨#[99,108,97,115,115,32]⟩:ByteArray):ByteArray)++r2):ByteArray)++((⟨#[32,114,97,116,101,32]⟩:ByteArray):ByteArray)):ByteArray)++r3):ByteArray)++((⟨#[32,99,101,105,108,32]⟩:ByteArray):ByteArray)):ByteArray)++r4):ByteArray).size+((⟨#[32,98,117,114,115,116,32]⟩:ByteArray):ByteArray).size) 9223372036854775807) (
 Q1 (qh d x1.2.2.2.2.1) fun r5 =>
 aa (Nat.ble (((((((((((((((⟨#[99,108,97,115,115,32]⟩:ByteArray):ByteArray)++r2):ByteArray)++((⟨#[32,114,97,116,101,32]⟩:ByteArray):ByteArray)):ByteArray)++r3):ByteArray)++((⟨#[32,99,101,105,108,32]⟩:ByteArray):ByteArray)):ByteArray)++r4):ByteArray)++((⟨#[32,98,117,114,115,116,32]⟩:ByteArray):ByteArray)):ByteArray).size+r5.size) 9223372036854775807) (
 aa (Nat.ble (((((((((((((((((⟨#[99,108,97,115,115,32]⟩:ByteArray):ByteArray)++r2):ByteArray)++((⟨#[32,114,97,116,101,32]⟩:ByteArray):ByteArray)):ByteArray)++r3):ByteArray)++((⟨#[32,99,101,105,108,32]⟩:ByteArray):ByteArray)):ByteArray)++r4):ByteArray)++((⟨#[32,98,117,114,115,116,32]⟩:ByteArray):ByteArray)):ByteArray)++r5):ByteArray).size+((⟨#[32,99,98,117,114,115,116,32]⟩:ByteArray):ByteArray).size) 9223372036854775807) (
 Q1 (qh d x1.2.2.2.2.2.1) fun r6 =>
 aa (Nat.ble (((((((((((((((((((⟨#[99,108,97,115,115,32]⟩:ByteArray):ByteArray)++r2):ByteArray)++((⟨#[32,114,97,116,101,32]⟩:ByteArray):ByteArray)):ByteArray)++r3):ByteArray)++((⟨#[32,99,101,105,108,32]⟩:ByteArray):ByteArray)):ByteArray)++r4):ByteArray)++((⟨#[32,98,117,114,115,116,32]⟩:ByteArray):ByteArray)):ByteArray)++r5):ByteArray)++((⟨#[32,99,98,117,114,115,116,32]⟩:ByteArray):ByteArray)):ByteArray).size+r6.size) 9223372036854775807) (
 aa (Nat.ble (((((((((((((((((((((⟨#[99,108,97,115,115,32]⟩:ByteArray):ByteArray)++r2):ByteArray)++((⟨#[32,114,97,116,101,32]⟩:ByteArray):ByteArray)):ByteArray)++r3):ByteArray)++((⟨#[32,99,101,105,108,32]⟩:ByteArray):ByteArray)):ByteArray)++r4):ByteArray)++((⟨#[32,98,117,114,115,116,32]⟩:ByteArray):ByteArray)):ByteArray)++r5):ByteArray)++((⟨#[32,99,98,117,114,115,116,32]⟩:ByteArray):ByteArray)):ByteArray)++r6):ByteArray).size+((⟨#[32,112,114,105,111,32]⟩:ByteArray):ByteArray).size) 9223372036854775807) (
 Q1 (jO d x1.2.2.2.2.2.2.1) fun r7 =>
 aa (Nat.ble (((((((((((((((((((((((⟨#[99,108,97,115,115,32]⟩:ByteArray):ByteArray)++r2):ByteArray)++((⟨#[32,114,97,116,101,32]⟩:ByteArray):ByteArray)):ByteArray)++r3):ByteArray)++((⟨#[32,99,101,105,108,32]⟩:ByteArray):ByteArray)):ByteArray)++r4):ByteArray)++((⟨#[32,98,117,114,115,116,32]⟩:ByteArray):ByteArray)):ByteArray)++r5):ByteArray)++((⟨#[32,99,98,117,114,115,116,32]⟩:ByteArray):ByteArray)):ByteArray)++r6):ByteArray)++((⟨#[32,112,114,105,111,32]⟩:ByteArray):ByteArray)):ByteArray).size+r7.size) 9223372036854775807) (
 some (((((((((((((((((((((((⟨#[99,108,97,115,115,32]⟩:ByteArray):ByteArray)++r2):ByteArray)++((⟨#[32,114,97,116,101,32]⟩:ByteArray):ByteArray)):ByteArray)++r3):ByteArray)++((⟨#[32,99,101,105,108,32]⟩:ByteArray):ByteArray)):ByteArray)++r4):ByteArray)++((⟨#[32,98,117,114,115,116,32]⟩:ByteArray):ByteArray)):ByteArray)++r5):ByteArray)++((⟨#[32,99,98,117,114,115,116,32]⟩:ByteArray):ByteArray)):ByteArray)++r6):ByteArray)++((⟨#[32,112,114,105,111,32]⟩:ByteArray):ByteArray)):ByteArray)++r7)) none) none) none) none) none) none) none) none) none) none) none:=by kernel_rfl
noncomputable def lN (d:Nat) (n2:Int) (s6:ByteArray) (l7:List t1) (l8:List t5) (n9:Int) (l10:List ByteArray) (kZ DE fS:List Int):Option t6 :=
 aa (decide (0<=n2)) (
 aa (Nat.blt (n2.toNat) fS.length) (
 Q1 (fS[n2.toNat]?) fun nr =>
 some ((s6,l7,l8,n9),l10,kZ,DE,(fS.set (n2.toNat) (l10.length:Int)))) none) none
noncomputable def yK (d:Nat) (n2 n3:Int) (s15:ByteArray) (pL:List t1) (gh:List t5) (eL:Int) (gR:List ByteArray) (dW eT Fz:List Int):Option t6 :=
 Q1 (nC d ((s15,pL,gh,eL),gR,dW,eT,Fz) n3 (⟨#[125]⟩:ByteArray)) fun AP =>
 lN d n2 AP.1.1 AP.1.2.1 AP.1.2.2.1 AP.1.2.2.2 AP.2.1 AP.2.2.1 AP.2.2.2.1 AP.2.2.2.2
noncomputable def qi (d:Nat) (n3:Int) (tM:List Int) (uw:ByteArray->(List t1)->(List t5)->Int->(List ByteArray)->(List Int)->(List Int)->(List Int)->Option t6) (iz:(Int×t6)->Option t6) (s:(Int×t6)):Option t6 :=
(fun gD (ow:t6) =>
 aa (decide (gD < (tM.length:Int))) (
 aa (decide (0<=gD)) (
 aa (Nat.blt (gD.toNat) tM.length) (
 Q1 (tM[gD.toNat]?) fun eD =>
 Q1 (BT d ow eD (i64.wrap (n3+1))) fun BK =>
 iz ((i64.wrap (gD+1)),BK)) none) none) (
 uw ow.1.1 ow.1.2.1 ow.1.2.2.1 ow.1.2.2.2 ow.2.1 ow.2.2.1 ow.2.2.2.1 ow.2.2.2.2)) s.1 s.2
theorem TQ (d:Nat) (x1:t6) (n2 n3:Int):BT (d+1) x1 n2 n3 =
 aa (decide (0<=n2)) (
 Q1 (x1.1.2.1[n2.toNat]?) fun x4 =>
 aa (Nat.ble ((x1.2.2.1.length+[n2].length)*8) Q7) (
 Q1 (tY d x1.1 n2) fun r5 =>
 aa r5 (
 Q1 (BS d x4) fun r6 =>
 aa (Nat.ble (r6.size+((⟨#[32,108,105,109,105,116,32]⟩:ByteArray):ByteArray).size) 9223372036854775807) (
 Q1 (qh d x4.2.2.2.2.2.2.2) fun r7 =>
 aa (Nat.ble (((r6++((⟨#[32,108,105,109,105,116,32]⟩:ByteArray):ByteArray)):ByteArray).size+r7.size) 9223372036854775807) (
 aa (Nat.ble (((((r6++((⟨#[32,108,105,109,105,116,32]⟩:ByteArray):ByteArray)):ByteArray)++r7):ByteArray).size+((⟨#[59]⟩:ByteArray):ByteArray).size) 9223372036854775807) (
 Q1 (nC d (x1.1,x1.2.1,(x1.2.2.1++[n2]),x1.2.2.2) n3 (((((r6++((⟨#[32,108,105,109,105,116,32]⟩:ByteArray):ByteArray)):ByteArray)++r7):ByteArray)++((⟨#[59]⟩:ByteArray):ByteArray))) fun r8 =>
 aa (decide (0<=n2)) (
 aa (Nat.blt (n2.toNat) r8.2.2.2.1.length) (
 Q1 (r8.2.2.2.1[n2.toNat]?) fun n9 =>
 lN d n2 r8.1.1 r8.1.2.1 r8.1.2.2.1 r8.1.2.2.2 r8.2.1 r8.2.2.1 (r8.2.2.2.1.set (n2.toNat) (r8.2.1.length:Int)) r8.2.2.2.2) none) none) none) none) none) (
 Q1 (BS d x4) fun lp =>
 aa (Nat.ble (lp.size+((⟨#[32,123]⟩:ByteArray):ByteArray).size) 9223372036854775807) (
 Q1 (nC d (x1.1,x1.2.1,(x1.2.2.1++[n2]),x1.2.2.2) n3 (lp++((⟨#[32,123]⟩:ByteArray):ByteArray))) fun gS =>
 aa (decide (0<=n2)) (
 aa (Nat.blt (n2.toNat) gS.2.2.2.1.length) (
 Q1 (gS.2.2.2.1[n2.toNat]?) fun tL =>
 Q1 (ye d gS.1 n2) fun tM =>
 Q8 (qi d n3 tM (yK d n2 n3)) Qd (0,(gS.1,gS.2.1,gS.2.2.1,(gS.2.2.2.1.set (n2.toNat) (gS.2.1.length:Int)),gS.2.2.2.2))) none) none) none)) none) none:=by kernel_rfl
noncomputable def ux (d:Nat) (n3:Int):Option Int :=
 some (-1)
noncomputable def gW (d:Nat) (x1:t3) (lO:Int->Option Int) (bV:t10->Option Int) (s:t10):Option Int :=
(fun n3 n4 =>
 aa (decide (n4 < (x1.2.1.length:Int))) (
 aa (decide (0<=n4)) (
 Q1 (x1.2.1[n4.toNat]?) fun x5 =>
 aa (x5.2.1==0) (
 some n4) (
 bV (n3,(i64.wrap (n4+1))))) none) (
 lO n3)) s.1 s.2
theorem TS (d:Nat) (x1:t3):Gk (d+3) x1 =
 Q8 (gW d x1 (ux d)) Qd (0,0):=by kernel_rfl
noncomputable def lP (d:Nat) (s4:ByteArray):Option (ByteArray×Bool) :=
 aa (Nat.ble (((⟨#[48,120]⟩:ByteArray):ByteArray).size+s4.size) 9223372036854775807) (
 some ((((⟨#[48,120]⟩:ByteArray):ByteArray)++s4),true)) none
noncomputable def jf (d:Nat) (fE:ByteArray->Option (ByteArray×Bool)) (bN:(Int×ByteArray)->Option (ByteArray×Bool)) (n4:Int) (s5:ByteArray) (b6 b7:Bool):Option (ByteArray×Bool) :=
 aa b7 (
 aa (decide (0<=((i64.wrap ((i64.wrap ((BitVec.ofInt i64.bits n4 &&& BitVec.ofInt i64.bits 15).toNat:Int))+1)):Int))) (
 aa (decide (0<=((i64.wrap ((BitVec.ofInt i64.bits n4 &&& BitVec.ofInt i64.bits 15).toNat:Int)):Int))) (
 aa (Nat.ble (((i64.wrap ((BitVec.ofInt i64.bits n4 &&& BitVec.ofInt i64.bits 15).toNat:Int)):Int).toNat) (((i64.wrap ((i64.wrap ((BitVec.ofInt i64.bits n4 &&& BitVec.ofInt i64.bits 15).toNat:Int))+1)):Int).toNat)&&Nat.ble (((i64.wrap ((i64.wrap ((BitVec.ofInt i64.bits n4 &&& BitVec.ofInt i64.bits 15).toNat:Int))+1)):Int).toNat) ((⟨#[48,49,50,51,52,53,54,55,56,57,97,98,99,100,101,102]⟩:ByteArray):ByteArray).size) (
 aa (Nat.ble (((((⟨#[48,49,50,51,52,53,54,55,56,57,97,98,99,100,101,102]⟩:ByteArray):ByteArray).extract (((i64.wrap ((BitVec.ofInt i64.bits n4 &&& BitVec.ofInt i64.bits 15).toNat:Int)):Int).toNat) (((i64.wrap ((i64.wrap ((BitVec.ofInt i64.bits n4 &&& BitVec.ofInt i64.bits 15).toNat:Int))+1)):Int).toNat)):ByteArray).size+s5.size) 9223372036854775807) (
 bN ((n4.fdiv (2 ^ (min (4:Int).toNat i64.bits))),(((((⟨#[48,49,50,51,52,53,54,55,56,57,97,98,99,100,101,102]⟩:ByteArray):ByteArray).extract (((i64.wrap ((BitVec.ofInt i64.bits n4 &&& BitVec.ofInt i64.bits 15).toNat:Int)):Int).toNat) (((i64.wrap ((i64.wrap ((BitVec.ofInt i64.bits n4 &&& BitVec.ofInt i64.bits 15).toNat:Int))+1)):Int).toNat)):ByteArray)++s5))) none) none) none) none) (
 fE s5)
noncomputable def yL (d:Nat) (fE:ByteArray->Option (ByteArray×Bool)) (bN:(Int×ByteArray)->Option (ByteArray×Bool)) (s:(Int×ByteArray)):Option (ByteArray×Bool) :=
(fun n4 s5 =>
 aa (decide (n4 > 0)) (
 jf d fE bN n4 s5 true true) (
 jf d fE bN n4 s5 false (s5.toList==((⟨#[]⟩:ByteArray):ByteArray).toList))) s.1 s.2
noncomputable def qj (d:Nat) (n1:Int) (b2:Bool):Option (ByteArray×Bool) :=
 aa b2 (
 some ((⟨#[]⟩:ByteArray),false)) (
 Q8 (yL d (lP d)) Qd (n1,(⟨#[]⟩:ByteArray)))
theorem TT (d:Nat) (n1:Int):KP (d+1) n1 =
 aa (decide (n1 < 0)) (
 qj d n1 true) (
 qj d n1 (decide (n1 > 4294967295))):=by kernel_rfl
theorem TU (d:Nat) (n1:Int):BU (d+1) n1 =
 aa (decide (n1 < 0)) (
 some ((⟨#[]⟩:ByteArray),false)) (
 aa (decide (n1 > 65535)) (
 some ((⟨#[]⟩:ByteArray),false)) (
 Q1 (KP d n1) fun r2 =>
 some (r2.1,r2.2))):=by kernel_rfl
theorem TW (d:Nat):KQ (d+1) =
 some [(⟨#[115,111,117,114,99,101]⟩:ByteArray),(⟨#[100,101,115,116]⟩:ByteArray),(⟨#[112,111,114,116]⟩:ByteArray),(⟨#[109,97,114,107]⟩:ByteArray)]:=by kernel_rfl
theorem TX (d:Nat) (x1:t5):Gl (d+1) x1 =
 Q1 (BU d x1.2.2.2.1) fun r2 =>
 Q1 (BU d x1.2.2.1) fun r3 =>
 Q1 (jO d x1.1) fun r4 =>
 aa (Nat.ble (((⟨#[102,105,108,116,101,114,32]⟩:ByteArray):ByteArray).size+r4.size) 9223372036854775807) (
 aa (Nat.ble (((((⟨#[102,105,108,116,101,114,32]⟩:ByteArray):ByteArray)++r4):ByteArray).size+((⟨#[32]⟩:ByteArray):ByteArray).size) 9223372036854775807) (
 Q1 (KQ d) fun r5 =>
 aa (decide (0<=x1.2.1)) (
 aa (Nat.blt (x1.2.1.toNat) r5.length) (
 Q1 (r5[x1.2.1.toNat]?) fun s6 =>
 aa (Nat.ble (((((((⟨#[102,105,108,116,101,114,32]⟩:ByteArray):ByteArray)++r4):ByteArray)++((⟨#[32]⟩:ByteArray):ByteArray)):ByteArray).size+s6.size) 9223372036854775807) (
 aa (Nat.ble (((((((((⟨#[102,105,108,116,101,114,32]⟩:ByteArray):ByteArray)++r4):ByteArray)++((⟨#[32]⟩:ByteArray):ByteArray)):ByteArray)++s6):ByteArray).size+((⟨#[32]⟩:ByteArray):ByteArray).size) 9223372036854775807) (
 aa (Nat.ble (((((((((((⟨#[102,105,108,116,101,114,32]⟩:ByteArray):ByteArray)++r4):ByteArray)++((⟨#[32]⟩:ByteArray):ByteArray)):ByteArray)++s6):ByteArray)++((⟨#[32]⟩:ByteArray):ByteArray)):ByteArray).size+r2.1.size) 9223372036854775807) (
 aa (Nat.ble (((((((((((((⟨#[102,105,108,116,101,114,32]⟩:ByteArray):ByteArray)++r4):ByteArray)++((⟨#[32]⟩:ByteArray):ByteArray)):ByteArray)++s6):ByteArray)++((⟨#[32]⟩:ByteArray):ByteArray)):ByteArray)++r2.1):ByteArray).size+((⟨#[32,47,32]⟩:ByteArray):ByteArray).size) 9223372036854775807) (
 aa (Nat.ble (((((((((((((((⟨#[102,105,108,116,101,114,32]⟩:ByteArray):ByteArray)++r4):ByteArray)++((⟨#[32]⟩:ByteArray):ByteArray)):ByteArray)++s6):ByteArray)++((⟨#[32]⟩:ByteArray):ByteArray)):ByteArray)++r2.1):ByteArray)++((⟨#[32,47,32]⟩:ByteArray):ByteArray)):ByteArray).size+r3.1.size) 9223372036854775807) (
 aa (Nat.ble (((((((((((((((((⟨#[102,105,108,116,101,114,32]⟩:ByteArray):ByteArray)++r4):ByteArray)++((⟨#[32]⟩:ByteArray):ByteArray)):ByteArray)++s6):ByteArray)++((⟨#[32]⟩:ByteArray):ByteArray)):ByteArray)++r2.1):ByteArray)++((⟨#[32,47,32]⟩:ByteArray):ByteArray)):ByteArray)++r3.1):ByteArray).size+((⟨#[32,45,62,32]⟩:ByteArray):ByteArray).size) 9223372036854775807) (
 Q1 (jO d x1.2.2.2.2) fun r7 =>
 aa (Nat.ble (((((((((((((((((((⟨#[102,105,108,116,101,114,32]⟩:ByteArray):ByteArray)++r4):ByteArray)++((⟨#[32]⟩:ByteArray):ByteArray)):ByteArray)++s6):ByteArray)++((⟨#[32]⟩:ByteArray):ByteArray)):ByteArray)++r2.1):ByteArray)++((⟨#[32,47,32]⟩:ByteArray):ByteArray)):ByteArray)++r3.1):ByteArray)++((⟨#[32,45,62,32]⟩:ByteArray):ByteArray)):ByteArray).size+r7.size) 9223372036854775807) (
 aa (Nat.ble (((((((((((((((((((((⟨#[102,105,108,116,101,114,32]⟩:ByteArray):ByteArray)++r4):ByteArray)++((⟨#[32]⟩:ByteArray):ByteArray)):ByteArray)++s6):ByteArray)++((⟨#[32]⟩:ByteArray):ByteArray)):ByteArray)++r2.1):ByteArray)++((⟨#[32,47,32]⟩:ByteArray):ByteArray)):ByteArray)++r3.1):ByteArray)++((⟨#[32,45,62,32]⟩:ByteArray):ByteArray)):ByteArray)++r7):ByteArray).size+((⟨#[59]⟩:ByteArray):ByteArray).size) 9223372036854775807) (
 some (((((((((((((((((((((⟨#[102,105,108,116,101,114,32]⟩:ByteArray):ByteArray)++r4):ByteArray)++((⟨#[32]⟩:ByteArray):ByteArray)):ByteArray)++s6):ByteArray)++((⟨#[32]⟩:ByteArray):ByteArray)):ByteArray)++r2.1):ByteArray)++((⟨#[32,47,32]⟩:ByteArray):ByteArray)):ByteArray)++r3.1):ByteArray)++((⟨#[32,45,62,32]⟩:ByteArray):ByteArray)):ByteArray)++r7):ByteArray)++((⟨#[59]⟩:ByteArray):ByteArray))) none) none) none) none) none) none) none) none) none) none) none) none:=by kernel_rfl
noncomputable def yM (d:Nat) (x1:t3) (dW:List t10) (Y9:ByteArray) (KR:Int) (Y_:List t1) (Of Og Zt Zu:List Int) (Zv:List t5) (Zw:List Int):Option t0 :=
 aa (x1.2.2.2 != 0) (
 some (Y9,Y_,Of,Og,Zt,Zu,Zv,Zw,((eC dW x1.2.2.2).getD 0))) (
 some (Y9,Y_,Of,Og,Zt,Zu,Zv,Zw,KR))
noncomputable def rK (d:Nat) (x1:t3) (dW:List t10) (yN:ByteArray->Int->(List t1)->(List Int)->(List Int)->(List Int)->(List Int)->(List t5)->(List Int)->Option t0) (TY:(Int×t0)->Option t0) (s:(Int×t0)):Option t0 :=
(fun IF (lQ:t0) =>
 aa (decide (IF < (x1.2.2.1.length:Int))) (
 aa (decide (0<=IF)) (
 Q1 (x1.2.2.1[IF.toNat]?) fun Zx =>
 aa (Nat.ble ((lQ.2.2.2.2.2.2.2.1.length+[((eC dW Zx.2.2.2.2).getD 0)].length)*8) Q7) (
 TY ((i64.wrap (IF+1)),(lQ.1,lQ.2.1,lQ.2.2.1,lQ.2.2.2.1,lQ.2.2.2.2.1,lQ.2.2.2.2.2.1,lQ.2.2.2.2.2.2.1,(lQ.2.2.2.2.2.2.2.1++[((eC dW Zx.2.2.2.2).getD 0)]),lQ.2.2.2.2.2.2.2.2))) none) none) (
 yN lQ.1 lQ.2.2.2.2.2.2.2.2 lQ.2.1 lQ.2.2.1 lQ.2.2.2.1 lQ.2.2.2.2.1 lQ.2.2.2.2.2.1 lQ.2.2.2.2.2.2.1 lQ.2.2.2.2.2.2.2.1)) s.1 s.2
noncomputable def yO (d:Nat) (x1:t3) (KS:ByteArray) (tJ:Int) (dW:List t10) (eT:List t1) (xW:List t5) (vG AS AT ny BL:List Int):Option t0 :=
 Q8 (rK d x1 dW (yM d x1 dW)) Qd (0,(KS,eT,ny,AS,AT,BL,xW,vG,tJ))
noncomputable def rL (d:Nat) (IG:List Int) (yP:(List Int)->Option t0) (KT:t11->Option t0) (s:t11):Option t0 :=
(fun e_ (lq:List Int) =>
 aa (decide (e_>=0)) (
 aa (decide (0<=e_)) (
 aa (Nat.blt (e_.toNat) lq.length) (
 Q1 (lq[e_.toNat]?) fun IF =>
 aa (decide (0<=e_)) (
 aa (Nat.blt (e_.toNat) IG.length) (
 Q1 (IG[e_.toNat]?) fun KR =>
 aa (decide (KR>=0)) (
 aa (decide (0<=e_)) (
 aa (Nat.blt (e_.toNat) IG.length) (
 Q1 (IG[e_.toNat]?) fun Oh =>
 aa (decide (0<=Oh)) (
 aa (Nat.blt (Oh.toNat) ((lq.set (e_.toNat) (i64.wrap (e_+1))).length)) (
 Q1 ((lq.set (e_.toNat) (i64.wrap (e_+1)))[Oh.toNat]?) fun II =>
 aa (decide (0<=e_)) (
 aa (Nat.blt (e_.toNat) ((lq.set (e_.toNat) (i64.wrap (e_+1))).length)) (
 Q1 ((lq.set (e_.toNat) (i64.wrap (e_+1)))[e_.toNat]?) fun n43 =>
 KT ((i64.wrap (e_ - 1)),((lq.set (e_.toNat) (i64.wrap (e_+1))).set (e_.toNat) II))) none) none) none) none) none) none) (
 KT ((i64.wrap (e_ - 1)),(lq.set (e_.toNat) (i64.wrap (e_+1)))))) none) none) none) none) (
 yP lq)) s.1 s.2
noncomputable def DH (d:Nat) (x1:t3) (KS:ByteArray) (tJ:Int) (dW:List t10) (eT:List t1) (xW:List t5) (vG IG AS AT ny:List Int):Option t0 :=
 Q8 (rL d IG (yO d x1 KS tJ dW eT xW vG AS AT ny)) Qd ((i64.wrap ((eT.length:Int) - 1)),(List.replicate ((eT.length:Int).toNat) (0:Int)))
noncomputable def rM (d:Nat) (dW:List t10) (yR:(Int×(List Int)×(List Int)×(List Int)×(List Int))->Option t0) (j8:Int) (ny vK:List Int) (lR:t1) (Zy:Bool) (Of Og:List Int):Option t0 :=
 aa (decide (0<=(((eC dW lR.2.1).getD 0):Int))) (
 aa (Nat.blt ((((eC dW lR.2.1).getD 0):Int).toNat) vK.length) (
 Q1 (vK[(((eC dW lR.2.1).getD 0):Int).toNat]?) fun n44 =>
 yR ((i64.wrap (j8+1)),Of,Og,(ny.set (j8.toNat) ((eC dW lR.2.1).getD 0)),(vK.set ((((eC dW lR.2.1).getD 0):Int).toNat) j8))) none) none
noncomputable def j9 (d:Nat) (dW:List t10) (eT:List t1) (yS:(List Int)->(List Int)->(List Int)->(List Int)->Option t0) (yR:(Int×(List Int)×(List Int)×(List Int)×(List Int))->Option t0) (s:(Int×(List Int)×(List Int)×(List Int)×(List Int))):Option t0 :=
(fun j8 (AS:List Int) (AT:List Int) (ny:List Int) (vK:List Int) =>
 aa (decide (j8 < (eT.length:Int))) (
 aa (decide (0<=j8)) (
 aa (Nat.blt (j8.toNat) eT.length) (
 Q1 (eT[j8.toNat]?) fun lR =>
 aa (!((eC dW lR.2.1).isSome)) (
 aa (decide (0<=j8)) (
 aa (Nat.blt (j8.toNat) ny.length) (
 Q1 (ny[j8.toNat]?) fun Y7 =>
 yR ((i64.wrap (j8+1)),AS,AT,(ny.set (j8.toNat) (-1)),vK)) none) none) (
 aa (decide (0<=j8)) (
 aa (Nat.blt (j8.toNat) ny.length) (
 Q1 (ny[j8.toNat]?) fun IF =>
 aa (decide (0<=(((eC dW lR.2.1).getD 0):Int))) (
 aa (Nat.blt ((((eC dW lR.2.1).getD 0):Int).toNat) vK.length) (
 Q1 (vK[(((eC dW lR.2.1).getD 0):Int).toNat]?) fun KR =>
 aa (decide (KR < 0)) (
 aa (decide (0<=(((eC dW lR.2.1).getD 0):Int))) (
 aa (Nat.blt ((((eC dW lR.2.1).getD 0):Int).toNat) AS.length) (
 Q1 (AS[(((eC dW lR.2.1).getD 0):Int).toNat]?) fun Oh =>
 rM d dW yR j8 ny vK lR true (AS.set ((((eC dW lR.2.1).getD 0):Int).toNat) j8) AT) none) none) (
 aa (decide (0<=(((eC dW lR.2.1).getD 0):Int))) (
 aa (Nat.blt ((((eC dW lR.2.1).getD 0):Int).toNat) vK.length) (
 Q1 (vK[(((eC dW lR.2.1).getD 0):Int).toNat]?) fun II =>
 aa (decide (0<=II)) (
 aa (Nat.blt (II.toNat) AT.length) (
 Q1 (AT[II.toNat]?) fun n43 =>
 rM d dW yR j8 ny vK lR false AS (AT.set (II.toNat) j8)) none) none) none) none)) none) none) none) none)) none) none) (
 yS vK AS AT ny)) s.1 s.2.1 s.2.2.1 s.2.2.2.1 s.2.2.2.2
noncomputable def nD (d:Nat) (x1:t3) (KS:ByteArray) (tJ:Int) (dW:List t10) (eT:List t1) (Fz KA vC tq:List Int) (xW:List t5) (vG:List Int):Option t0 :=
 Q1 (yJ (d+1) [(-1)] (eT.length:Int)) fun uy =>
 Q1 (yJ (d+1) [(-1)] (eT.length:Int)) fun vJ =>
 aa (decide (0<=(eT.length:Int))) (
 aa (decide (0<=(eT.length:Int))) (
 aa (Nat.ble ((eT.length:Int).toNat) ((eT.length:Int).toNat)&&Nat.ble (((eT.length:Int).toNat)*8) Q7) (
 aa (decide (0<=(eT.length:Int))) (
 aa (decide (0<=(eT.length:Int))) (
 aa (Nat.ble ((eT.length:Int).toNat) ((eT.length:Int).toNat)&&Nat.ble (((eT.length:Int).toNat)*8) Q7) (
 Q1 (yJ (d+1) [(-1)] (eT.length:Int)) fun AU =>
 Q8 (j9 d dW eT (DH d x1 KS tJ dW eT xW vG)) Qd (0,uy,vJ,(List.replicate ((eT.length:Int).toNat) (0:Int)),AU)) none) none) none) none) none) none
noncomputable def rN (d:Nat) (x1:t3) (oY:t6) (yT:ByteArray->Int->(List t10)->(List t1)->(List Int)->(List Int)->(List Int)->(List Int)->(List t5)->(List Int)->Option t0) (Gh:(Int×t0×(List (List (List t10))))->Option t0) (s:(Int×t0×(List (List (List t10))))):Option t0 :=
(fun eL (nq:t0) (dW:List (List (List t10))) =>
 aa (decide (eL < (oY.2.2.1.length:Int))) (
 aa (decide (0<=eL)) (
 aa (Nat.blt (eL.toNat) oY.2.2.1.length) (
 Q1 (oY.2.2.1[eL.toNat]?) fun o7 =>
 aa (decide (0<=o7)) (
 Q1 (x1.2.1[o7.toNat]?) fun TD =>
 aa (Nat.ble ((nq.2.1.length+[TD].length)*64) Q7) (
 aa (decide (0<=o7)) (
 Q1 (x1.2.1[o7.toNat]?) fun Y8 =>
 Gh ((i64.wrap (eL+1)),(nq.1,(nq.2.1++[TD]),nq.2.2),([[(gL (BV dW) Y8.1 eL)]]:List (List (List t10))))) none) none) none) none) none) (
 yT nq.1 nq.2.2.2.2.2.2.2.2 (BV dW) nq.2.1 nq.2.2.1 nq.2.2.2.1 nq.2.2.2.2.1 nq.2.2.2.2.2.1 nq.2.2.2.2.2.2.1 nq.2.2.2.2.2.2.2.1)) s.1 s.2.1 s.2.2
noncomputable def j_ (d:Nat) (x1:t3) (r2:List t5) (s8:ByteArray) (l9:List t1) (l10:List t5) (iy:Int) (DE:List ByteArray) (fS j6 ia:List Int):Option t0 :=
 Q1 (nC d ((s8,l9,l10,iy),DE,fS,j6,ia) 0 (⟨#[125]⟩:ByteArray)) fun oY =>
 Q8 (rN d x1 oY (nD d x1)) Qd (0,(x1.1,[],[],[],[],[],r2,[],(-1)),([[([]:List t10)]]:List (List (List t10))))
noncomputable def gX (d:Nat) (x1:t3) (lS:ByteArray->(List t1)->(List t5)->Int->(List ByteArray)->(List Int)->(List Int)->(List Int)->Option t0) (Tu:(Int×t6)->Option t0) (s:(Int×t6)):Option t0 :=
(fun n8 (x9:t6) =>
 aa (decide (n8 < (x1.2.2.1.length:Int))) (
 aa (decide (0<=n8)) (
 Q1 (x1.2.2.1[n8.toNat]?) fun aR =>
 Q1 (Gl d aR) fun gS =>
 Q1 (nC d x9 1 gS) fun mJ =>
 Tu ((i64.wrap (n8+1)),mJ)) none) (
 lS x9.1.1 x9.1.2.1 x9.1.2.2.1 x9.1.2.2.2 x9.2.1 x9.2.2.1 x9.2.2.2.1 x9.2.2.2.2)) s.1 s.2
noncomputable def fF (d:Nat) (x1:t3) (r2:List t5) (s3:ByteArray):Option t0 :=
 aa (Nat.ble (s3.size+((⟨#[32,123]⟩:ByteArray):ByteArray).size) 9223372036854775807) (
 Q1 (nC d (x1,[],[],(List.replicate ((x1.2.1.length:Int).toNat) (0:Int)),(List.replicate ((x1.2.1.length:Int).toNat) (0:Int))) 0 (s3++((⟨#[32,123]⟩:ByteArray):ByteArray))) fun r4 =>
 Q1 (Gk d x1) fun r5 =>
 Q1 (BT d r4 r5 1) fun r6 =>
 Q8 (gX d x1 (j_ d x1 r2)) Qd (0,r6)) none
theorem e95 (d:Nat) (x1:t3):Oi (d+2) x1 =
 Q1 (Oe (d+1) x1.2.2.1) fun r2 =>
 aa (decide (0<=(x1.2.1.length:Int))) (
 aa (decide (0<=(x1.2.1.length:Int))) (
 aa (Nat.ble ((x1.2.1.length:Int).toNat) ((x1.2.1.length:Int).toNat)&&Nat.ble (((x1.2.1.length:Int).toNat)*8) Q7) (
 aa (decide (0<=(x1.2.1.length:Int))) (
 aa (decide (0<=(x1.2.1.length:Int))) (
 aa (Nat.ble ((x1.2.1.length:Int).toNat) ((x1.2.1.length:Int).toNat)&&Nat.ble (((x1.2.1.length:Int).toNat)*8) Q7) (
 aa (Nat.ble (((⟨#[113,100,105,115,99,32]⟩:ByteArray):ByteArray).size+x1.1.size) 9223372036854775807) (
 aa (x1.2.2.2 != 0) (
 Q1 (jO d x1.2.2.2) fun r3 =>
 aa (Nat.ble (((⟨#[32,100,101,102,97,117,108,116,32]⟩:ByteArray):ByteArray).size+r3.size) 9223372036854775807) (
 aa (Nat.ble (((((⟨#[113,100,105,115,99,32]⟩:ByteArray):ByteArray)++x1.1):ByteArray).size+((((⟨#[32,100,101,102,97,117,108,116,32]⟩:ByteArray):ByteArray)++r3):ByteArray).size) 9223372036854775807) (
 fF d x1 r2 (((((⟨#[113,100,105,115,99,32]⟩:ByteArray):ByteArray)++x1.1):ByteArray)++((((⟨#[32,100,101,102,97,117,108,116,32]⟩:ByteArray):ByteArray)++r3):ByteArray))) none) none) (
 fF d x1 r2 (((⟨#[113,100,105,115,99,32]⟩:ByteArray):ByteArray)++x1.1))) none) none) none) none) none) none) none:=by kernel_rfl
noncomputable def Gm (d:Nat) (b4:Bool):Option Bool :=
 some true
noncomputable def qk (d:Nat) (l1 l2:List t1) (uz:Bool->Option Bool) (bN:t9->Option Bool) (s:t9):Option Bool :=
(fun (b4:Bool) n5 =>
 aa (decide (n5 < (l1.length:Int))) (
 aa (decide (0<=n5)) (
 Q1 (l1[n5.toNat]?) fun x6 =>
 aa (decide (0<=n5)) (
 Q1 (l2[n5.toNat]?) fun x7 =>
 aa (!((x6.1==x7.1)&&((x6.2.1==x7.2.1)&&((x6.2.2.1==x7.2.2.1)&&((x6.2.2.2.1==x7.2.2.2.1)&&((x6.2.2.2.2.1==x7.2.2.2.2.1)&&((x6.2.2.2.2.2.1==x7.2.2.2.2.2.1)&&((x6.2.2.2.2.2.2.1==x7.2.2.2.2.2.2.1)&&((x6.2.2.2.2.2.2.2==x7.2.2.2.2.2.2.2)&&true))))))))) (
 some false) (
 bN (b4,(i64.wrap (n5+1))))) none) none) (
 uz b4)) s.1 s.2
theorem TZ (d:Nat) (l1 l2:List t1):Gn (d+1) l1 l2 =
 aa ((l1.length:Int) != (l2.length:Int)) (
 some false) (
 Q8 (qk d l1 l2 (Gm d)) Qd (false,0)):=by kernel_rfl
noncomputable def Gp (d:Nat) (b4:Bool):Option Bool :=
 some true
noncomputable def ql (d:Nat) (l1 l2:List Int) (uA:Bool->Option Bool) (bN:t9->Option Bool) (s:t9):Option Bool :=
(fun (b4:Bool) n5 =>
 aa (decide (n5 < (l1.length:Int))) (
 aa (decide (0<=n5)) (
 Q1 (l1[n5.toNat]?) fun n6 =>
 aa (decide (0<=n5)) (
 Q1 (l2[n5.toNat]?) fun n7 =>
 aa (n6 != n7) (
 some false) (
 bN (b4,(i64.wrap (n5+1))))) none) none) (
 uA b4)) s.1 s.2
theorem T0 (d:Nat) (l1 l2:List Int):qm (d+1) l1 l2 =
 aa ((l1.length:Int) != (l2.length:Int)) (
 some false) (
 Q8 (ql d l1 l2 (Gp d)) Qd (false,0)):=by kernel_rfl
noncomputable def yU (d:Nat) (x1:t0) (b2:Bool):Option Bool :=
 aa b2 (
 some false) (
 Q1 (KM d x1) fun r3 =>
 Q1 (Od d r3) fun r4 =>
 aa (!r4) (
 some false) (
 Q1 (Oi d r3) fun r5 =>
 Q1 (Gn d x1.2.1 r5.2.1) fun r6 =>
 aa r6 (
 Q1 (qm d x1.2.2.1 r5.2.2.1) fun r7 =>
 aa r7 (
 Q1 (qm d x1.2.2.2.1 r5.2.2.2.1) fun r8 =>
 aa r8 (
 Q1 (qm d x1.2.2.2.2.1 r5.2.2.2.2.1) fun r9 =>
 aa r9 (
 Q1 (qm d x1.2.2.2.2.2.1 r5.2.2.2.2.2.1) fun lp =>
 aa lp (
 Q1 (qm d x1.2.2.2.2.2.2.2.1 r5.2.2.2.2.2.2.2.1) fun gS =>
 aa gS (
 some (x1.2.2.2.2.2.2.2.2==r5.2.2.2.2.2.2.2.2)) (
 some false)) (
 some false)) (
 some false)) (
 some false)) (
 some false)) (
 some false)))
theorem e87 (d:Nat) (x1:t0):T1 (d+1) x1 =
 aa (decide ((x1.2.1.length:Int) > 24)) (
 yU d x1 true) (
 yU d x1 (decide ((x1.2.2.2.2.2.2.1.length:Int) > 16))):=by kernel_rfl
noncomputable def KU (d:Nat) (b5:Bool):Option Bool :=
 some true
noncomputable def nE (d:Nat) (ja:t9->Option Bool) (b5:Bool) (n6 n8 n9:Int) (Fu DC N7 vA b14 YZ Y3:Bool):Option Bool :=
 aa Y3 (
 some false) (
 ja (b5,(i64.wrap (n6+1))))
noncomputable def yV (d:Nat) (x1:t0) (x2:t7) (yW:Bool->Option Bool) (ja:t9->Option Bool) (s:t9):Option Bool :=
(fun (b5:Bool) n6 =>
 aa (decide (n6 < (x1.2.1.length:Int))) (
 aa (decide (0<=n6)) (
 Q1 (x1.2.1[n6.toNat]?) fun x7 =>
 aa (decide (0<=n6)) (
 Q1 (x2.1[n6.toNat]?) fun n8 =>
 aa (decide (n8 < 0)) (
 nE d ja b5 n6 n8 n8 (decide (n8 < 0)) true true true true true true) (
 aa (decide (0<=n6)) (
 Q1 (x2.1[n6.toNat]?) fun n9 =>
 aa (decide (n9 > x7.2.2.2.2.1)) (
 nE d ja b5 n6 n8 n8 (decide (n8 < 0)) false (decide (n9 > x7.2.2.2.2.1)) true true true true) (
 aa (decide (0<=n6)) (
 Q1 (x2.2[n6.toNat]?) fun dV =>
 aa (decide (dV < 0)) (
 nE d ja b5 n6 n8 n8 (decide (n8 < 0)) false (decide (n9 > x7.2.2.2.2.1)) false (decide (dV < 0)) true true) (
 aa (decide (0<=n6)) (
 Q1 (x2.2[n6.toNat]?) fun iy =>
 nE d ja b5 n6 n8 n8 (decide (n8 < 0)) false (decide (n9 > x7.2.2.2.2.1)) false (decide (dV < 0)) false (decide (iy > x7.2.2.2.2.2.1))) none)) none)) none)) none) none) (
 yW b5)) s.1 s.2
noncomputable def yX (d:Nat) (x1:t0) (x2:t7) (b3:Bool):Option Bool :=
 aa b3 (
 some false) (
 Q8 (yV d x1 x2 (KU d)) Qd (false,0))
theorem e88 (d:Nat) (x1:t0) (x2:t7):T2 (d+1) x1 x2 =
 aa ((x2.1.length:Int) != (x1.2.1.length:Int)) (
 yX d x1 x2 true) (
 yX d x1 x2 ((x2.2.length:Int) != (x1.2.1.length:Int))):=by kernel_rfl
noncomputable def KY (d:Nat) (l3:List Int):Option (List Int) :=
 some l3
noncomputable def yY (d:Nat) (x1:t0) (yZ:(List Int)->Option (List Int)) (bV:t14->Option (List Int)) (s:t14):Option (List Int) :=
(fun (l3:List Int) n4 =>
 aa (decide (n4 < (x1.2.1.length:Int))) (
 aa (decide (0<=n4)) (
 Q1 (x1.2.2.2.1[n4.toNat]?) fun n5 =>
 aa (decide (n5 < 0)) (
 aa (Nat.ble ((l3.length+[n4].length)*8) Q7) (
 bV ((l3++[n4]),(i64.wrap (n4+1)))) none) (
 bV (l3,(i64.wrap (n4+1))))) none) (
 yZ l3)) s.1 s.2
theorem e89 (d:Nat) (x1:t0):Db (d+1) x1 =
 Q8 (yY d x1 (KY d)) Qd (([]:List Int),0):=by kernel_rfl
theorem KZ (d:Nat) (x1:t4):Gq (d+1) x1 =
 some (x1.2.1,x1.2.2.1,x1.2.2.2.1,x1.2.2.2.2.1):=by kernel_rfl
noncomputable def y_ (d:Nat) (x1:t4) (b4:Bool):Option Bool :=
 aa (decide (x1.1>=1)) (
 aa (decide (x1.1<=100000)) (
 aa (decide (x1.2.2.2.2.2>=1)) (
 some (decide (x1.2.2.2.2.2<=1500))) (
 some false)) (
 some false)) (
 some false)
noncomputable def DI (d:Nat) (r2:(Int×Int×Int×Int)) (za:Bool->Option Bool) (bN:t9->Option Bool) (s:t9):Option Bool :=
(fun (b4:Bool) n5 =>
 aa (decide (n5 < 4)) (
 aa (decide (0<=n5)) (
 Q1 (([r2.1,r2.2.1,r2.2.2.1,r2.2.2.2]:List Int)[n5.toNat]?) fun n6 =>
 aa (decide (n6 < 0)) (
 some false) (
 aa (decide (n6 > 65535)) (
 some false) (
 bN (b4,(i64.wrap (n5+1)))))) none) (
 za b4)) s.1 s.2
theorem e90 (d:Nat) (x1:t4):Oj (d+1) x1 =
 Q1 (Gq d x1) fun r2 =>
 Q8 (DI d r2 (y_ d x1)) Qd (false,0):=by kernel_rfl
theorem T3 (d:Nat) (x1:t5) (x2:t4):Gr (d+1) x1 x2 =
 Q1 (Gq d x2) fun r3 =>
 aa (decide (0<=x1.2.1)) (
 Q1 (([r3.1,r3.2.1,r3.2.2.1,r3.2.2.2]:List Int)[x1.2.1.toNat]?) fun n4 =>
 some (((i64.wrap ((BitVec.ofInt i64.bits n4 &&& BitVec.ofInt i64.bits x1.2.2.1).toNat:Int)):Int)==x1.2.2.2.1)) none:=by kernel_rfl
noncomputable def Gs (d:Nat) (n4:Int):Option Int :=
 some (-1)
noncomputable def qn (d:Nat) (l1:List t5) (x2:t4) (uB:Int->Option Int) (bN:t10->Option Int) (s:t10):Option Int :=
(fun n4 n5 =>
 aa (decide (n5 < (l1.length:Int))) (
 aa (decide (0<=n5)) (
 Q1 (l1[n5.toNat]?) fun x6 =>
 Q1 (Gr d x6 x2) fun r7 =>
 aa r7 (
 some n5) (
 bN (n4,(i64.wrap (n5+1))))) none) (
 uB n4)) s.1 s.2
theorem T4 (d:Nat) (l1:List t5) (x2:t4):Gt (d+1) l1 x2 =
 Q8 (qn d l1 x2 (Gs d)) Qd (0,0):=by kernel_rfl
theorem e91 (d:Nat) (x1:t0) (x2:t4):Ol (d+1) x1 x2 =
 Q1 (Gt d x1.2.2.2.2.2.2.1 x2) fun r3 =>
 aa (decide (r3>=0)) (
 aa (decide (0<=r3)) (
 Q1 (x1.2.2.2.2.2.2.2.1[r3.toNat]?) fun n4 =>
 some n4) none) (
 some x1.2.2.2.2.2.2.2.2):=by kernel_rfl
noncomputable def jg (d:Nat) (n4:Int):Option Bool :=
 some (decide (((-1):Int)>=0))
noncomputable def dM (d:Nat) (l1:List t4) (n2:Int) (gm:Int->Option Bool) (bN:t10->Option Bool) (s:t10):Option Bool :=
(fun n4 n5 =>
 aa (decide (n5 < (l1.length:Int))) (
 aa (decide (0<=n5)) (
 Q1 (l1[n5.toNat]?) fun x6 =>
 aa (x6.1==n2) (
 some (decide (n5>=0))) (
 bN (n4,(i64.wrap (n5+1))))) none) (
 gm n4)) s.1 s.2
theorem T5 (d:Nat) (l1:List t4) (n2:Int):Gu (d+4) l1 n2 =
 Q8 (dM d l1 n2 (jg d)) Qd (0,0):=by kernel_rfl
noncomputable def K0 (d:Nat) (b3:Bool):Option Bool :=
 some true
noncomputable def zb (d:Nat) (l1:List t4) (zc:Bool->Option Bool) (bV:t9->Option Bool) (s:t9):Option Bool :=
(fun (b3:Bool) n4 =>
 aa (decide (n4 < (l1.length:Int))) (
 aa (decide (0<=n4)) (
 Q1 (l1[n4.toNat]?) fun x5 =>
 Q1 (Oj d x5) fun r6 =>
 aa (!r6) (
 some false) (
 aa (decide (0<=n4)) (
 aa (Nat.ble (n4.toNat) l1.length) (
 Q1 (Gu d (l1.take (n4.toNat)) x5.1) fun r7 =>
 aa r7 (
 some false) (
 bV (b3,(i64.wrap (n4+1))))) none) none)) none) (
 zc b3)) s.1 s.2
theorem e92 (d:Nat) (l1:List t4):T6 (d+1) l1 =
 Q8 (zb d l1 (K0 d)) Qd (false,0):=by kernel_rfl
noncomputable def DJ (d:Nat) (l5:List t4):Option (List t4) :=
 some l5
noncomputable def rO (d:Nat) (l1:List (List t4)) (jh:(List t4)->Option (List t4)) (ja:((List t4)×Int)->Option (List t4)) (s:((List t4)×Int)):Option (List t4) :=
(fun (l5:List t4) n6 =>
 aa (decide (n6 < (l1.length:Int))) (
 aa (decide (0<=n6)) (
 Q1 (l1[n6.toNat]?) fun l7 =>
 aa (Nat.ble ((l5.length+l7.length)*48) Q7) (
 ja ((l5++l7),(i64.wrap (n6+1)))) none) none) (
 jh l5)) s.1 s.2
noncomputable def DK (d:Nat) (l9:List t4):Option (List t4) :=
 some l9
noncomputable def lT (d:Nat) (l1:List (List t4)) (jh:(List t4)->Option (List t4)) (xY:((List t4)×Int)->Option (List t4)) (s:((List t4)×Int)):Option (List t4) :=
(fun (l9:List t4) dV =>
 aa (decide (dV < (l1.length:Int))) (
 aa (decide (0<=dV)) (
 Q1 (l1[dV.toNat]?) fun kZ =>
 aa (Nat.ble ((l9.length+kZ.length)*48) Q7) (
 xY ((l9++kZ),(i64.wrap (dV+1)))) none) none) (
 jh l9)) s.1 s.2
noncomputable def rP (d:Nat) (l1:List (List t4)) (n3:Int):Option (List t4) :=
 aa (decide (n3 < 0)) (
 none) (
 aa (decide (((i64.wrap (n3 - (i64.wrap ((0:Int) - ((0:Nat):Int))))):Int) > 0)) (
 aa (Nat.ble 0 0) (
 aa (decide (0<=((i64.wrap (n3 - (i64.wrap ((0:Int) - ((0:Nat):Int))))):Int))&&decide (((i64.wrap (n3 - (i64.wrap ((0:Int) - ((0:Nat):Int))))):Int)*((48:Nat):Int)<=(Q7:Int))) (
 aa (Nat.ble ((List.replicate ((i64.wrap (n3 - (i64.wrap ((0:Int) - ((0:Nat):Int))))):Int).toNat ((0,0,0,0,0,0):t4)).length*48) Q7) (
 aa (decide (0<=(((0:Nat):Int):Int))) (
 aa (Nat.ble ((((0:Nat):Int):Int).toNat) ((List.replicate ((i64.wrap (n3 - (i64.wrap ((0:Int) - ((0:Nat):Int))))):Int).toNat ((0,0,0,0,0,0):t4)).length)) (
 Q8 (rO d l1 (DJ d)) Qd (((List.replicate ((i64.wrap (n3 - (i64.wrap ((0:Int) - ((0:Nat):Int))))):Int).toNat ((0,0,0,0,0,0):t4)).take ((((0:Nat):Int):Int).toNat)),0)) none) none) none) none) none) (
 Q8 (lT d l1 (DK d)) Qd ([],0)))
noncomputable def rQ (d:Nat) (l1:List (List t4)) (zd:Int->Option (List t4)) (bV:t10->Option (List t4)) (s:t10):Option (List t4) :=
(fun n3 n4 =>
 aa (decide (n4 < (l1.length:Int))) (
 aa (decide (0<=n4)) (
 Q1 (l1[n4.toNat]?) fun l5 =>
 aa (decide (((i64.wrap (n3+(l5.length:Int))):Int) < 0)) (
 none) (
 bV ((i64.wrap (n3+(l5.length:Int))),(i64.wrap (n4+1))))) none) (
 zd n3)) s.1 s.2
theorem e93 (d:Nat) (l1:List (List t4)):T7 (d+2) l1 =
 Q8 (rQ d l1 (rP d l1)) Qd (0,0):=by kernel_rfl
noncomputable def ze (d:Nat) (x1:t2) (b6:Bool):Option Bool :=
 Q1 (T7 d x1.2.2.1) fun r7 =>
 Q1 (T6 d r7) fun r8 =>
 some r8
noncomputable def DL (d:Nat) (gQ:t9->Option Bool) (n7:Int) (vA:Bool) (nr:Int):Option Bool :=
 gQ (vA,(i64.wrap (n7+1)))
noncomputable def zf (d:Nat) (x1:t2) (n8:Int) (kZ:List t4) (zg:Bool->Int->Option Bool) (FK:t9->Option Bool) (s:t9):Option Bool :=
(fun (vA:Bool) nr =>
 aa (decide (nr < (kZ.length:Int))) (
 aa (decide (0<=nr)) (
 Q1 (kZ[nr.toNat]?) fun Tz =>
 Q1 (Oj d Tz) fun oY =>
 aa (!oY) (
 some false) (
 Q1 (Ol d x1.1 Tz) fun Fv =>
 aa (Fv != n8) (
 some false) (
 FK (vA,(i64.wrap (nr+1)))))) none) (
 zg vA nr)) s.1 s.2
noncomputable def zh (d:Nat) (x1:t2) (r3:List Int) (zi:Bool->Option Bool) (gQ:t9->Option Bool) (s:t9):Option Bool :=
(fun (b6:Bool) n7 =>
 aa (decide (n7 < (r3.length:Int))) (
 aa (decide (0<=n7)) (
 aa (Nat.blt (n7.toNat) r3.length) (
 Q1 (r3[n7.toNat]?) fun n8 =>
 aa (decide (0<=n7)) (
 Q1 (x1.2.2.1[n7.toNat]?) fun l9 =>
 aa (decide (0<=n8)) (
 Q1 (x1.1.2.1[n8.toNat]?) fun aR =>
 aa (decide ((l9.length:Int) > aR.2.2.2.2.2.2.2)) (
 some false) (
 aa (decide (0<=n7)) (
 Q1 (x1.2.2.1[n7.toNat]?) fun kZ =>
 Q8 (zf d x1 n8 kZ (DL d gQ n7)) Qd (b6,0)) none)) none) none) none) none) (
 zi b6)) s.1 s.2
noncomputable def ke (d:Nat) (x1:t2) (r3:List Int) (b4:Bool):Option Bool :=
 aa b4 (
 some false) (
 Q8 (zh d x1 r3 (ze d x1)) Qd (false,0))
noncomputable def zj (d:Nat) (x1:t2) (b2:Bool):Option Bool :=
 aa b2 (
 some false) (
 Q1 (Db d x1.1) fun r3 =>
 aa ((x1.2.2.1.length:Int) != (r3.length:Int)) (
 ke d x1 r3 true) (
 aa (decide (x1.2.2.2.1 < (-1))) (
 ke d x1 r3 true) (
 aa (decide (x1.2.2.2.1>=(r3.length:Int))) (
 ke d x1 r3 true) (
 aa (decide (x1.2.2.2.2 < 0)) (
 ke d x1 r3 true) (
 ke d x1 r3 (decide (x1.2.2.2.2 > 1000000)))))))
theorem e42 (d:Nat) (x1:t2):Om (d+1) x1 =
 Q1 (T1 d x1.1) fun r2 =>
 aa (!r2) (
 zj d x1 true) (
 Q1 (T2 d x1.1 x1.2.1) fun r3 =>
 zj d x1 (!r3)):=by kernel_rfl
noncomputable def K4 (d:Nat) (l3 l4:List Int):Option t7 :=
 some (l3,l4)
noncomputable def zl (d:Nat) (x1:t0) (zm:(List Int)->(List Int)->Option t7) (bV:(Int×t7)->Option t7) (s:(Int×t7)):Option t7 :=
(fun n3 (x4:t7) =>
 aa (decide (n3 < (x1.2.1.length:Int))) (
 aa (decide (0<=n3)) (
 Q1 (x1.2.1[n3.toNat]?) fun x5 =>
 aa (Nat.ble ((x4.1.length+[x5.2.2.2.2.1].length)*8) Q7) (
 aa (Nat.ble ((x4.2.length+[x5.2.2.2.2.2.1].length)*8) Q7) (
 bV ((i64.wrap (n3+1)),((x4.1++[x5.2.2.2.2.1]),(x4.2++[x5.2.2.2.2.2.1])))) none) none) none) (
 zm x4.1 x4.2)) s.1 s.2
theorem e96 (d:Nat) (x1:t0):T8 (d+1) x1 =
 Q8 (zl d x1 (K4 d)) Qd (0,([],[])):=by kernel_rfl
noncomputable def uC (d:Nat) (x1:t2) (r3:t0) (l7 l8 l10:List Int) (kZ:List (List t4)) (eD:Int):Option t8 :=
 some ((r3,(l7,l8),kZ,(-1),x1.2.2.2.2),l10)
noncomputable def gP (d:Nat) (x1:t2) (r3:t0) (l7 l8 l10:List Int) (kZ:List (List t4)) (mI:t1) (vB:List Int) (lU:Int->Option t8) (FA:t10->Option t8) (s:t10):Option t8 :=
(fun eD eL =>
 aa (decide (eL < (vB.length:Int))) (
 aa (decide (0<=eL)) (
 aa (Nat.blt (eL.toNat) vB.length) (
 Q1 (vB[eL.toNat]?) fun tJ =>
 aa (decide (0<=tJ)) (
 aa (Nat.blt (tJ.toNat) r3.2.1.length) (
 Q1 (r3.2.1[tJ.toNat]?) fun BN =>
 aa (BN.1==mI.1) (
 some ((r3,(l7,l8),kZ,eL,x1.2.2.2.2),l10)) (
 FA (eD,(i64.wrap (eL+1))))) none) none) none) none) (
 lU eD)) s.1 s.2
noncomputable def wM (d:Nat) (x1:t2) (r3:t0) (l7 l8 l10:List Int) (kZ:List (List t4)):Option t8 :=
 aa (decide (x1.2.2.2.1>=0)) (
 Q1 (Db (d+2) x1.1) fun mJ =>
 aa (decide (0<=x1.2.2.2.1)) (
 aa (Nat.blt (x1.2.2.2.1.toNat) mJ.length) (
 Q1 (mJ[x1.2.2.2.1.toNat]?) fun jL =>
 aa (decide (0<=jL)) (
 Q1 (x1.1.2.1[jL.toNat]?) fun mI =>
 Q1 (Db (d+2) r3) fun vB =>
 Q8 (gP d x1 r3 l7 l8 l10 kZ mI vB (uC d x1 r3 l7 l8 l10 kZ)) Qd (0,0)) none) none) none) (
 some ((r3,(l7,l8),kZ,(-1),x1.2.2.2.2),l10))
noncomputable def Di (d:Nat) (DG:t12->Option t8) (iy gD:Int) (pL:List Int) (gh:List (List t4)):Option t8 :=
 DG (pL,(i64.wrap (iy+1)),gh)
noncomputable def dJ (d:Nat) (iz:t12->Option t8) (ia:List Int) (dL:Int) (fR:t4) (tJ n20:Int) (eT:List (List t4)):Option t8 :=
 aa (tJ != 1) (
 aa (Nat.ble ((ia.length+[fR.1].length)*8) Q7) (
 iz ((ia++[fR.1]),(i64.wrap (dL+1)),eT)) none) (
 iz (ia,(i64.wrap (dL+1)),eT))
noncomputable def rz (d:Nat) (r3:t0) (fS:List t4) (zn:Int->(List Int)->(List (List t4))->Option t8) (iz:t12->Option t8) (s:t12):Option t8 :=
(fun (ia:List Int) dL (gh:List (List t4)) =>
 aa (decide (dL < (fS.length:Int))) (
 aa (decide (0<=dL)) (
 Q1 (fS[dL.toNat]?) fun fR =>
 Q1 (Ol (d+1) r3 fR) fun vE =>
 aa (decide (vE < 0)) (
 dJ d iz ia dL fR 3 0 gh) (
 aa (decide (0<=vE)) (
 aa (Nat.blt (vE.toNat) r3.2.1.length) (
 Q1 (r3.2.1[vE.toNat]?) fun BN =>
 Q1 (Db (d+1) r3) fun T9 =>
 Q1 (wG (d+1) T9 vE) fun rJ =>
 aa (decide (0<=rJ)) (
 aa (Nat.blt (rJ.toNat) gh.length) (
 Q1 (gh[rJ.toNat]?) fun KA =>
 aa ((KA.length:Int)==BN.2.2.2.2.2.2.2) (
 dJ d iz ia dL fR 2 BN.1 gh) (
 aa (decide (0<=rJ)) (
 aa (Nat.blt (rJ.toNat) gh.length) (
 Q1 (gh[rJ.toNat]?) fun vC =>
 aa (Nat.ble ((vC.length+[fR].length)*48) Q7) (
 aa (decide (0<=rJ)) (
 aa (Nat.blt (rJ.toNat) gh.length) (
 aa (Nat.beq (rJ.toNat) (rJ.toNat)) (
 Q1 (gh[rJ.toNat]?) fun tq =>
 dJ d iz ia dL fR 1 BN.1 (gh.set (rJ.toNat) (vC++[fR]))) none) none) none) none) none) none)) none) none) none) none)) none) (
 zn dL ia gh)) s.1 s.2.1 s.2.2
noncomputable def rA (d:Nat) (x1:t2) (r3:t0) (zo:(List Int)->(List (List t4))->Option t8) (DG:t12->Option t8) (s:t12):Option t8 :=
(fun (l10:List Int) iy (DE:List (List t4)) =>
 aa (decide (iy < (x1.2.2.1.length:Int))) (
 aa (decide (0<=iy)) (
 Q1 (x1.2.2.1[iy.toNat]?) fun fS =>
 Q8 (rz d r3 fS (Di d DG iy)) Qd (l10,0,DE)) none) (
 zo l10 DE)) s.1 s.2.1 s.2.2
noncomputable def Dj (d:Nat) (x1:t2) (r3:t0) (r5 l7 l8:List Int):Option t8 :=
 Q8 (rA d x1 r3 (wM d x1 r3 l7 l8)) Qd (([]:List Int),0,(List.replicate ((r5.length:Int).toNat) ([]:List t4)))
noncomputable def dI (d:Nat) (x1:t2) (gd:t15->Option t8) (n7:Int) (l8 l9:List Int) (aR:t1) (iy:Int):Option t8 :=
 aa (decide (iy>=0)) (
 aa (decide (0<=iy)) (
 Q1 (x1.2.1.1[iy.toNat]?) fun tL =>
 aa (decide (0<=n7)) (
 aa (Nat.blt (n7.toNat) l8.length) (
 Q1 (l8[n7.toNat]?) fun jL =>
 aa (decide (0<=iy)) (
 Q1 (x1.2.1.2[iy.toNat]?) fun nr =>
 aa (decide (0<=n7)) (
 aa (Nat.blt (n7.toNat) l9.length) (
 Q1 (l9[n7.toNat]?) fun gD =>
 gd ((i64.wrap (n7+1)),(l8.set (n7.toNat) (if aR.2.2.2.2.1 < tL then aR.2.2.2.2.1 else tL)),(l9.set (n7.toNat) (if aR.2.2.2.2.2.1 < nr then aR.2.2.2.2.2.1 else nr)))) none) none) none) none) none) none) (
 gd ((i64.wrap (n7+1)),l8,l9))
noncomputable def zq (d:Nat) (x1:t2) (gd:t15->Option t8) (n7:Int) (l8 l9:List Int) (aR:t1) (tL:Int):Option t8 :=
 dI d x1 gd n7 l8 l9 aR (-1)
noncomputable def iW (d:Nat) (x1:t2) (gd:t15->Option t8) (n7:Int) (l8 l9:List Int) (aR:t1) (nF:Int->Option t8) (T_:t10->Option t8) (s:t10):Option t8 :=
(fun tL jL =>
 aa (decide (jL < (x1.1.2.1.length:Int))) (
 aa (decide (0<=jL)) (
 Q1 (x1.1.2.1[jL.toNat]?) fun mI =>
 aa (mI.1==aR.1) (
 dI d x1 gd n7 l8 l9 aR jL) (
 T_ (tL,(i64.wrap (jL+1))))) none) (
 nF tL)) s.1 s.2
noncomputable def ru (d:Nat) (x1:t2) (r3:t0) (zu:(List Int)->(List Int)->Option t8) (gd:t15->Option t8) (s:t15):Option t8 :=
(fun n7 (l8:List Int) (l9:List Int) =>
 aa (decide (n7 < (r3.2.1.length:Int))) (
 aa (decide (0<=n7)) (
 aa (Nat.blt (n7.toNat) r3.2.1.length) (
 Q1 (r3.2.1[n7.toNat]?) fun aR =>
 Q8 (iW d x1 gd n7 l8 l9 aR (zq d x1 gd n7 l8 l9 aR)) Qd (0,0)) none) none) (
 zu l8 l9)) s.1 s.2.1 s.2.2
theorem e44 (d:Nat) (x1:t2) (x2:t3):RT (d+3) x1 x2 =
 Q1 (Oi (d+2) x2) fun r3 =>
 Q1 (T8 (d+2) r3) fun r4 =>
 Q1 (Db (d+2) r3) fun r5 =>
 aa (decide (0<=(r5.length:Int))) (
 aa (decide (0<=(r5.length:Int))) (
 aa (Nat.ble ((r5.length:Int).toNat) ((r5.length:Int).toNat)&&Nat.ble (((r5.length:Int).toNat)*24) Q7) (
 Q8 (ru d x1 r3 (Dj d x1 r3 r5)) Qd (0,r4.1,r4.2)) none) none) none:=by kernel_rfl
theorem e12 (d:Nat) (x1:t2) (x2:t3):g12 (d+1) x1 x2 =
 Q1 (Om d x1) fun r3 =>
 aa (!r3) (
 some ((((⟨#[]⟩:ByteArray),[],[],[],[],[],[],[],0),([],[]),[],0,0),[],false)) (
 Q1 (Od d x2) fun r4 =>
 aa (!r4) (
 some ((((⟨#[]⟩:ByteArray),[],[],[],[],[],[],[],0),([],[]),[],0,0),[],false)) (
 Q1 (RT d x1 x2) fun r5 =>
 some (r5.1,r5.2,true))):=by kernel_rfl
theorem e22 (d:Nat) (x1:t2) (n2 n3 n4:Int):g22 (d+1) x1 n2 n3 n4 =
 Q1 (Om d x1) fun r5 =>
 aa (!r5) (
 some ((((⟨#[]⟩:ByteArray),[],[],[],[],[],[],[],0),([],[]),[],0,0),false)) (
 Q1 (KM d x1.1) fun r6 =>
 Q1 (ID d r6 n2) fun r7 =>
 aa (decide (r7 < 0)) (
 some ((((⟨#[]⟩:ByteArray),[],[],[],[],[],[],[],0),([],[]),[],0,0),false)) (
 aa (decide (0<=r7)) (
 aa (Nat.blt (r7.toNat) r6.2.1.length) (
 Q1 (r6.2.1[r7.toNat]?) fun x8 =>
 aa (decide (0<=r7)) (
 aa (Nat.blt (r7.toNat) ((r6.2.1.set (r7.toNat) (x8.1,x8.2.1,n3,x8.2.2.2)).length)) (
 Q1 ((r6.2.1.set (r7.toNat) (x8.1,x8.2.1,n3,x8.2.2.2))[r7.toNat]?) fun x9 =>
 Q1 (g12 d x1 (r6.1,((r6.2.1.set (r7.toNat) (x8.1,x8.2.1,n3,x8.2.2.2)).set (r7.toNat) (x9.1,x9.2.1,x9.2.2.1,n4,x9.2.2.2.2)),r6.2.2)) fun lp =>
 some (lp.1,lp.2.2)) none) none) none) none)):=by kernel_rfl
noncomputable def zv (d:Nat) (n4:Int) (l5:List t5):Option (Int×(List t5)) :=
 some (n4,l5)
noncomputable def rR (d:Nat) (zw:Int->(List t5)->Option (Int×(List t5))) (bN:(Int×Int×(List t5))->Option (Int×(List t5))) (s:(Int×Int×(List t5))):Option (Int×(List t5)) :=
(fun n4 n5 (l6:List t5) =>
 aa (decide (n5 < (l6.length:Int))) (
 aa (decide (0<=n5)) (
 aa (Nat.blt (n5.toNat) l6.length) (
 Q1 (l6[n5.toNat]?) fun x7 =>
 aa (decide (0<=n5)) (
 aa (Nat.blt (n5.toNat) ((l6.set (n5.toNat) (n4,x7.2)).length)) (
 Q1 ((l6.set (n5.toNat) (n4,x7.2))[n5.toNat]?) fun x8 =>
 aa (decide (0<=n5)) (
 aa (Nat.blt (n5.toNat) (((l6.set (n5.toNat) (n4,x7.2)).set (n5.toNat) (x8.1,(i64.wrap (n4+1)),x8.2.2)).length)) (
 Q1 (((l6.set (n5.toNat) (n4,x7.2)).set (n5.toNat) (x8.1,(i64.wrap (n4+1)),x8.2.2))[n5.toNat]?) fun x9 =>
 aa (decide (0<=n5)) (
 aa (Nat.blt (n5.toNat) ((((l6.set (n5.toNat) (n4,x7.2)).set (n5.toNat) (x8.1,(i64.wrap (n4+1)),x8.2.2)).set (n5.toNat) (x9.1,x9.2.1,(i64.wrap ((i64.wrap (n4+1))+1)),x9.2.2.2)).length)) (
 Q1 ((((l6.set (n5.toNat) (n4,x7.2)).set (n5.toNat) (x8.1,(i64.wrap (n4+1)),x8.2.2)).set (n5.toNat) (x9.1,x9.2.1,(i64.wrap ((i64.wrap (n4+1))+1)),x9.2.2.2))[n5.toNat]?) fun aR =>
 aa (decide (0<=n5)) (
 aa (Nat.blt (n5.toNat) (((((l6.set (n5.toNat) (n4,x7.2)).set (n5.toNat) (x8.1,(i64.wrap (n4+1)),x8.2.2)).set (n5.toNat) (x9.1,x9.2.1,(i64.wrap ((i64.wrap (n4+1))+1)),x9.2.2.2)).set (n5.toNat) (aR.1,aR.2.1,aR.2.2.1,(i64.wrap ((i64.wrap ((i64.wrap (n4+1))+1))+1)),aR.2.2.2.2)).length)) (
 Q1 (((((l6.set (n5.toNat) (n4,x7.2)).set (n5.toNat) (x8.1,(i64.wrap (n4+1)),x8.2.2)).set (n5.toNat) (x9.1,x9.2.1,(i64.wrap ((i64.wrap (n4+1))+1)),x9.2.2.2)).set (n5.toNat) (aR.1,aR.2.1,aR.2.2.1,(i64.wrap ((i64.wrap ((i64.wrap (n4+1))+1))+1)),aR.2.2.2.2))[n5.toNat]?) fun bQ =>
 bN ((i64.wrap ((i64.wrap ((i64.wrap ((i64.wrap ((i64.wrap (n4+1))+1))+1))+1))+1)),(i64.wrap (n5+1)),(((((l6.set (n5.toNat) (n4,x7.2)).set (n5.toNat) (x8.1,(i64.wrap (n4+1)),x8.2.2)).set (n5.toNat) (x9.1,x9.2.1,(i64.wrap ((i64.wrap (n4+1))+1)),x9.2.2.2)).set (n5.toNat) (aR.1,aR.2.1,aR.2.2.1,(i64.wrap ((i64.wrap ((i64.wrap (n4+1))+1))+1)),aR.2.2.2.2)).set (n5.toNat) (bQ.1,bQ.2.1,bQ.2.2.1,bQ.2.2.2.1,(i64.wrap ((i64.wrap ((i64.wrap ((i64.wrap (n4+1))+1))+1))+1)))))) none) none) none) none) none) none) none) none) none) none) (
 zw n4 l6)) s.1 s.2.1 s.2.2
theorem e30 (d:Nat) (l1:List t5) (n2:Int):On (d+1) l1 n2 =
 Q8 (rR d (zv d)) Qd (n2,0,l1):=by kernel_rfl
noncomputable def zx (d:Nat) (n4:Int) (l5:List t1):Option t13 :=
 some (n4,l5)
noncomputable def rS (d:Nat) (zy:Int->(List t1)->Option t13) (bN:(Int×Int×(List t1))->Option t13) (s:(Int×Int×(List t1))):Option t13 :=
(fun n4 n5 (l6:List t1) =>
 aa (decide (n5 < (l6.length:Int))) (
 aa (decide (0<=n5)) (
 aa (Nat.blt (n5.toNat) l6.length) (
 Q1 (l6[n5.toNat]?) fun x7 =>
 aa (decide (0<=n5)) (
 aa (Nat.blt (n5.toNat) ((l6.set (n5.toNat) (n4,x7.2)).length)) (
 Q1 ((l6.set (n5.toNat) (n4,x7.2))[n5.toNat]?) fun x8 =>
 aa (decide (0<=n5)) (
 aa (Nat.blt (n5.toNat) (((l6.set (n5.toNat) (n4,x7.2)).set (n5.toNat) (x8.1,(i64.wrap (n4+1)),x8.2.2)).length)) (
 Q1 (((l6.set (n5.toNat) (n4,x7.2)).set (n5.toNat) (x8.1,(i64.wrap (n4+1)),x8.2.2))[n5.toNat]?) fun x9 =>
 aa (decide (0<=n5)) (
 aa (Nat.blt (n5.toNat) ((((l6.set (n5.toNat) (n4,x7.2)).set (n5.toNat) (x8.1,(i64.wrap (n4+1)),x8.2.2)).set (n5.toNat) (x9.1,x9.2.1,(i64.wrap ((i64.wrap (n4+1))+1)),x9.2.2.2)).length)) (
 Q1 ((((l6.set (n5.toNat) (n4,x7.2)).set (n5.toNat) (x8.1,(i64.wrap (n4+1)),x8.2.2)).set (n5.toNat) (x9.1,x9.2.1,(i64.wrap ((i64.wrap (n4+1))+1)),x9.2.2.2))[n5.toNat]?) fun aR =>
 aa (decide (0<=n5)) (
 aa (Nat.blt (n5.toNat) (((((l6.set (n5.toNat) (n4,x7.2)).set (n5.toNat) (x8.1,(i64.wrap (n4+1)),x8.2.2)).set (n5.toNat) (x9.1,x9.2.1,(i64.wrap ((i64.wrap (n4+1))+1)),x9.2.2.2)).set (n5.toNat) (aR.1,aR.2.1,aR.2.2.1,(i64.wrap ((i64.wrap ((i64.wrap (n4+1))+1))+1)),aR.2.2.2.2)).length)) (
 Q1 (((((l6.set (n5.toNat) (n4,x7.2)).set (n5.toNat) (x8.1,(i64.wrap (n4+1)),x8.2.2)).set (n5.toNat) (x9.1,x9.2.1,(i64.wrap ((i64.wrap (n4+1))+1)),x9.2.2.2)).set (n5.toNat) (aR.1,aR.2.1,aR.2.2.1,(i64.wrap ((i64.wrap ((i64.wrap (n4+1))+1))+1)),aR.2.2.2.2))[n5.toNat]?) fun bQ =>
 aa (decide (0<=n5)) (
 aa (Nat.blt (n5.toNat) ((((((l6.set (n5.toNat) (n4,x7.2)).set (n5.toNat) (x8.1,(i64.wrap (n4+1)),x8.2.2)).set (n5.toNat) (x9.1,x9.2.1,(i64.wrap ((i64.wrap (n4+1))+1)),x9.2.2.2)).set (n5.toNat) (aR.1,aR.2.1,aR.2.2.1,(i64.wrap ((i64.wrap ((i64.wrap (n4+1))+1))+1)),aR.2.2.2.2)).set (n5.toNat) (bQ.1,bQ.2.1,bQ.2.2.1,bQ.2.2.2.1,(i64.wrap ((i64.wrap ((i64.wrap ((i64.wrap (n4+1))+1))+1))+1)),bQ.2.2.2.2.2)).length)) (
 Q1 ((((((l6.set (n5.toNat) (n4,x7.2)).set (n5.toNat) (x8.1,(i64.wrap (n4+1)),x8.2.2)).set (n5.toNat) (x9.1,x9.2.1,(i64.wrap ((i64.wrap (n4+1))+1)),x9.2.2.2)).set (n5.toNat) (aR.1,aR.2.1,aR.2.2.1,(i64.wrap ((i64.wrap ((i64.wrap (n4+1))+1))+1)),aR.2.2.2.2)).set (n5.toNat) (bQ.1,bQ.2.1,bQ.2.2.1,bQ.2.2.2.1,(i64.wrap ((i64.wrap ((i64.wrap ((i64.wrap (n4+1))+1))+1))+1)),bQ.2.2.2.2.2))[n5.toNat]?) fun dB =>
 aa (decide (0<=n5)) (
 aa (Nat.blt (n5.toNat) (((((((l6.set (n5.toNat) (n4,x7.2)).set (n5.toNat) (x8.1,(i64.wrap (n4+1)),x8.2.2)).set (n5.toNat) (x9.1,x9.2.1,(i64.wrap ((i64.wrap (n4+1))+1)),x9.2.2.2)).set (n5.toNat) (aR.1,aR.2.1,aR.2.2.1,(i64.wrap ((i64.wrap ((i64.wrap (n4+1))+1))+1)),aR.2.2.2.2)).set (n5.toNat) (bQ.1,bQ.2.1,bQ.2.2.1,bQ.2.2.2.1,(i64.wrap ((i64.wrap ((i64.wrap ((i64.wrap (n4+1))+1))+1))+1)),bQ.2.2.2.2.2)).set (n5.toNat) (dB.1,dB.2.1,dB.2.2.1,dB.2.2.2.1,dB.2.2.2.2.1,(i64.wrap ((i64.wrap ((i64.wrap ((i64.wrap ((i64.wrap (n4+1))+1))+1))+1))+1)),dB.2.2.2.2.2.2)).length)) (
 Q1 (((((((l6.set (n5.toNat) (n4,x7.2)).set (n5.toNat) (x8.1,(i64.wrap (n4+1)),x8.2.2)).set (n5.toNat) (x9.1,x9.2.1,(i64.wrap ((i64.wrap (n4+1))+1)),x9.2.2.2)).set (n5.toNat) (aR.1,aR.2.1,aR.2.2.1,(i64.wrap ((i64.wrap ((i64.wrap (n4+1))+1))+1)),aR.2.2.2.2)).set (n5.toNat) (bQ.1,bQ.2.1,bQ.2.2.1,bQ.2.2.2.1,(i64.wrap ((i64.wrap ((i64.wrap ((i64.wrap (n4+1))+1))+1))+1)),bQ.2.2.2.2.2)).set (n5.toNat) (dB.1,dB.2.1,dB.2.2.1,dB.2.2.2.1,dB.2.2.2.2.1,(i64.wrap ((i64.wrap ((i64.wrap ((i64.wrap ((i64.wrap (n4+1))+1))+1))+1))+1)),dB.2.2.2.2.2.2))[n5.toNat]?) fun gC =>
 aa (decide (0<=n5)) (
 aa (Nat.blt (n5.toNat) ((((((((l6.set (n5.toNat) (n4,x7.2)).set (n5.toNat) (x8.1,(i64.wrap (n4+1)),x8.2.2)).set (n5.toNat) (x9.1,x9.2.1,(i64.wrap ((i64.wrap (n4+1))+1)),x9.2.2.2)).set (n5.toNat) (aR.1,aR.2.1,aR.2.2.1,(i64.wrap ((i64.wrap ((i64.wrap (n4+1))+1))+1)),aR.2.2.2.2)).set (n5.toNat) (bQ.1,bQ.2.1,bQ.2.2.1,bQ.2.2.2.1,(i64.wrap ((i64.wrap ((i64.wrap ((i64.wrap (n4+1))+1))+1))+1)),bQ.2.2.2.2.2)).set (n5.toNat) (dB.1,dB.2.1,dB.2.2.1,dB.2.2.2.1,dB.2.2.2.2.1,(i64.wrap ((i64.wrap ((i64.wrap ((i64.wrap ((i64.wrap (n4+1))+1))+1))+1))+1)),dB.2.2.2.2.2.2)).set (n5.toNat) (gC.1,gC.2.1,gC.2.2.1,gC.2.2.2.1,gC.2.2.2.2.1,gC.2.2.2.2.2.1,(i64.wrap ((i64.wrap ((i64.wrap ((i64.wrap ((i64.wrap ((i64.wrap (n4+1))+1))+1))+1))+1))+1)),gC.2.2.2.2.2.2.2)).length)) (
 Q1 ((((((((l6.set (n5.toNat) (n4,x7.2)).set (n5.toNat) (x8.1,(i64.wrap (n4+1)),x8.2.2)).set (n5.toNat) (x9.1,x9.2.1,(i64.wrap ((i64.wrap (n4+1))+1)),x9.2.2.2)).set (n5.toNat) (aR.1,aR.2.1,aR.2.2.1,(i64.wrap ((i64.wrap ((i64.wrap (n4+1))+1))+1)),aR.2.2.2.2)).set (n5.toNat) (bQ.1,bQ.2.1,bQ.2.2.1,bQ.2.2.2.1,(i64.wrap ((i64.wrap ((i64.wrap ((i64.wrap (n4+1))+1))+1))+1)),bQ.2.2.2.2.2)).set (n5.toNat) (dB.1,dB.2.1,dB.2.2.1,dB.2.2.2.1,dB.2.2.2.2.1,(i64.wrap ((i64.wrap ((i64.wrap ((i64.wrap ((i64.wrap (n4+1))+1))+1))+1))+1)),dB.2.2.2.2.2.2)).set (n5.toNat) (gC.1,gC.2.1,gC.2.2.1,gC.2.2.2.1,gC.2.2.2.2.1,gC.2.2.2.2.2.1,(i64.wrap ((i64.wrap ((i64.wrap ((i64.wrap ((i64.wrap ((i64.wrap (n4+1))+1))+1))+1))+1))+1)),gC.2.2.2.2.2.2.2))[n5.toNat]?) fun mI =>
 bN ((i64.wrap ((i64.wrap ((i64.wrap ((i64.wrap ((i64.wrap ((i64.wrap ((i64.wrap ((i64.wrap (n4+1))+1))+1))+1))+1))+1))+1))+1)),(i64.wrap (n5+1)),((((((((l6.set (n5.toNat) (n4,x7.2)).set (n5.toNat) (x8.1,(i64.wrap (n4+1)),x8.2.2)).set (n5.toNat) (x9.1,x9.2.1,(i64.wrap ((i64.wrap (n4+1))+1)),x9.2.2.2)).set (n5.toNat) (aR.1,aR.2.1,aR.2.2.1,(i64.wrap ((i64.wrap ((i64.wrap (n4+1))+1))+1)),aR.2.2.2.2)).set (n5.toNat) (bQ.1,bQ.2.1,bQ.2.2.1,bQ.2.2.2.1,(i64.wrap ((i64.wrap ((i64.wrap ((i64.wrap (n4+1))+1))+1))+1)),bQ.2.2.2.2.2)).set (n5.toNat) (dB.1,dB.2.1,dB.2.2.1,dB.2.2.2.1,dB.2.2.2.2.1,(i64.wrap ((i64.wrap ((i64.wrap ((i64.wrap ((i64.wrap (n4+1))+1))+1))+1))+1)),dB.2.2.2.2.2.2)).set (n5.toNat) (gC.1,gC.2.1,gC.2.2.1,gC.2.2.2.1,gC.2.2.2.2.1,gC.2.2.2.2.2.1,(i64.wrap ((i64.wrap ((i64.wrap ((i64.wrap ((i64.wrap ((i64.wrap (n4+1))+1))+1))+1))+1))+1)),gC.2.2.2.2.2.2.2)).set (n5.toNat) (mI.1,mI.2.1,mI.2.2.1,mI.2.2.2.1,mI.2.2.2.2.1,mI.2.2.2.2.2.1,mI.2.2.2.2.2.2.1,(i64.wrap ((i64.wrap ((i64.wrap ((i64.wrap ((i64.wrap ((i64.wrap ((i64.wrap (n4+1))+1))+1))+1))+1))+1))+1)))))) none) none) none) none) none) none) none) none) none) none) none) none) none) none) none) none) (
 zy n4 l6)) s.1 s.2.1 s.2.2
theorem e52 (d:Nat) (l1:List t1) (n2:Int):Oo (d+1) l1 n2 =
 Q8 (rS d (zx d)) Qd (n2,0,l1):=by kernel_rfl
noncomputable def oQ (d:Nat) (n4:Int) (l5:List t4):Option (Int×(List t4)) :=
 some (n4,l5)
noncomputable def kJ (d:Nat) (uD:Int->(List t4)->Option (Int×(List t4))) (bN:(Int×Int×(List t4))->Option (Int×(List t4))) (s:(Int×Int×(List t4))):Option (Int×(List t4)) :=
(fun n4 n5 (l6:List t4) =>
 aa (decide (n5 < (l6.length:Int))) (
 aa (decide (0<=n5)) (
 aa (Nat.blt (n5.toNat) l6.length) (
 Q1 (l6[n5.toNat]?) fun x7 =>
 aa (decide (0<=n5)) (
 aa (Nat.blt (n5.toNat) ((l6.set (n5.toNat) (n4,x7.2)).length)) (
 Q1 ((l6.set (n5.toNat) (n4,x7.2))[n5.toNat]?) fun x8 =>
 aa (decide (0<=n5)) (
 aa (Nat.blt (n5.toNat) (((l6.set (n5.toNat) (n4,x7.2)).set (n5.toNat) (x8.1,(i64.wrap (n4+1)),x8.2.2)).length)) (
 Q1 (((l6.set (n5.toNat) (n4,x7.2)).set (n5.toNat) (x8.1,(i64.wrap (n4+1)),x8.2.2))[n5.toNat]?) fun x9 =>
 aa (decide (0<=n5)) (
 aa (Nat.blt (n5.toNat) ((((l6.set (n5.toNat) (n4,x7.2)).set (n5.toNat) (x8.1,(i64.wrap (n4+1)),x8.2.2)).set (n5.toNat) (x9.1,x9.2.1,(i64.wrap ((i64.wrap (n4+1))+1)),x9.2.2.2)).length)) (
 Q1 ((((l6.set (n5.toNat) (n4,x7.2)).set (n5.toNat) (x8.1,(i64.wrap (n4+1)),x8.2.2)).set (n5.toNat) (x9.1,x9.2.1,(i64.wrap ((i64.wrap (n4+1))+1)),x9.2.2.2))[n5.toNat]?) fun aR =>
 aa (decide (0<=n5)) (
 aa (Nat.blt (n5.toNat) (((((l6.set (n5.toNat) (n4,x7.2)).set (n5.toNat) (x8.1,(i64.wrap (n4+1)),x8.2.2)).set (n5.toNat) (x9.1,x9.2.1,(i64.wrap ((i64.wrap (n4+1))+1)),x9.2.2.2)).set (n5.toNat) (aR.1,aR.2.1,aR.2.2.1,(i64.wrap ((i64.wrap ((i64.wrap (n4+1))+1))+1)),aR.2.2.2.2)).length)) (
 Q1 (((((l6.set (n5.toNat) (n4,x7.2)).set (n5.toNat) (x8.1,(i64.wrap (n4+1)),x8.2.2)).set (n5.toNat) (x9.1,x9.2.1,(i64.wrap ((i64.wrap (n4+1))+1)),x9.2.2.2)).set (n5.toNat) (aR.1,aR.2.1,aR.2.2.1,(i64.wrap ((i64.wrap ((i64.wrap (n4+1))+1))+1)),aR.2.2.2.2))[n5.toNat]?) fun bQ =>
 aa (decide (0<=n5)) (
 aa (Nat.blt (n5.toNat) ((((((l6.set (n5.toNat) (n4,x7.2)).set (n5.toNat) (x8.1,(i64.wrap (n4+1)),x8.2.2)).set (n5.toNat) (x9.1,x9.2.1,(i64.wrap ((i64.wrap (n4+1))+1)),x9.2.2.2)).set (n5.toNat) (aR.1,aR.2.1,aR.2.2.1,(i64.wrap ((i64.wrap ((i64.wrap (n4+1))+1))+1)),aR.2.2.2.2)).set (n5.toNat) (bQ.1,bQ.2.1,bQ.2.2.1,bQ.2.2.2.1,(i64.wrap ((i64.wrap ((i64.wrap ((i64.wrap (n4+1))+1))+1))+1)),bQ.2.2.2.2.2)).length)) (
 Q1 ((((((l6.set (n5.toNat) (n4,x7.2)).set (n5.toNat) (x8.1,(i64.wrap (n4+1)),x8.2.2)).set (n5.toNat) (x9.1,x9.2.1,(i64.wrap ((i64.wrap (n4+1))+1)),x9.2.2.2)).set (n5.toNat) (aR.1,aR.2.1,aR.2.2.1,(i64.wrap ((i64.wrap ((i64.wrap (n4+1))+1))+1)),aR.2.2.2.2)).set (n5.toNat) (bQ.1,bQ.2.1,bQ.2.2.1,bQ.2.2.2.1,(i64.wrap ((i64.wrap ((i64.wrap ((i64.wrap (n4+1))+1))+1))+1)),bQ.2.2.2.2.2))[n5.toNat]?) fun dB =>
 bN ((i64.wrap ((i64.wrap ((i64.wrap ((i64.wrap ((i64.wrap ((i64.wrap (n4+1))+1))+1))+1))+1))+1)),(i64.wrap (n5+1)),((((((l6.set (n5.toNat) (n4,x7.2)).set (n5.toNat) (x8.1,(i64.wrap (n4+1)),x8.2.2)).set (n5.toNat) (x9.1,x9.2.1,(i64.wrap ((i64.wrap (n4+1))+1)),x9.2.2.2)).set (n5.toNat) (aR.1,aR.2.1,aR.2.2.1,(i64.wrap ((i64.wrap ((i64.wrap (n4+1))+1))+1)),aR.2.2.2.2)).set (n5.toNat) (bQ.1,bQ.2.1,bQ.2.2.1,bQ.2.2.2.1,(i64.wrap ((i64.wrap ((i64.wrap ((i64.wrap (n4+1))+1))+1))+1)),bQ.2.2.2.2.2)).set (n5.toNat) (dB.1,dB.2.1,dB.2.2.1,dB.2.2.2.1,dB.2.2.2.2.1,(i64.wrap ((i64.wrap ((i64.wrap ((i64.wrap ((i64.wrap (n4+1))+1))+1))+1))+1)))))) none) none) none) none) none) none) none) none) none) none) none) none) (
 uD n4 l6)) s.1 s.2.1 s.2.2
theorem Rw (d:Nat) (l1:List t4) (n2:Int):wI (d+1) l1 n2 =
 Q8 (kJ d (oQ d)) Qd (n2,0,l1):=by kernel_rfl
noncomputable def Fh (d:Nat) (r9:(t2×Bool)) (vD:t13) (DM uy vJ AU:t11) (vH:(Int×(List t5))) (DN mK DO:t11) (gT:Int) (BL:List (List t4)) (Zy:Bool):Option Bool :=
 aa Zy (
 some false) (
 Q1 (g19 (d+2) ((r9.1.1.1,vD.2,DM.2,uy.2,vJ.2,AU.2,vH.2,DN.2,r9.1.1.2.2.2.2.2.2.2.2),(mK.2,DO.2),BL,r9.1.2.2.2) 1) fun Zz =>
 aa (decide (Zz < 0)) (
 some false) (
 aa (Zz != gT) (
 some false) (
 some true)))
noncomputable def iZ (d:Nat) (x1:t2) (n2 n3 n4:Int) (r7 r9:(t2×Bool)) (vD:t13) (DM uy vJ AU:t11) (vH:(Int×(List t5))) (DN mK DO:t11) (gT:Int) (BL:List (List t4)):Option Bool :=
 Q1 (g19 (d+2) ((r9.1.1.1,vD.2,DM.2,uy.2,vJ.2,AU.2,vH.2,DN.2,r9.1.1.2.2.2.2.2.2.2.2),(mK.2,DO.2),BL,r9.1.2.2.2) 1) fun ZA =>
 aa (decide (ZA < 0)) (
 some false) (
 aa (ZA != gT) (
 some false) (
 Q1 (g10 (d+2) x1) fun r39 =>
 Q1 (g22 (d+2) r39 n2 n3 n4) fun ZB =>
 Q1 (g13 (d+2) ZB.1 r7.1) fun Oq =>
 aa (!Oq) (
 Fh d r9 vD DM uy vJ AU vH DN mK DO gT BL true) (
 Fh d r9 vD DM uy vJ AU vH DN mK DO gT BL (!(ZB.2==r7.2)))))
noncomputable def qo (d:Nat) (er:Int->(List (List t4))->Option Bool) (FO:(Int×Int×(List (List t4)))->Option Bool) (s:(Int×Int×(List (List t4)))):Option Bool :=
(fun gT e_ (lq:List (List t4)) =>
 aa (decide (e_ < (lq.length:Int))) (
 aa (decide (0<=e_)) (
 aa (Nat.blt (e_.toNat) lq.length) (
 Q1 (lq[e_.toNat]?) fun S5 =>
 Q1 (lq[e_.toNat]?) fun l40 =>
 aa (Nat.beq l40.length S5.length) (
 Q1 (wI d S5 gT) fun Oq =>
 FO (Oq.1,(i64.wrap (e_+1)),(lq.set (e_.toNat) Oq.2))) none) none) none) (
 er gT lq)) s.1 s.2.1 s.2.2
noncomputable def BE (d:Nat) (x1:t2) (n2 n3 n4:Int) (r7 r9:(t2×Bool)) (b25:Bool):Option Bool :=
 aa b25 (
 some false) (
 Q1 (Oo d r9.1.1.2.1 1) fun vD =>
 Q1 (g18 d r9.1.1.2.2.1 vD.1) fun DM =>
 Q1 (g18 d r9.1.1.2.2.2.1 DM.1) fun uy =>
 Q1 (g18 d r9.1.1.2.2.2.2.1 uy.1) fun vJ =>
 Q1 (g18 d r9.1.1.2.2.2.2.2.1 vJ.1) fun AU =>
 Q1 (On d r9.1.1.2.2.2.2.2.2.1 AU.1) fun vH =>
 Q1 (g18 d r9.1.1.2.2.2.2.2.2.2.1 vH.1) fun DN =>
 Q1 (g18 d r9.1.2.1.1 DN.1) fun mK =>
 Q1 (g18 d r9.1.2.1.2 mK.1) fun DO =>
 Q8 (qo d (iZ d x1 n2 n3 n4 r7 r9 vD DM uy vJ AU vH DN mK DO)) Qd (DO.1,0,r9.1.2.2.1))
noncomputable def iY (d:Nat) (x1:t2) (n2 n3 n4:Int) (r7 r9:(t2×Bool)) (Ot:Int) (vC:List (List t4)):Option Bool :=
 aa (decide (Ot < 0)) (
 BE d x1 n2 n3 n4 r7 r9 true) (
 Q1 (g13 (d+2) r9.1 r7.1) fun r25 =>
 aa (!r25) (
 BE d x1 n2 n3 n4 r7 r9 true) (
 BE d x1 n2 n3 n4 r7 r9 (!(r9.2==r7.2))))
noncomputable def nG (d:Nat) (er:Int->(List (List t4))->Option Bool) (T':(Int×Int×(List (List t4)))->Option Bool) (s:(Int×Int×(List (List t4)))):Option Bool :=
(fun Ot eG (tq:List (List t4)) =>
 aa (decide (eG < (tq.length:Int))) (
 aa (decide (0<=eG)) (
 aa (Nat.blt (eG.toNat) tq.length) (
 Q1 (tq[eG.toNat]?) fun xW =>
 Q1 (tq[eG.toNat]?) fun vG =>
 aa (Nat.beq vG.length xW.length) (
 Q1 (wI d xW Ot) fun uy =>
 T' (uy.1,(i64.wrap (eG+1)),(tq.set (eG.toNat) uy.2))) none) none) none) (
 er Ot tq)) s.1 s.2.1 s.2.2
noncomputable def Fg (d:Nat) (x1:t2) (n2 n3 n4:Int) (r7:(t2×Bool)) (r8:t2) (r9:(t2×Bool)) (Fu:Bool):Option Bool :=
 aa Fu (
 some false) (
 Q1 (g10 (d+2) x1) fun gS =>
 Q1 (g13 (d+2) r8 gS) fun mJ =>
 aa (!mJ) (
 some false) (
 Q1 (Oo d r8.1.2.1 1) fun tM =>
 Q1 (g18 d r8.1.2.2.1 tM.1) fun jA =>
 Q1 (g18 d r8.1.2.2.2.1 jA.1) fun vB =>
 Q1 (g18 d r8.1.2.2.2.2.1 vB.1) fun oY =>
 Q1 (g18 d r8.1.2.2.2.2.2.1 oY.1) fun Fv =>
 Q1 (On d r8.1.2.2.2.2.2.2.1 Fv.1) fun BK =>
 Q1 (g18 d r8.1.2.2.2.2.2.2.2.1 BK.1) fun vE =>
 Q1 (g18 d r8.2.1.1 vE.1) fun BI =>
 Q1 (g18 d r8.2.1.2 BI.1) fun T9 =>
 Q8 (nG d (iY d x1 n2 n3 n4 r7 r9)) Qd (T9.1,0,r8.2.2.1)))
theorem e4 (d:Nat) (x1:t2) (n2 n3 n4:Int):g4 (d+3) x1 n2 n3 n4 =
 Q1 (g7 (d+2) x1 1048576) fun r5 =>
 aa (decide (r5 < 0)) (
 some true) (
 Q1 (g10 (d+2) x1) fun r6 =>
 Q1 (g21 (d+2) r6 n2 n3 n4) fun r7 =>
 Q1 (g10 (d+2) x1) fun r8 =>
 Q1 (g22 (d+2) r8 n2 n3 n4) fun r9 =>
 Q1 (g13 (d+2) r9.1 r7.1) fun lp =>
 aa (!lp) (
 Fg d x1 n2 n3 n4 r7 r8 r9 true) (
 Fg d x1 n2 n3 n4 r7 r8 r9 (!(r9.2==r7.2)))):=by kernel_rfl
end Go.Proofs.YtcoimfbmgjhcjaaGreatDoor
