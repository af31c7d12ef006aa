/-
  The residual forms of the program's functions under the interpreter by value, printed by program (wip/pv/gen2.py); each equation is checked by the kernel.
  Conditions: none.
-/
import Derived.Test.YtcoimfbmgjhcjaaGreatDoorFnExactSetDefaultResA
import Derived.KernelRfl
set_option linter.all false
set_option maxRecDepth 1000000
namespace Go.Proofs.YtcoimfbmgjhcjaaGreatDoor
open Go.Ev Go.Pv
open IntKind (i64 u64)
theorem e25 (d:Nat) (l1:List t5) (n2:Int):R3 (d+1) l1 n2 =
 aa (decide (((i64.wrap (n2 - (l1.length:Int))):Int) < 0)) (
 some (-1)) (
 some (i64.wrap (n2 - (l1.length:Int)))):=by kernel_rfl
theorem e34 (d:Nat) (l1:List t1) (n2:Int):R4 (d+1) l1 n2 =
 aa (decide (((i64.wrap (n2 - (l1.length:Int))):Int) < 0)) (
 some (-1)) (
 some (i64.wrap (n2 - (l1.length:Int)))):=by kernel_rfl
theorem e68 (d:Nat) (l1:List Int) (n2:Int):BF (d+1) l1 n2 =
 aa (decide (((i64.wrap (n2 - (l1.length:Int))):Int) < 0)) (
 some (-1)) (
 some (i64.wrap (n2 - (l1.length:Int)))):=by kernel_rfl
theorem e31 (d:Nat) (x1:t0) (n2:Int):R5 (d+1) x1 n2 =
 aa (decide (((i64.wrap (n2 - (x1.1.size:Int))):Int) < 0)) (
 some (-1)) (
 Q1 (R4 d x1.2.1 (i64.wrap (n2 - (x1.1.size:Int)))) fun r3 =>
 aa (decide (r3 < 0)) (
 some (-1)) (
 Q1 (BF d x1.2.2.1 r3) fun r4 =>
 aa (decide (r4 < 0)) (
 some (-1)) (
 Q1 (BF d x1.2.2.2.1 r4) fun r5 =>
 aa (decide (r5 < 0)) (
 some (-1)) (
 Q1 (BF d x1.2.2.2.2.1 r5) fun r6 =>
 aa (decide (r6 < 0)) (
 some (-1)) (
 Q1 (BF d x1.2.2.2.2.2.1 r6) fun r7 =>
 aa (decide (r7 < 0)) (
 some (-1)) (
 Q1 (R3 d x1.2.2.2.2.2.2.1 r7) fun r8 =>
 aa (decide (r8 < 0)) (
 some (-1)) (
 Q1 (BF d x1.2.2.2.2.2.2.2.1 r8) fun r9 =>
 aa (decide (r9 < 0)) (
 some (-1)) (
 some r9)))))))):=by kernel_rfl
theorem e32 (d:Nat) (x1:t7) (n2:Int):R6 (d+1) x1 n2 =
 Q1 (BF d x1.1 n2) fun r3 =>
 aa (decide (r3 < 0)) (
 some (-1)) (
 Q1 (BF d x1.2 r3) fun r4 =>
 aa (decide (r4 < 0)) (
 some (-1)) (
 some r4)):=by kernel_rfl
theorem e69 (d:Nat) (l1:List t4) (n2:Int):YL (d+1) l1 n2 =
 aa (decide (((i64.wrap (n2 - (l1.length:Int))):Int) < 0)) (
 some (-1)) (
 some (i64.wrap (n2 - (l1.length:Int)))):=by kernel_rfl
noncomputable def Kl (d:Nat) (n4 n5:Int):Option Int :=
 some n4
noncomputable def wL (d:Nat) (l1:List (List t4)) (wM:Int->Int->Option Int) (bM:(Int×Int×Int)->Option Int) (s:(Int×Int×Int)):Option Int :=
(fun n4 n5 n6 =>
 aa (decide (n6 < (l1.length:Int))) (
 aa (decide (0<=n6)) (
 Q1 (l1[n6.toNat]?) fun l7 =>
 Q1 (YL d l7 n4) fun r8 =>
 aa (decide (r8 < 0)) (
 some (-1)) (
 bM (r8,n5,(i64.wrap (n6+1))))) none) (
 wM n4 n5)) s.1 s.2.1 s.2.2
theorem e33 (d:Nat) (l1:List (List t4)) (n2:Int):R7 (d+1) l1 n2 =
 aa (decide (((i64.wrap (n2 - (l1.length:Int))):Int) < 0)) (
 some (-1)) (
 Q8 (wL d l1 (Kl d)) Qd ((i64.wrap (n2 - (l1.length:Int))),0,0)):=by kernel_rfl
theorem e7 (d:Nat) (x1:t2) (n2:Int):g7 (d+1) x1 n2 =
 Q1 (R5 d x1.1 n2) fun r3 =>
 aa (decide (r3 < 0)) (
 some (-1)) (
 Q1 (R6 d x1.2.1 r3) fun r4 =>
 aa (decide (r4 < 0)) (
 some (-1)) (
 Q1 (R7 d x1.2.2.1 r4) fun r5 =>
 aa (decide (r5 < 0)) (
 some (-1)) (
 some r5))):=by kernel_rfl
theorem e64 (d:Nat) (x1:t5):YM (d+1) x1 =
 some x1:=by kernel_rfl
noncomputable def Dq (d:Nat) (l3:List t5):Option (List t5) :=
 some l3
noncomputable def Dr (d:Nat) (l1:List t5) (wN:(List t5)->Option (List t5)) (bV:(Int×(List t5))->Option (List t5)) (s:(Int×(List t5))):Option (List t5) :=
(fun n3 (l4:List t5) =>
 aa (decide (n3 < (l1.length:Int))) (
 aa (decide (0<=n3)) (
 Q1 (l1[n3.toNat]?) fun x5 =>
 Q1 (YM d x5) fun r6 =>
 aa (decide (0<=n3)) (
 aa (Nat.blt (n3.toNat) l4.length) (
 Q1 (l4[n3.toNat]?) fun x7 =>
 bV ((i64.wrap (n3+1)),(l4.set (n3.toNat) r6))) none) none) none) (
 wN l4)) s.1 s.2
theorem e27 (d:Nat) (l1:List t5):R8 (d+1) l1 =
 aa (decide (0<=(l1.length:Int))) (
 aa (decide (0<=(l1.length:Int))) (
 aa (Nat.ble ((l1.length:Int).toNat) ((l1.length:Int).toNat)&&Nat.ble (((l1.length:Int).toNat)*40) Q7) (
 Q8 (Dr d l1 (Dq d)) Qd (0,(List.replicate ((l1.length:Int).toNat) ((0,0,0,0,0):t5)))) none) none) none:=by kernel_rfl
theorem e86 (d:Nat) (x1:t1):YN (d+1) x1 =
 some x1:=by kernel_rfl
noncomputable def Ds (d:Nat) (l3:List t1):Option (List t1) :=
 some l3
noncomputable def Dt (d:Nat) (l1:List t1) (wO:(List t1)->Option (List t1)) (bV:t13->Option (List t1)) (s:t13):Option (List t1) :=
(fun n3 (l4:List t1) =>
 aa (decide (n3 < (l1.length:Int))) (
 aa (decide (0<=n3)) (
 Q1 (l1[n3.toNat]?) fun x5 =>
 Q1 (YN d x5) fun r6 =>
 aa (decide (0<=n3)) (
 aa (Nat.blt (n3.toNat) l4.length) (
 Q1 (l4[n3.toNat]?) fun x7 =>
 bV ((i64.wrap (n3+1)),(l4.set (n3.toNat) r6))) none) none) none) (
 wO l4)) s.1 s.2
theorem e41 (d:Nat) (l1:List t1):R9 (d+1) l1 =
 aa (decide (0<=(l1.length:Int))) (
 aa (decide (0<=(l1.length:Int))) (
 aa (Nat.ble ((l1.length:Int).toNat) ((l1.length:Int).toNat)&&Nat.ble (((l1.length:Int).toNat)*64) Q7) (
 Q8 (Dt d l1 (Ds d)) Qd (0,(List.replicate ((l1.length:Int).toNat) ((0,0,0,0,0,0,0,0):t1)))) none) none) none:=by kernel_rfl
noncomputable def Du (d:Nat) (l3:List Int):Option (List Int) :=
 some l3
noncomputable def Dv (d:Nat) (l1:List Int) (wP:(List Int)->Option (List Int)) (bV:t11->Option (List Int)) (s:t11):Option (List Int) :=
(fun n3 (l4:List Int) =>
 aa (decide (n3 < (l1.length:Int))) (
 aa (decide (0<=n3)) (
 Q1 (l1[n3.toNat]?) fun n5 =>
 aa (decide (0<=n3)) (
 aa (Nat.blt (n3.toNat) l4.length) (
 Q1 (l4[n3.toNat]?) fun n6 =>
 bV ((i64.wrap (n3+1)),(l4.set (n3.toNat) n5))) none) none) none) (
 wP l4)) s.1 s.2
theorem e84 (d:Nat) (l1:List Int):BG (d+1) l1 =
 aa (decide (0<=(l1.length:Int))) (
 aa (decide (0<=(l1.length:Int))) (
 aa (Nat.ble ((l1.length:Int).toNat) ((l1.length:Int).toNat)&&Nat.ble (((l1.length:Int).toNat)*8) Q7) (
 Q8 (Dv d l1 (Du d)) Qd (0,(List.replicate ((l1.length:Int).toNat) (0:Int)))) none) none) none:=by kernel_rfl
theorem e38 (d:Nat) (x1:t0):R_ (d+1) x1 =
 Q1 (R9 d x1.2.1) fun r2 =>
 Q1 (BG d x1.2.2.1) fun r3 =>
 Q1 (BG d x1.2.2.2.1) fun r4 =>
 Q1 (BG d x1.2.2.2.2.1) fun r5 =>
 Q1 (BG d x1.2.2.2.2.2.1) fun r6 =>
 Q1 (R8 d x1.2.2.2.2.2.2.1) fun r7 =>
 Q1 (BG d x1.2.2.2.2.2.2.2.1) fun r8 =>
 some (x1.1,r2,r3,r4,r5,r6,r7,r8,x1.2.2.2.2.2.2.2.2):=by kernel_rfl
theorem e39 (d:Nat) (x1:t7):Sa (d+1) x1 =
 Q1 (BG d x1.1) fun r2 =>
 Q1 (BG d x1.2) fun r3 =>
 some (r2,r3):=by kernel_rfl
theorem Sb (d:Nat) (x1:t4):Km (d+1) x1 =
 some x1:=by kernel_rfl
noncomputable def Dw (d:Nat) (l3:List t4):Option (List t4) :=
 some l3
noncomputable def Dx (d:Nat) (l1:List t4) (wQ:(List t4)->Option (List t4)) (bV:(Int×(List t4))->Option (List t4)) (s:(Int×(List t4))):Option (List t4) :=
(fun n3 (l4:List t4) =>
 aa (decide (n3 < (l1.length:Int))) (
 aa (decide (0<=n3)) (
 Q1 (l1[n3.toNat]?) fun x5 =>
 Q1 (Km d x5) fun r6 =>
 aa (decide (0<=n3)) (
 aa (Nat.blt (n3.toNat) l4.length) (
 Q1 (l4[n3.toNat]?) fun x7 =>
 bV ((i64.wrap (n3+1)),(l4.set (n3.toNat) r6))) none) none) none) (
 wQ l4)) s.1 s.2
theorem e85 (d:Nat) (l1:List t4):Sc (d+1) l1 =
 aa (decide (0<=(l1.length:Int))) (
 aa (decide (0<=(l1.length:Int))) (
 aa (Nat.ble ((l1.length:Int).toNat) ((l1.length:Int).toNat)&&Nat.ble (((l1.length:Int).toNat)*48) Q7) (
 Q8 (Dx d l1 (Dw d)) Qd (0,(List.replicate ((l1.length:Int).toNat) ((0,0,0,0,0,0):t4)))) none) none) none:=by kernel_rfl
noncomputable def Dy (d:Nat) (l3:List (List t4)):Option (List (List t4)) :=
 some l3
noncomputable def Dz (d:Nat) (l1:List (List t4)) (wR:(List (List t4))->Option (List (List t4))) (bV:(Int×(List (List t4)))->Option (List (List t4))) (s:(Int×(List (List t4)))):Option (List (List t4)) :=
(fun n3 (l4:List (List t4)) =>
 aa (decide (n3 < (l1.length:Int))) (
 aa (decide (0<=n3)) (
 Q1 (l1[n3.toNat]?) fun l5 =>
 Q1 (Sc d l5) fun r6 =>
 aa (decide (0<=n3)) (
 aa (Nat.blt (n3.toNat) l4.length) (
 Q1 (l4[n3.toNat]?) fun l7 =>
 bV ((i64.wrap (n3+1)),(l4.set (n3.toNat) r6))) none) none) none) (
 wR l4)) s.1 s.2
theorem e40 (d:Nat) (l1:List (List t4)):Sd (d+1) l1 =
 aa (decide (0<=(l1.length:Int))) (
 aa (decide (0<=(l1.length:Int))) (
 aa (Nat.ble ((l1.length:Int).toNat) ((l1.length:Int).toNat)&&Nat.ble (((l1.length:Int).toNat)*24) Q7) (
 Q8 (Dz d l1 (Dy d)) Qd (0,(List.replicate ((l1.length:Int).toNat) ([]:List t4)))) none) none) none:=by kernel_rfl
theorem e10 (d:Nat) (x1:t2):g10 (d+1) x1 =
 Q1 (R_ d x1.1) fun r2 =>
 Q1 (Sa d x1.2.1) fun r3 =>
 Q1 (Sd d x1.2.2.1) fun r4 =>
 some (r2,r3,r4,x1.2.2.2):=by kernel_rfl
noncomputable def DA (d:Nat) (b4:Bool):Option Bool :=
 some true
noncomputable def wS (d:Nat) (l1 l2:List Int) (wT:Bool->Option Bool) (bM:t9->Option Bool) (s:t9):Option Bool :=
(fun (b4:Bool) n5 =>
 aa (decide (n5 < (l1.length:Int))) (
 aa (decide (0<=n5)) (
 Q1 (l1[n5.toNat]?) fun n6 =>
 aa (decide (0<=n5)) (
 Q1 (l2[n5.toNat]?) fun n7 =>
 aa (n6 != n7) (
 some false) (
 bM (b4,(i64.wrap (n5+1))))) none) none) (
 wT b4)) s.1 s.2
theorem e14 (d:Nat) (l1 l2:List Int):g14 (d+1) l1 l2 =
 aa ((l1.length:Int) != (l2.length:Int)) (
 some false) (
 Q8 (wS d l1 l2 (DA d)) Qd (false,0)):=by kernel_rfl
theorem e67 (d:Nat) (x1 x2:t5):YO (d+1) x1 x2 =
 aa (x1.1 != x2.1) (
 some false) (
 aa (x1.2.1 != x2.2.1) (
 some false) (
 aa (x1.2.2.1 != x2.2.2.1) (
 some false) (
 aa (x1.2.2.2.1 != x2.2.2.2.1) (
 some false) (
 aa (x1.2.2.2.2 != x2.2.2.2.2) (
 some false) (
 some true))))):=by kernel_rfl
noncomputable def DB (d:Nat) (b4:Bool):Option Bool :=
 some true
noncomputable def wU (d:Nat) (l1 l2:List t5) (wV:Bool->Option Bool) (bM:t9->Option Bool) (s:t9):Option Bool :=
(fun (b4:Bool) n5 =>
 aa (decide (n5 < (l1.length:Int))) (
 aa (decide (0<=n5)) (
 Q1 (l1[n5.toNat]?) fun x6 =>
 aa (decide (0<=n5)) (
 Q1 (l2[n5.toNat]?) fun x7 =>
 Q1 (YO d x6 x7) fun r8 =>
 aa (!r8) (
 some false) (
 bM (b4,(i64.wrap (n5+1))))) none) none) (
 wV b4)) s.1 s.2
theorem e29 (d:Nat) (l1 l2:List t5):Se (d+1) l1 l2 =
 aa ((l1.length:Int) != (l2.length:Int)) (
 some false) (
 Q8 (wU d l1 l2 (DB d)) Qd (false,0)):=by kernel_rfl
theorem Sf (d:Nat) (x1 x2:t1):Ko (d+1) x1 x2 =
 aa (x1.1 != x2.1) (
 some false) (
 aa (x1.2.1 != x2.2.1) (
 some false) (
 aa (x1.2.2.1 != x2.2.2.1) (
 some false) (
 aa (x1.2.2.2.1 != x2.2.2.2.1) (
 some false) (
 aa (x1.2.2.2.2.1 != x2.2.2.2.2.1) (
 some false) (
 aa (x1.2.2.2.2.2.1 != x2.2.2.2.2.2.1) (
 some false) (
 aa (x1.2.2.2.2.2.2.1 != x2.2.2.2.2.2.2.1) (
 some false) (
 aa (x1.2.2.2.2.2.2.2 != x2.2.2.2.2.2.2.2) (
 some false) (
 some true)))))))):=by kernel_rfl
noncomputable def DC (d:Nat) (b4:Bool):Option Bool :=
 some true
noncomputable def wW (d:Nat) (l1 l2:List t1) (wX:Bool->Option Bool) (bM:t9->Option Bool) (s:t9):Option Bool :=
(fun (b4:Bool) n5 =>
 aa (decide (n5 < (l1.length:Int))) (
 aa (decide (0<=n5)) (
 Q1 (l1[n5.toNat]?) fun x6 =>
 aa (decide (0<=n5)) (
 Q1 (l2[n5.toNat]?) fun x7 =>
 Q1 (Ko d x6 x7) fun r8 =>
 aa (!r8) (
 some false) (
 bM (b4,(i64.wrap (n5+1))))) none) none) (
 wX b4)) s.1 s.2
theorem e48 (d:Nat) (l1 l2:List t1):Sg (d+1) l1 l2 =
 aa ((l1.length:Int) != (l2.length:Int)) (
 some false) (
 Q8 (wW d l1 l2 (DC d)) Qd (false,0)):=by kernel_rfl
theorem e45 (d:Nat) (x1 x2:t0):Sh (d+1) x1 x2 =
 aa (!(x1.1.toList==x2.1.toList)) (
 some false) (
 Q1 (Sg d x1.2.1 x2.2.1) fun r3 =>
 aa (!r3) (
 some false) (
 Q1 (g14 d x1.2.2.1 x2.2.2.1) fun r4 =>
 aa (!r4) (
 some false) (
 Q1 (g14 d x1.2.2.2.1 x2.2.2.2.1) fun r5 =>
 aa (!r5) (
 some false) (
 Q1 (g14 d x1.2.2.2.2.1 x2.2.2.2.2.1) fun r6 =>
 aa (!r6) (
 some false) (
 Q1 (g14 d x1.2.2.2.2.2.1 x2.2.2.2.2.2.1) fun r7 =>
 aa (!r7) (
 some false) (
 Q1 (Se d x1.2.2.2.2.2.2.1 x2.2.2.2.2.2.2.1) fun r8 =>
 aa (!r8) (
 some false) (
 Q1 (g14 d x1.2.2.2.2.2.2.2.1 x2.2.2.2.2.2.2.2.1) fun r9 =>
 aa (!r9) (
 some false) (
 aa (x1.2.2.2.2.2.2.2.2 != x2.2.2.2.2.2.2.2.2) (
 some false) (
 some true))))))))):=by kernel_rfl
theorem e46 (d:Nat) (x1 x2:t7):Si (d+1) x1 x2 =
 Q1 (g14 d x1.1 x2.1) fun r3 =>
 aa (!r3) (
 some false) (
 Q1 (g14 d x1.2 x2.2) fun r4 =>
 aa (!r4) (
 some false) (
 some true)):=by kernel_rfl
theorem Sj (d:Nat) (x1 x2:t4):Kp (d+1) x1 x2 =
 aa (x1.1 != x2.1) (
 some false) (
 aa (x1.2.1 != x2.2.1) (
 some false) (
 aa (x1.2.2.1 != x2.2.2.1) (
 some false) (
 aa (x1.2.2.2.1 != x2.2.2.2.1) (
 some false) (
 aa (x1.2.2.2.2.1 != x2.2.2.2.2.1) (
 some false) (
 aa (x1.2.2.2.2.2 != x2.2.2.2.2.2) (
 some false) (
 some true)))))):=by kernel_rfl
noncomputable def wY (d:Nat) (b4:Bool):Option Bool :=
 some true
noncomputable def oR (d:Nat) (l1 l2:List t4) (sW:Bool->Option Bool) (bM:t9->Option Bool) (s:t9):Option Bool :=
(fun (b4:Bool) n5 =>
 aa (decide (n5 < (l1.length:Int))) (
 aa (decide (0<=n5)) (
 Q1 (l1[n5.toNat]?) fun x6 =>
 aa (decide (0<=n5)) (
 Q1 (l2[n5.toNat]?) fun x7 =>
 Q1 (Kp d x6 x7) fun r8 =>
 aa (!r8) (
 some false) (
 bM (b4,(i64.wrap (n5+1))))) none) none) (
 sW b4)) s.1 s.2
theorem Sk (d:Nat) (l1 l2:List t4):Fj (d+1) l1 l2 =
 aa ((l1.length:Int) != (l2.length:Int)) (
 some false) (
 Q8 (oR d l1 l2 (wY d)) Qd (false,0)):=by kernel_rfl
noncomputable def DD (d:Nat) (b4:Bool):Option Bool :=
 some true
noncomputable def wZ (d:Nat) (l1 l2:List (List t4)) (w4:Bool->Option Bool) (bM:t9->Option Bool) (s:t9):Option Bool :=
(fun (b4:Bool) n5 =>
 aa (decide (n5 < (l1.length:Int))) (
 aa (decide (0<=n5)) (
 Q1 (l1[n5.toNat]?) fun l6 =>
 aa (decide (0<=n5)) (
 Q1 (l2[n5.toNat]?) fun l7 =>
 Q1 (Fj d l6 l7) fun r8 =>
 aa (!r8) (
 some false) (
 bM (b4,(i64.wrap (n5+1))))) none) none) (
 w4 b4)) s.1 s.2
theorem e47 (d:Nat) (l1 l2:List (List t4)):Sl (d+1) l1 l2 =
 aa ((l1.length:Int) != (l2.length:Int)) (
 some false) (
 Q8 (wZ d l1 l2 (DD d)) Qd (false,0)):=by kernel_rfl
theorem e13 (d:Nat) (x1 x2:t2):g13 (d+1) x1 x2 =
 Q1 (Sh d x1.1 x2.1) fun r3 =>
 aa (!r3) (
 some false) (
 Q1 (Si d x1.2.1 x2.2.1) fun r4 =>
 aa (!r4) (
 some false) (
 Q1 (Sl d x1.2.2.1 x2.2.2.1) fun r5 =>
 aa (!r5) (
 some false) (
 aa (x1.2.2.2.1 != x2.2.2.2.1) (
 some false) (
 aa (x1.2.2.2.2 != x2.2.2.2.2) (
 some false) (
 some true))))):=by kernel_rfl
noncomputable def w5 (d:Nat) (n4:Int) (l5:List Int):Option t11 :=
 some (n4,l5)
noncomputable def rC (d:Nat) (w6:Int->(List Int)->Option t11) (bM:(Int×Int×(List Int))->Option t11) (s:(Int×Int×(List Int))):Option t11 :=
(fun n4 n5 (l6:List Int) =>
 aa (decide (n5 < (l6.length:Int))) (
 aa (decide (0<=n5)) (
 aa (Nat.blt (n5.toNat) l6.length) (
 Q1 (l6[n5.toNat]?) fun n7 =>
 bM ((i64.wrap (n4+1)),(i64.wrap (n5+1)),(l6.set (n5.toNat) n4))) none) none) (
 w6 n4 l6)) s.1 s.2.1 s.2.2
theorem e18 (d:Nat) (l1:List Int) (n2:Int):g18 (d+1) l1 n2 =
 Q8 (rC d (w5 d)) Qd (n2,0,l1):=by kernel_rfl
noncomputable def w7 (d:Nat) (n4 n5:Int):Option Int :=
 some n4
noncomputable def rD (d:Nat) (l1:List Int) (w8:Int->Int->Option Int) (bM:(Int×Int×Int)->Option Int) (s:(Int×Int×Int)):Option Int :=
(fun n4 n5 n6 =>
 aa (decide (n6 < (l1.length:Int))) (
 aa (decide (0<=n6)) (
 Q1 (l1[n6.toNat]?) fun n7 =>
 aa (n7 != n4) (
 some (-1)) (
 bM ((i64.wrap (n4+1)),n5,(i64.wrap (n6+1))))) none) (
 w8 n4 n5)) s.1 s.2.1 s.2.2
theorem e20 (d:Nat) (l1:List Int) (n2:Int):g20 (d+1) l1 n2 =
 Q8 (rD d l1 (w7 d)) Qd (n2,0,0):=by kernel_rfl
noncomputable def oS (d:Nat) (n4 n5:Int):Option Int :=
 some n4
noncomputable def kM (d:Nat) (l1:List t1) (sY:Int->Int->Option Int) (bM:(Int×Int×Int)->Option Int) (s:(Int×Int×Int)):Option Int :=
(fun n4 n5 n6 =>
 aa (decide (n6 < (l1.length:Int))) (
 aa (decide (0<=n6)) (
 Q1 (l1[n6.toNat]?) fun x7 =>
 aa (x7.1 != n4) (
 some (-1)) (
 aa (decide (0<=n6)) (
 Q1 (l1[n6.toNat]?) fun x8 =>
 aa (x8.2.1 != (i64.wrap (n4+1))) (
 some (-1)) (
 aa (decide (0<=n6)) (
 Q1 (l1[n6.toNat]?) fun x9 =>
 aa (x9.2.2.1 != (i64.wrap ((i64.wrap (n4+1))+1))) (
 some (-1)) (
 aa (decide (0<=n6)) (
 Q1 (l1[n6.toNat]?) fun aR =>
 aa (aR.2.2.2.1 != (i64.wrap ((i64.wrap ((i64.wrap (n4+1))+1))+1))) (
 some (-1)) (
 aa (decide (0<=n6)) (
 Q1 (l1[n6.toNat]?) fun bP =>
 aa (bP.2.2.2.2.1 != (i64.wrap ((i64.wrap ((i64.wrap ((i64.wrap (n4+1))+1))+1))+1))) (
 some (-1)) (
 aa (decide (0<=n6)) (
 Q1 (l1[n6.toNat]?) fun dz =>
 aa (dz.2.2.2.2.2.1 != (i64.wrap ((i64.wrap ((i64.wrap ((i64.wrap ((i64.wrap (n4+1))+1))+1))+1))+1))) (
 some (-1)) (
 aa (decide (0<=n6)) (
 Q1 (l1[n6.toNat]?) fun gB =>
 aa (gB.2.2.2.2.2.2.1 != (i64.wrap ((i64.wrap ((i64.wrap ((i64.wrap ((i64.wrap ((i64.wrap (n4+1))+1))+1))+1))+1))+1))) (
 some (-1)) (
 aa (decide (0<=n6)) (
 Q1 (l1[n6.toNat]?) fun mE =>
 aa (mE.2.2.2.2.2.2.2 != (i64.wrap ((i64.wrap ((i64.wrap ((i64.wrap ((i64.wrap ((i64.wrap ((i64.wrap (n4+1))+1))+1))+1))+1))+1))+1))) (
 some (-1)) (
 bM ((i64.wrap ((i64.wrap ((i64.wrap ((i64.wrap ((i64.wrap ((i64.wrap ((i64.wrap ((i64.wrap (n4+1))+1))+1))+1))+1))+1))+1))+1)),n5,(i64.wrap (n6+1))))) none)) none)) none)) none)) none)) none)) none)) none) (
 sY n4 n5)) s.1 s.2.1 s.2.2
theorem Sm (d:Nat) (l1:List t1) (n2:Int):Fk (d+1) l1 n2 =
 Q8 (kM d l1 (oS d)) Qd (n2,0,0):=by kernel_rfl
noncomputable def oT (d:Nat) (n4 n5:Int):Option Int :=
 some n4
noncomputable def kN (d:Nat) (l1:List t5) (sZ:Int->Int->Option Int) (bM:(Int×Int×Int)->Option Int) (s:(Int×Int×Int)):Option Int :=
(fun n4 n5 n6 =>
 aa (decide (n6 < (l1.length:Int))) (
 aa (decide (0<=n6)) (
 Q1 (l1[n6.toNat]?) fun x7 =>
 aa (x7.1 != n4) (
 some (-1)) (
 aa (decide (0<=n6)) (
 Q1 (l1[n6.toNat]?) fun x8 =>
 aa (x8.2.1 != (i64.wrap (n4+1))) (
 some (-1)) (
 aa (decide (0<=n6)) (
 Q1 (l1[n6.toNat]?) fun x9 =>
 aa (x9.2.2.1 != (i64.wrap ((i64.wrap (n4+1))+1))) (
 some (-1)) (
 aa (decide (0<=n6)) (
 Q1 (l1[n6.toNat]?) fun aR =>
 aa (aR.2.2.2.1 != (i64.wrap ((i64.wrap ((i64.wrap (n4+1))+1))+1))) (
 some (-1)) (
 aa (decide (0<=n6)) (
 Q1 (l1[n6.toNat]?) fun bP =>
 aa (bP.2.2.2.2 != (i64.wrap ((i64.wrap ((i64.wrap ((i64.wrap (n4+1))+1))+1))+1))) (
 some (-1)) (
 bM ((i64.wrap ((i64.wrap ((i64.wrap ((i64.wrap ((i64.wrap (n4+1))+1))+1))+1))+1)),n5,(i64.wrap (n6+1))))) none)) none)) none)) none)) none) (
 sZ n4 n5)) s.1 s.2.1 s.2.2
theorem Sn (d:Nat) (l1:List t5) (n2:Int):Fl (d+1) l1 n2 =
 Q8 (kN d l1 (oT d)) Qd (n2,0,0):=by kernel_rfl
theorem e53 (d:Nat) (x1:t0) (n2:Int):So (d+1) x1 n2 =
 Q1 (Fk d x1.2.1 n2) fun r3 =>
 aa (decide (r3 < 0)) (
 some (-1)) (
 Q1 (g20 d x1.2.2.1 r3) fun r4 =>
 aa (decide (r4 < 0)) (
 some (-1)) (
 Q1 (g20 d x1.2.2.2.1 r4) fun r5 =>
 aa (decide (r5 < 0)) (
 some (-1)) (
 Q1 (g20 d x1.2.2.2.2.1 r5) fun r6 =>
 aa (decide (r6 < 0)) (
 some (-1)) (
 Q1 (g20 d x1.2.2.2.2.2.1 r6) fun r7 =>
 aa (decide (r7 < 0)) (
 some (-1)) (
 Q1 (Fl d x1.2.2.2.2.2.2.1 r7) fun r8 =>
 aa (decide (r8 < 0)) (
 some (-1)) (
 Q1 (g20 d x1.2.2.2.2.2.2.2.1 r8) fun r9 =>
 aa (decide (r9 < 0)) (
 some (-1)) (
 some r9))))))):=by kernel_rfl
theorem e54 (d:Nat) (x1:t7) (n2:Int):Sp (d+1) x1 n2 =
 Q1 (g20 d x1.1 n2) fun r3 =>
 aa (decide (r3 < 0)) (
 some (-1)) (
 Q1 (g20 d x1.2 r3) fun r4 =>
 aa (decide (r4 < 0)) (
 some (-1)) (
 some r4)):=by kernel_rfl
noncomputable def oU (d:Nat) (n4 n5:Int):Option Int :=
 some n4
noncomputable def kO (d:Nat) (l1:List t4) (s_:Int->Int->Option Int) (bM:(Int×Int×Int)->Option Int) (s:(Int×Int×Int)):Option Int :=
(fun n4 n5 n6 =>
 aa (decide (n6 < (l1.length:Int))) (
 aa (decide (0<=n6)) (
 Q1 (l1[n6.toNat]?) fun x7 =>
 aa (x7.1 != n4) (
 some (-1)) (
 aa (decide (0<=n6)) (
 Q1 (l1[n6.toNat]?) fun x8 =>
 aa (x8.2.1 != (i64.wrap (n4+1))) (
 some (-1)) (
 aa (decide (0<=n6)) (
 Q1 (l1[n6.toNat]?) fun x9 =>
 aa (x9.2.2.1 != (i64.wrap ((i64.wrap (n4+1))+1))) (
 some (-1)) (
 aa (decide (0<=n6)) (
 Q1 (l1[n6.toNat]?) fun aR =>
 aa (aR.2.2.2.1 != (i64.wrap ((i64.wrap ((i64.wrap (n4+1))+1))+1))) (
 some (-1)) (
 aa (decide (0<=n6)) (
 Q1 (l1[n6.toNat]?) fun bP =>
 aa (bP.2.2.2.2.1 != (i64.wrap ((i64.wrap ((i64.wrap ((i64.wrap (n4+1))+1))+1))+1))) (
 some (-1)) (
 aa (decide (0<=n6)) (
 Q1 (l1[n6.toNat]?) fun dz =>
 aa (dz.2.2.2.2.2 != (i64.wrap ((i64.wrap ((i64.wrap ((i64.wrap ((i64.wrap (n4+1))+1))+1))+1))+1))) (
 some (-1)) (
 bM ((i64.wrap ((i64.wrap ((i64.wrap ((i64.wrap ((i64.wrap ((i64.wrap (n4+1))+1))+1))+1))+1))+1)),n5,(i64.wrap (n6+1))))) none)) none)) none)) none)) none)) none) (
 s_ n4 n5)) s.1 s.2.1 s.2.2
theorem Sq (d:Nat) (l1:List t4) (n2:Int):Kq (d+1) l1 n2 =
 Q8 (kO d l1 (oU d)) Qd (n2,0,0):=by kernel_rfl
noncomputable def w9 (d:Nat) (n4 n5:Int):Option Int :=
 some n4
noncomputable def rE (d:Nat) (l1:List (List t4)) (w_:Int->Int->Option Int) (bM:(Int×Int×Int)->Option Int) (s:(Int×Int×Int)):Option Int :=
(fun n4 n5 n6 =>
 aa (decide (n6 < (l1.length:Int))) (
 aa (decide (0<=n6)) (
 Q1 (l1[n6.toNat]?) fun l7 =>
 Q1 (Kq d l7 n4) fun r8 =>
 aa (decide (r8 < 0)) (
 some (-1)) (
 bM (r8,n5,(i64.wrap (n6+1))))) none) (
 w_ n4 n5)) s.1 s.2.1 s.2.2
theorem e55 (d:Nat) (l1:List (List t4)) (n2:Int):YP (d+1) l1 n2 =
 Q8 (rE d l1 (w9 d)) Qd (n2,0,0):=by kernel_rfl
theorem e19 (d:Nat) (x1:t2) (n2:Int):g19 (d+1) x1 n2 =
 Q1 (So d x1.1 n2) fun r3 =>
 aa (decide (r3 < 0)) (
 some (-1)) (
 Q1 (Sp d x1.2.1 r3) fun r4 =>
 aa (decide (r4 < 0)) (
 some (-1)) (
 Q1 (YP d x1.2.2.1 r4) fun r5 =>
 aa (decide (r5 < 0)) (
 some (-1)) (
 some r5))):=by kernel_rfl
theorem e72 (d:Nat) (n1 n2 n3:Int):i_ (d+1) n1 n2 n3 =
 aa (decide (n1>=n2)) (
 some (decide (n1<=n3))) (
 some false):=by kernel_rfl
noncomputable def Fm (d:Nat) (b4:Bool):Option Bool :=
 some false
noncomputable def oV (d:Nat) (l1:List ByteArray) (s2:ByteArray) (tc:Bool->Option Bool) (bM:t9->Option Bool) (s:t9):Option Bool :=
(fun (b4:Bool) n5 =>
 aa (decide (n5 < (l1.length:Int))) (
 aa (decide (0<=n5)) (
 Q1 (l1[n5.toNat]?) fun s6 =>
 aa (s6.toList==s2.toList) (
 some true) (
 bM (b4,(i64.wrap (n5+1))))) none) (
 tc b4)) s.1 s.2
theorem Sr (d:Nat) (l1:List ByteArray) (s2:ByteArray):Kr (d+1) l1 s2 =
 Q8 (oV d l1 s2 (Fm d)) Qd (false,0):=by kernel_rfl
theorem Ss (d:Nat):Ks (d+1) =
 some [(⟨#[113,100,105,115,99]⟩:ByteArray),(⟨#[100,101,102,97,117,108,116]⟩:ByteArray),(⟨#[99,108,97,115,115]⟩:ByteArray),(⟨#[114,97,116,101]⟩:ByteArray),(⟨#[99,101,105,108]⟩:ByteArray),(⟨#[98,117,114,115,116]⟩:ByteArray),(⟨#[99,98,117,114,115,116]⟩:ByteArray),(⟨#[112,114,105,111]⟩:ByteArray),(⟨#[108,105,109,105,116]⟩:ByteArray),(⟨#[102,105,108,116,101,114]⟩:ByteArray),(⟨#[115,111,117,114,99,101]⟩:ByteArray),(⟨#[100,101,115,116]⟩:ByteArray),(⟨#[112,111,114,116]⟩:ByteArray),(⟨#[109,97,114,107]⟩:ByteArray)]:=by kernel_rfl
theorem Su (d:Nat) (s1:ByteArray):Fo (d+1) s1 =
 Q1 (Ks d) fun r2 =>
 Q1 (Kr d r2 s1) fun r3 =>
 some r3:=by kernel_rfl
noncomputable def xd (d:Nat) (s1:ByteArray) (b3:Bool):Option Bool :=
 Q1 (i_ d (s1.size:Int) 1 8) fun r4 =>
 aa r4 (
 Q1 (Fo d s1) fun r5 =>
 some (!r5)) (
 some false)
noncomputable def xe (d:Nat) (s1:ByteArray) (xg:Bool->Option Bool) (bV:t9->Option Bool) (s:t9):Option Bool :=
(fun (b3:Bool) n4 =>
 aa (decide (n4 < (s1.size:Int))) (
 aa (decide (0<=n4)) (
 Q1 (s1.data.toList[n4.toNat]?) fun c5 =>
 aa (decide ((c5.toNat:Int) < 97)) (
 some false) (
 aa (decide (0<=n4)) (
 Q1 (s1.data.toList[n4.toNat]?) fun c6 =>
 aa (decide ((c6.toNat:Int) > 122)) (
 some false) (
 bV (b3,(i64.wrap (n4+1))))) none)) none) (
 xg b3)) s.1 s.2
theorem e76 (d:Nat) (s1:ByteArray):Sv (d+1) s1 =
 Q8 (xe d s1 (xd d s1)) Qd (false,0):=by kernel_rfl
theorem Sw (d:Nat) (x1:t1):Fp (d+1) x1 =
 Q1 (i_ d x1.1 1 999) fun r2 =>
 aa r2 (
 Q1 (i_ d x1.2.2.1 1 100000) fun r3 =>
 aa r3 (
 Q1 (i_ d x1.2.2.2.1 x1.2.2.1 100000) fun r4 =>
 aa r4 (
 Q1 (i_ d x1.2.2.2.2.1 1500 1000000) fun r5 =>
 aa r5 (
 Q1 (i_ d x1.2.2.2.2.2.1 1500 1000000) fun r6 =>
 aa r6 (
 Q1 (i_ d x1.2.2.2.2.2.2.1 0 7) fun r7 =>
 some r7) (
 some false)) (
 some false)) (
 some false)) (
 some false)) (
 some false):=by kernel_rfl
noncomputable def Kt (d:Nat) (n4:Int):Option Int :=
 some (-1)
noncomputable def xh (d:Nat) (x1:t3) (n2:Int) (xj:Int->Option Int) (bM:t10->Option Int) (s:t10):Option Int :=
(fun n4 n5 =>
 aa (decide (n5 < (x1.2.1.length:Int))) (
 aa (decide (0<=n5)) (
 Q1 (x1.2.1[n5.toNat]?) fun x6 =>
 aa (x6.1==n2) (
 some n5) (
 bM (n4,(i64.wrap (n5+1))))) none) (
 xj n4)) s.1 s.2
theorem e58 (d:Nat) (x1:t3) (n2:Int):Fq (d+1) x1 n2 =
 Q8 (xh d x1 n2 (Kt d)) Qd (0,0):=by kernel_rfl
noncomputable def kP (d:Nat) (l4:List Int):Option (List Int) :=
 some l4
noncomputable def kQ (d:Nat) (fy:(List Int)->Option (List Int)) (x1:t3) (bM:t11->Option (List Int)) (n4:Int) (l5:List Int) (b6 b7:Bool):Option (List Int) :=
 aa b7 (
 aa (Nat.ble ((l5.length+[n4].length)*8) Q7) (
 aa (decide (0<=n4)) (
 Q1 (x1.2.1[n4.toNat]?) fun x8 =>
 Q1 (Fq d x1 x8.2.1) fun r9 =>
 bM (r9,(l5++[n4]))) none) none) (
 fy l5)
noncomputable def kR (d:Nat) (x1:t3) (fy:(List Int)->Option (List Int)) (bM:t11->Option (List Int)) (s:t11):Option (List Int) :=
(fun n4 (l5:List Int) =>
 aa (decide (n4>=0)) (
 kQ d fy x1 bM n4 l5 true (decide ((l5.length:Int)<=8))) (
 kQ d fy x1 bM n4 l5 false false)) s.1 s.2
theorem Sx (d:Nat) (x1:t3) (n2:Int):Fs (d+1) x1 n2 =
 Q8 (kR d x1 (kP d)) Qd (n2,[]):=by kernel_rfl
noncomputable def Ft (d:Nat) (l4:List Int):Option (List Int) :=
 some l4
noncomputable def oW (d:Nat) (x1:t3) (n2:Int) (td:(List Int)->Option (List Int)) (bM:t15->Option (List Int)) (s:t15):Option (List Int) :=
(fun (l4:List Int) n5 =>
 aa (decide (n5 < (x1.2.1.length:Int))) (
 aa (decide (0<=n5)) (
 Q1 (x1.2.1[n5.toNat]?) fun x6 =>
 aa (decide (0<=n2)) (
 Q1 (x1.2.1[n2.toNat]?) fun x7 =>
 aa (x6.2.1==x7.1) (
 aa (Nat.ble ((l4.length+[n5].length)*8) Q7) (
 bM ((l4++[n5]),(i64.wrap (n5+1)))) none) (
 bM (l4,(i64.wrap (n5+1))))) none) none) (
 td l4)) s.1 s.2
theorem Sy (d:Nat) (x1:t3) (n2:Int):kS (d+1) x1 n2 =
 Q8 (oW d x1 n2 (Ft d)) Qd ([],0):=by kernel_rfl
noncomputable def Fu (d:Nat) (n6:Int):Option Int :=
 some n6
noncomputable def oX (d:Nat) (x1:t3) (r4:List Int) (th:Int->Option Int) (gQ:t10->Option Int) (s:t10):Option Int :=
(fun n6 n7 =>
 aa (decide (n7 < (r4.length:Int))) (
 aa (decide (0<=n7)) (
 aa (Nat.blt (n7.toNat) r4.length) (
 Q1 (r4[n7.toNat]?) fun n8 =>
 aa (decide (0<=n8)) (
 Q1 (x1.2.1[n8.toNat]?) fun x9 =>
 gQ ((i64.wrap (n6 - x9.2.2.1)),(i64.wrap (n7+1)))) none) none) none) (
 th n6)) s.1 s.2
theorem Sz (d:Nat) (x1:t3) (n2:Int):Fv (d+1) x1 n2 =
 aa (decide (0<=n2)) (
 Q1 (x1.2.1[n2.toNat]?) fun x3 =>
 Q1 (kS d x1 n2) fun r4 =>
 Q8 (oX d x1 r4 (Fu d)) Qd (x3.2.2.1,0)) none:=by kernel_rfl
theorem SA (d:Nat) (x1:t3) (n2:Int):tj (d+1) x1 n2 =
 Q1 (kS d x1 n2) fun r3 =>
 some ((r3.length:Int)==0):=by kernel_rfl
noncomputable def Ku (d:Nat) (b6:Bool):Option Bool :=
 some true
noncomputable def j4 (d:Nat) (gQ:t9->Option Bool) (b6:Bool) (n7:Int) (b14 YQ YR b17 YS:Bool):Option Bool :=
 aa YS (
 some false) (
 gQ (b6,(i64.wrap (n7+1))))
noncomputable def j5 (d:Nat) (x1:t3) (gQ:t9->Option Bool) (b6:Bool) (n7:Int) (x8:t1) (Kv DE N7 vA:Bool):Option Bool :=
 aa vA (
 some false) (
 Q1 (tj d x1 n7) fun jA =>
 aa jA (
 Q1 (i_ d x8.2.2.2.2.2.2.2 1 60) fun vB =>
 aa (!vB) (
 j4 d gQ b6 n7 jA true (!vB) true true) (
 Q1 (tj d x1 n7) fun oY =>
 aa (!oY) (
 j4 d gQ b6 n7 jA true (!vB) false (x8.2.2.2.2.2.2.2 != 0)) (
 j4 d gQ b6 n7 jA true (!vB) false false))) (
 Q1 (tj d x1 n7) fun Fw =>
 aa (!Fw) (
 j4 d gQ b6 n7 jA false false false (x8.2.2.2.2.2.2.2 != 0)) (
 j4 d gQ b6 n7 jA false false false false)))
noncomputable def xk (d:Nat) (x1:t3) (xl:Bool->Option Bool) (gQ:t9->Option Bool) (s:t9):Option Bool :=
(fun (b6:Bool) n7 =>
 aa (decide (n7 < (x1.2.1.length:Int))) (
 aa (decide (0<=n7)) (
 Q1 (x1.2.1[n7.toNat]?) fun x8 =>
 Q1 (Fs d x1 n7) fun r9 =>
 aa (decide ((r9.length:Int) > 8)) (
 j5 d x1 gQ b6 n7 x8 true true true true) (
 aa (decide (0<=((i64.wrap ((r9.length:Int) - 1)):Int))) (
 aa (Nat.blt (((i64.wrap ((r9.length:Int) - 1)):Int).toNat) r9.length) (
 Q1 (r9[((i64.wrap ((r9.length:Int) - 1)):Int).toNat]?) fun dS =>
 aa (decide (0<=dS)) (
 Q1 (x1.2.1[dS.toNat]?) fun bP =>
 aa (bP.2.1 != 0) (
 j5 d x1 gQ b6 n7 x8 false (bP.2.1 != 0) true true) (
 Q1 (Fv d x1 n7) fun mG =>
 j5 d x1 gQ b6 n7 x8 false (bP.2.1 != 0) false (decide (mG < 0)))) none) none) none)) none) (
 xl b6)) s.1 s.2
noncomputable def xm (d:Nat) (x1:t3) (b3:Bool) (n4:Int):Option Bool :=
 aa (n4 != 1) (
 some false) (
 Q8 (xk d x1 (Ku d)) Qd (b3,0))
noncomputable def rF (d:Nat) (bV:(Bool×Int×Int)->Option Bool) (b3:Bool) (n4 n5:Int) (x6:t1) (b7 b8 b9 Kv:Bool):Option Bool :=
 aa Kv (
 some false) (
 aa (x6.2.1==0) (
 bV (b3,(i64.wrap (n4+1)),(i64.wrap (n5+1)))) (
 bV (b3,n4,(i64.wrap (n5+1)))))
noncomputable def xq (d:Nat) (x1:t3) (xu:Bool->Int->Option Bool) (bV:(Bool×Int×Int)->Option Bool) (s:(Bool×Int×Int)):Option Bool :=
(fun (b3:Bool) n4 n5 =>
 aa (decide (n5 < (x1.2.1.length:Int))) (
 aa (decide (0<=n5)) (
 Q1 (x1.2.1[n5.toNat]?) fun x6 =>
 Q1 (Fp d x6) fun r7 =>
 aa (!r7) (
 rF d bV b3 n4 n5 x6 r7 (!r7) true true) (
 aa (decide (n5 > 0)) (
 aa (decide (0<=((i64.wrap (n5 - 1)):Int))) (
 Q1 (x1.2.1[((i64.wrap (n5 - 1)):Int).toNat]?) fun x8 =>
 rF d bV b3 n4 n5 x6 r7 (!r7) false (decide (x8.1>=x6.1))) none) (
 rF d bV b3 n4 n5 x6 r7 (!r7) false false))) none) (
 xu b3 n4)) s.1 s.2.1 s.2.2
theorem e77 (d:Nat) (x1:t3):SB (d+1) x1 =
 Q8 (xq d x1 (xm d x1)) Qd (false,0,0):=by kernel_rfl
theorem e79 (d:Nat) (x1:t3) (n2:Int):Kw (d+1) x1 n2 =
 Q1 (Fq d x1 n2) fun r3 =>
 aa (decide (r3>=0)) (
 Q1 (tj d x1 r3) fun r4 =>
 some r4) (
 some false):=by kernel_rfl
theorem SC (d:Nat) (x1:t5):Fx (d+1) x1 =
 Q1 (i_ d x1.1 1 99) fun r2 =>
 aa r2 (
 Q1 (i_ d x1.2.1 0 3) fun r3 =>
 aa r3 (
 Q1 (i_ d x1.2.2.1 0 65535) fun r4 =>
 aa r4 (
 Q1 (i_ d x1.2.2.2.1 0 65535) fun r5 =>
 aa r5 (
 some (((i64.wrap ((BitVec.ofInt i64.bits x1.2.2.2.1 &&& BitVec.ofInt i64.bits x1.2.2.1).toNat:Int)):Int)==x1.2.2.2.1)) (
 some false)) (
 some false)) (
 some false)) (
 some false):=by kernel_rfl
noncomputable def DF (d:Nat) (x1:t3) (b3:Bool):Option Bool :=
 some (decide ((x1.2.2.1.length:Int)<=16))
noncomputable def nj (d:Nat) (bV:t9->Option Bool) (b3:Bool) (n4:Int) (b6 b7 b8 b9 Kv DE:Bool):Option Bool :=
 aa DE (
 some false) (
 bV (b3,(i64.wrap (n4+1))))
noncomputable def xw (d:Nat) (x1:t3) (xx:Bool->Option Bool) (bV:t9->Option Bool) (s:t9):Option Bool :=
(fun (b3:Bool) n4 =>
 aa (decide (n4 < (x1.2.2.1.length:Int))) (
 aa (decide (0<=n4)) (
 Q1 (x1.2.2.1[n4.toNat]?) fun x5 =>
 Q1 (Fx d x5) fun r6 =>
 aa (!r6) (
 nj d bV b3 n4 r6 (!r6) true true true true) (
 aa (decide (n4 > 0)) (
 aa (decide (0<=((i64.wrap (n4 - 1)):Int))) (
 Q1 (x1.2.2.1[((i64.wrap (n4 - 1)):Int).toNat]?) fun x7 =>
 aa (decide (x7.1>=x5.1)) (
 nj d bV b3 n4 r6 (!r6) false (decide (x7.1>=x5.1)) true true) (
 Q1 (Kw d x1 x5.2.2.2.2) fun r8 =>
 nj d bV b3 n4 r6 (!r6) false (decide (x7.1>=x5.1)) false (!r8))) none) (
 Q1 (Kw d x1 x5.2.2.2.2) fun r9 =>
 nj d bV b3 n4 r6 (!r6) false false false (!r9)))) none) (
 xx b3)) s.1 s.2
theorem e78 (d:Nat) (x1:t3):SD (d+1) x1 =
 Q8 (xw d x1 (DF d x1)) Qd (false,0):=by kernel_rfl
theorem e36 (d:Nat) (x1:t3):N8 (d+1) x1 =
 Q1 (Sv d x1.1) fun r2 =>
 aa r2 (
 Q1 (i_ d (x1.2.1.length:Int) 1 24) fun r3 =>
 aa r3 (
 Q1 (SB d x1) fun r4 =>
 aa r4 (
 Q1 (SD d x1) fun r5 =>
 aa r5 (
 aa (x1.2.2.2==0) (
 some true) (
 Q1 (Kw d x1 x1.2.2.2) fun r6 =>
 some r6)) (
 some false)) (
 some false)) (
 some false)) (
 some false):=by kernel_rfl
noncomputable def kT (d:Nat) (l1:List t1) (x2:t1) (n4:Int):Option (List t1) :=
 aa (decide (0<=n4)) (
 aa (Nat.ble (n4.toNat) l1.length) (
 aa (Nat.ble ((([]:List t1).length+(l1.take (n4.toNat)).length)*64) Q7) (
 aa (Nat.ble (((([]:List t1)++(l1.take (n4.toNat))).length+[x2].length)*64) Q7) (
 aa (decide (0<=n4)) (
 aa (Nat.ble (n4.toNat) l1.length) (
 aa (Nat.ble ((((([]:List t1)++(l1.take (n4.toNat)))++[x2]).length+(l1.drop (n4.toNat)).length)*64) Q7) (
 some (((([]:List t1)++(l1.take (n4.toNat)))++[x2])++(l1.drop (n4.toNat)))) none) none) none) none) none) none) none
noncomputable def kU (d:Nat) (l1:List t1) (x2:t1) (j6 bM:Int->Option (List t1)) (s:Int):Option (List t1) :=
(fun n4 =>
 aa (decide (n4 < (l1.length:Int))) (
 aa (decide (0<=n4)) (
 Q1 (l1[n4.toNat]?) fun x5 =>
 aa (decide (x5.1 < x2.1)) (
 bM (i64.wrap (n4+1))) (
 j6 n4)) none) (
 j6 n4)) s
theorem SE (d:Nat) (l1:List t1) (x2:t1):BH (d+1) l1 x2 =
 Q8 (kU d l1 x2 (kT d l1 x2)) Qd 0:=by kernel_rfl
noncomputable def xy (d:Nat) (x1:t0) (s3:ByteArray) (n4:Int) (l5:List t1) (l6:List t5):Option t3 :=
 Q1 (i_ d x1.2.2.2.2.2.2.2.2 0 (i64.wrap ((x1.2.1.length:Int) - 1))) fun r7 =>
 aa r7 (
 aa (decide (0<=x1.2.2.2.2.2.2.2.2)) (
 Q1 (x1.2.1[x1.2.2.2.2.2.2.2.2.toNat]?) fun x8 =>
 some (s3,l5,l6,x8.1)) none) (
 some (s3,l5,l6,n4))
noncomputable def xz (d:Nat) (x1:t0) (xA:ByteArray->Int->(List t1)->(List t5)->Option t3) (bV:(Int×t3)->Option t3) (s:(Int×t3)):Option t3 :=
(fun n3 (x4:t3) =>
 aa (decide (n3 < (x1.2.1.length:Int))) (
 aa (decide (0<=n3)) (
 Q1 (x1.2.1[n3.toNat]?) fun x5 =>
 Q1 (BH d x4.2.1 x5) fun r6 =>
 bV ((i64.wrap (n3+1)),(x4.1,r6,x4.2.2))) none) (
 xA x4.1 x4.2.2.2 x4.2.1 x4.2.2.1)) s.1 s.2
theorem e57 (d:Nat) (x1:t0):N9 (d+1) x1 =
 aa (Nat.ble ((([]:List t5).length+x1.2.2.2.2.2.2.1.length)*40) Q7) (
 Q8 (xz d x1 (xy d x1)) Qd (0,(x1.1,[],(([]:List t5)++x1.2.2.2.2.2.2.1),0))) none:=by kernel_rfl
noncomputable def Fy (d:Nat) (l5:List Int):Option (List Int) :=
 some l5
noncomputable def oZ (d:Nat) (x1:t3) (r3:List Int) (tn:(List Int)->Option (List Int)) (ja:t15->Option (List Int)) (s:t15):Option (List Int) :=
(fun (l5:List Int) n6 =>
 aa (decide (n6 < (r3.length:Int))) (
 aa (decide (0<=n6)) (
 aa (Nat.blt (n6.toNat) r3.length) (
 Q1 (r3[n6.toNat]?) fun n7 =>
 Q1 (o5 d x1 n7) fun r8 =>
 aa (Nat.ble ((l5.length+r8.length)*8) Q7) (
 ja ((l5++r8),(i64.wrap (n6+1)))) none) none) none) (
 tn l5)) s.1 s.2
theorem SF (d:Nat) (x1:t3) (n2:Int):o5 (d+1) x1 n2 =
 Q1 (kS d x1 n2) fun r3 =>
 Q8 (oZ d x1 r3 (Fy d)) Qd ([n2],0):=by kernel_rfl
noncomputable def xB (d:Nat) (n3:Int):Option Int :=
 some n3
noncomputable def kV (d:Nat) (x1:t3) (tq bV:Int->Option Int) (s:Int):Option Int :=
(fun n3 =>
 aa (decide (0<=n3)) (
 Q1 (x1.2.1[n3.toNat]?) fun x4 =>
 aa (x4.2.1 != 0) (
 bV (i64.wrap (n3+1))) (
 tq n3)) none) s
theorem SG (d:Nat) (x1:t3):Fz (d+1) x1 =
 Q8 (kV d x1 (xB d)) Qd 0:=by kernel_rfl
noncomputable def o6 (d:Nat) (x1:t3) (l5:List Int) (YT:ByteArray) (eJ:Int) (gR:List t1) (dU eR DG vC:List Int) (rG:List t5) (DH:List Int):Option t0 :=
 aa (x1.2.2.2 != 0) (
 Q1 (Fq d x1 x1.2.2.2) fun ot =>
 aa (decide (0<=ot)) (
 aa (Nat.blt (ot.toNat) l5.length) (
 Q1 (l5[ot.toNat]?) fun eK =>
 some (YT,gR,dU,eR,DG,vC,rG,DH,eK)) none) none) (
 some (YT,gR,dU,eR,DG,vC,rG,DH,eJ))
noncomputable def kW (d:Nat) (x1:t3) (l5:List Int) (tu:ByteArray->Int->(List t1)->(List Int)->(List Int)->(List Int)->(List Int)->(List t5)->(List Int)->Option t0) (FA:(Int×t0)->Option t0) (s:(Int×t0)):Option t0 :=
(fun eA (fQ:t0) =>
 aa (decide (eA < (x1.2.2.1.length:Int))) (
 aa (decide (0<=eA)) (
 Q1 (x1.2.2.1[eA.toNat]?) fun nk =>
 Q1 (Fq d x1 nk.2.2.2.2) fun FB =>
 aa (decide (0<=FB)) (
 aa (Nat.blt (FB.toNat) l5.length) (
 Q1 (l5[FB.toNat]?) fun j7 =>
 aa (Nat.ble ((fQ.2.2.2.2.2.2.2.1.length+[j7].length)*8) Q7) (
 FA ((i64.wrap (eA+1)),(fQ.1,fQ.2.1,fQ.2.2.1,fQ.2.2.2.1,fQ.2.2.2.2.1,fQ.2.2.2.2.2.1,fQ.2.2.2.2.2.2.1,(fQ.2.2.2.2.2.2.2.1++[j7]),fQ.2.2.2.2.2.2.2.2))) none) none) none) none) (
 tu fQ.1 fQ.2.2.2.2.2.2.2.2 fQ.2.1 fQ.2.2.1 fQ.2.2.2.1 fQ.2.2.2.2.1 fQ.2.2.2.2.2.1 fQ.2.2.2.2.2.2.1 fQ.2.2.2.2.2.2.2.1)) s.1 s.2
noncomputable def kX (d:Nat) (x1:t3) (l5:List Int) (s7:ByteArray) (n8:Int) (l9:List t1) (l10 kY DI fR:List Int) (j8:List t5) (ia:List Int):Option t0 :=
 Q8 (kW d x1 l5 (o6 d x1 l5)) Qd (0,(s7,l9,l10,kY,DI,fR,j8,ia,n8))
noncomputable def kZ (d:Nat) (x1:t3) (gb:(Int×t0)->Option t0) (n7:Int) (x8:t0) (n9:Int) (aR:t1) (jM nq eA:Int) (YS:Bool):Option t0 :=
 aa (Nat.ble ((x8.2.2.1.length+[jM].length)*8) Q7) (
 aa (Nat.ble ((x8.2.2.2.1.length+[eA].length)*8) Q7) (
 aa (Nat.ble ((x8.2.2.2.2.1.length+[nq].length)*8) Q7) (
 Q1 (o5 d x1 n9) fun vD =>
 aa (Nat.ble ((x8.2.2.2.2.2.1.length+[(i64.wrap (n7+(vD.length:Int)))].length)*8) Q7) (
 gb ((i64.wrap (n7+1)),(x8.1,(x8.2.1++[aR]),(x8.2.2.1++[jM]),(x8.2.2.2.1++[eA]),(x8.2.2.2.2.1++[nq]),(x8.2.2.2.2.2.1++[(i64.wrap (n7+(vD.length:Int)))]),x8.2.2.2.2.2.2))) none) none) none) none
noncomputable def k_ (d:Nat) (x1:t3) (l5:List Int) (gb:(Int×t0)->Option t0) (n7:Int) (x8:t0) (n9:Int) (aR:t1) (jM nq:Int) (YQ:Bool):Option t0 :=
 Q1 (kS d x1 n9) fun oY =>
 aa (decide ((oY.length:Int) > 0)) (
 aa (Nat.blt 0 oY.length) (
 Q1 (oY[0]?) fun eA =>
 aa (decide (0<=eA)) (
 aa (Nat.blt (eA.toNat) l5.length) (
 Q1 (l5[eA.toNat]?) fun eJ =>
 kZ d x1 gb n7 x8 n9 aR jM nq eJ true) none) none) none) (
 kZ d x1 gb n7 x8 n9 aR jM nq (-1) false)
noncomputable def xC (d:Nat) (x1:t3) (l5:List Int) (gb:(Int×t0)->Option t0) (n7:Int) (x8:t0) (n9:Int) (aR:t1) (jM dJ eA:Int):Option t0 :=
 k_ d x1 l5 gb n7 x8 n9 aR jM dJ true
noncomputable def o7 (d:Nat) (l5 jA:List Int) (nr:t10->Option t0) (dJ eA:Int) (b19 Kx:Bool):Option t0 :=
 aa Kx (
 aa (decide (0<=((i64.wrap (eA+1)):Int))) (
 aa (Nat.blt (((i64.wrap (eA+1)):Int).toNat) jA.length) (
 Q1 (jA[((i64.wrap (eA+1)):Int).toNat]?) fun j7 =>
 aa (decide (0<=j7)) (
 aa (Nat.blt (j7.toNat) l5.length) (
 Q1 (l5[j7.toNat]?) fun BI =>
 nr (BI,(i64.wrap (eA+1)))) none) none) none) none) (
 nr (dJ,(i64.wrap (eA+1))))
noncomputable def ld (d:Nat) (l5:List Int) (n9:Int) (jA:List Int) (tv:Int->Int->Option t0) (nr:t10->Option t0) (s:t10):Option t0 :=
(fun dJ eA =>
 aa (decide (eA < (jA.length:Int))) (
 aa (decide (0<=eA)) (
 aa (Nat.blt (eA.toNat) jA.length) (
 Q1 (jA[eA.toNat]?) fun eJ =>
 aa (eJ==n9) (
 o7 d l5 jA nr dJ eA true (decide (((i64.wrap (eA+1)):Int) < (jA.length:Int)))) (
 o7 d l5 jA nr dJ eA false false)) none) none) (
 tv dJ eA)) s.1 s.2
noncomputable def jb (d:Nat) (x1:t3) (r3 l5:List Int) (tw:ByteArray->Int->(List t1)->(List Int)->(List Int)->(List Int)->(List Int)->(List t5)->(List Int)->Option t0) (gb:(Int×t0)->Option t0) (s:(Int×t0)):Option t0 :=
(fun n7 (x8:t0) =>
 aa (decide (n7 < (r3.length:Int))) (
 aa (decide (0<=n7)) (
 aa (Nat.blt (n7.toNat) r3.length) (
 Q1 (r3[n7.toNat]?) fun n9 =>
 aa (decide (0<=n9)) (
 Q1 (x1.2.1[n9.toNat]?) fun aR =>
 aa (Nat.ble ((x8.2.1.length+[aR].length)*64) Q7) (
 aa (decide (0<=n9)) (
 Q1 (x1.2.1[n9.toNat]?) fun bP =>
 Q1 (Fq d x1 bP.2.1) fun mG =>
 aa (decide (mG>=0)) (
 aa (decide (0<=mG)) (
 aa (Nat.blt (mG.toNat) l5.length) (
 Q1 (l5[mG.toNat]?) fun jM =>
 Q1 (kS d x1 mG) fun jA =>
 Q8 (ld d l5 n9 jA (xC d x1 l5 gb n7 x8 n9 aR jM)) Qd ((-1),0)) none) none) (
 k_ d x1 l5 gb n7 x8 n9 aR (-1) (-1) false)) none) none) none) none) none) (
 tw x8.1 x8.2.2.2.2.2.2.2.2 x8.2.1 x8.2.2.1 x8.2.2.2.1 x8.2.2.2.2.1 x8.2.2.2.2.2.1 x8.2.2.2.2.2.2.1 x8.2.2.2.2.2.2.2.1)) s.1 s.2
noncomputable def o8 (d:Nat) (x1:t3) (r3 l5:List Int):Option t0 :=
 aa (Nat.ble ((([]:List t5).length+x1.2.2.1.length)*40) Q7) (
 Q8 (jb d x1 r3 l5 (kX d x1 l5)) Qd (0,(x1.1,[],[],[],[],[],(([]:List t5)++x1.2.2.1),[],(-1)))) none
noncomputable def o9 (d:Nat) (r3:List Int) (tA:(List Int)->Option t0) (ja:t11->Option t0) (s:t11):Option t0 :=
(fun n5 (l6:List Int) =>
 aa (decide (n5 < (r3.length:Int))) (
 aa (decide (0<=n5)) (
 aa (Nat.blt (n5.toNat) r3.length) (
 Q1 (r3[n5.toNat]?) fun n7 =>
 aa (decide (0<=n7)) (
 aa (Nat.blt (n7.toNat) l6.length) (
 Q1 (l6[n7.toNat]?) fun n8 =>
 ja ((i64.wrap (n5+1)),(l6.set (n7.toNat) n5))) none) none) none) none) (
 tA l6)) s.1 s.2
theorem SH (d:Nat) (x1:t3):BJ (d+1) x1 =
 Q1 (Fz d x1) fun r2 =>
 Q1 (o5 d x1 r2) fun r3 =>
 aa (decide (0<=(r3.length:Int))) (
 aa (decide (0<=(r3.length:Int))) (
 aa (Nat.ble ((r3.length:Int).toNat) ((r3.length:Int).toNat)&&Nat.ble (((r3.length:Int).toNat)*8) Q7) (
 Q8 (o9 d r3 (o8 d x1 r3)) Qd (0,(List.replicate ((r3.length:Int).toNat) (0:Int)))) none) none) none:=by kernel_rfl
noncomputable def FC (d:Nat) (b4:Bool):Option Bool :=
 some true
noncomputable def o_ (d:Nat) (l1 l2:List Int) (tB:Bool->Option Bool) (bM:t9->Option Bool) (s:t9):Option Bool :=
(fun (b4:Bool) n5 =>
 aa (decide (n5 < (l1.length:Int))) (
 aa (decide (0<=n5)) (
 Q1 (l1[n5.toNat]?) fun n6 =>
 aa (decide (0<=n5)) (
 Q1 (l2[n5.toNat]?) fun n7 =>
 aa (n6 != n7) (
 some false) (
 bM (b4,(i64.wrap (n5+1))))) none) none) (
 tB b4)) s.1 s.2
theorem SI (d:Nat) (l1 l2:List Int):pe (d+1) l1 l2 =
 aa ((l1.length:Int) != (l2.length:Int)) (
 some false) (
 Q8 (o_ d l1 l2 (FC d)) Qd (false,0)):=by kernel_rfl
noncomputable def pg (d:Nat) (x1 x2:t0) (b7:Bool):Option Bool :=
 Q1 (pe d x1.2.2.1 x2.2.2.1) fun r8 =>
 aa r8 (
 Q1 (pe d x1.2.2.2.1 x2.2.2.2.1) fun r9 =>
 aa r9 (
 Q1 (pe d x1.2.2.2.2.1 x2.2.2.2.2.1) fun tC =>
 aa tC (
 Q1 (pe d x1.2.2.2.2.2.1 x2.2.2.2.2.2.1) fun gS =>
 aa gS (
 Q1 (pe d x1.2.2.2.2.2.2.2.1 x2.2.2.2.2.2.2.2.1) fun mG =>
 some mG) (
 some false)) (
 some false)) (
 some false)) (
 some false)
noncomputable def pn (d:Nat) (x1 x2:t0) (tD:Bool->Option Bool) (gb:t9->Option Bool) (s:t9):Option Bool :=
(fun (b7:Bool) n8 =>
 aa (decide (n8 < (x1.2.2.2.2.2.2.1.length:Int))) (
 aa (decide (0<=n8)) (
 Q1 (x1.2.2.2.2.2.2.1[n8.toNat]?) fun x9 =>
 aa (decide (0<=n8)) (
 Q1 (x2.2.2.2.2.2.2.1[n8.toNat]?) fun aR =>
 aa (!((x9.1==aR.1)&&((x9.2.1==aR.2.1)&&((x9.2.2.1==aR.2.2.1)&&((x9.2.2.2.1==aR.2.2.2.1)&&((x9.2.2.2.2==aR.2.2.2.2)&&true)))))) (
 some false) (
 gb (b7,(i64.wrap (n8+1))))) none) none) (
 tD b7)) s.1 s.2
noncomputable def pq (d:Nat) (x1 x2:t0) (b5:Bool):Option Bool :=
 Q8 (pn d x1 x2 (pg d x1 x2)) Qd (b5,0)
noncomputable def pz (d:Nat) (x1 x2:t0) (tG:Bool->Option Bool) (ja:t9->Option Bool) (s:t9):Option Bool :=
(fun (b5:Bool) n6 =>
 aa (decide (n6 < (x1.2.1.length:Int))) (
 aa (decide (0<=n6)) (
 Q1 (x1.2.1[n6.toNat]?) fun x7 =>
 aa (decide (0<=n6)) (
 Q1 (x2.2.1[n6.toNat]?) fun x8 =>
 aa (!((x7.1==x8.1)&&((x7.2.1==x8.2.1)&&((x7.2.2.1==x8.2.2.1)&&((x7.2.2.2.1==x8.2.2.2.1)&&((x7.2.2.2.2.1==x8.2.2.2.2.1)&&((x7.2.2.2.2.2.1==x8.2.2.2.2.2.1)&&((x7.2.2.2.2.2.2.1==x8.2.2.2.2.2.2.1)&&((x7.2.2.2.2.2.2.2==x8.2.2.2.2.2.2.2)&&true))))))))) (
 some false) (
 ja (b5,(i64.wrap (n6+1))))) none) none) (
 tG b5)) s.1 s.2
noncomputable def jc (d:Nat) (x1 x2:t0) (b3:Bool):Option Bool :=
 aa b3 (
 some false) (
 Q8 (pz d x1 x2 (pq d x1 x2)) Qd (false,0))
theorem SJ (d:Nat) (x1 x2:t0):FD (d+1) x1 x2 =
 aa (!(x1.1.toList==x2.1.toList)) (
 jc d x1 x2 true) (
 aa ((x1.2.1.length:Int) != (x2.2.1.length:Int)) (
 jc d x1 x2 true) (
 aa ((x1.2.2.2.2.2.2.1.length:Int) != (x2.2.2.2.2.2.2.1.length:Int)) (
 jc d x1 x2 true) (
 jc d x1 x2 (x1.2.2.2.2.2.2.2.2 != x2.2.2.2.2.2.2.2.2)))):=by kernel_rfl
noncomputable def pE (d:Nat) (x1:t0) (b2:Bool):Option Bool :=
 aa b2 (
 some false) (
 Q1 (N9 d x1) fun r3 =>
 Q1 (N8 d r3) fun r4 =>
 aa r4 (
 Q1 (BJ d r3) fun r5 =>
 Q1 (FD d x1 r5) fun r6 =>
 some r6) (
 some false))
theorem SK (d:Nat) (x1:t0):FE (d+1) x1 =
 aa (decide ((x1.2.1.length:Int) > 24)) (
 pE d x1 true) (
 pE d x1 (decide ((x1.2.2.2.2.2.2.1.length:Int) > 16))):=by kernel_rfl
noncomputable def FF (d:Nat) (b5:Bool):Option Bool :=
 some true
noncomputable def pG (d:Nat) (x1:t0) (x2:t7) (tH:Bool->Option Bool) (ja:t9->Option Bool) (s:t9):Option Bool :=
(fun (b5:Bool) n6 =>
 aa (decide (n6 < (x1.2.1.length:Int))) (
 aa (decide (0<=n6)) (
 Q1 (x1.2.1[n6.toNat]?) fun x7 =>
 aa (decide (0<=n6)) (
 Q1 (x2.1[n6.toNat]?) fun n8 =>
 Q1 (i_ d n8 0 x7.2.2.2.2.1) fun r9 =>
 aa (!r9) (
 some false) (
 aa (decide (0<=n6)) (
 Q1 (x2.2[n6.toNat]?) fun dS =>
 Q1 (i_ d dS 0 x7.2.2.2.2.2.1) fun gS =>
 aa (!gS) (
 some false) (
 ja (b5,(i64.wrap (n6+1))))) none)) none) none) (
 tH b5)) s.1 s.2
noncomputable def pH (d:Nat) (x1:t0) (x2:t7) (b3:Bool):Option Bool :=
 aa b3 (
 some false) (
 Q8 (pG d x1 x2 (FF d)) Qd (false,0))
theorem SL (d:Nat) (x1:t0) (x2:t7):FG (d+1) x1 x2 =
 aa ((x2.1.length:Int) != (x1.2.1.length:Int)) (
 pH d x1 x2 true) (
 pH d x1 x2 ((x2.2.length:Int) != (x1.2.1.length:Int))):=by kernel_rfl
theorem e70 (d:Nat) (x1:t0) (x2:t7):SM (d+1) x1 x2 =
 Q1 (FE d x1) fun r3 =>
 aa r3 (
 Q1 (FG d x1 x2) fun r4 =>
 some r4) (
 some false):=by kernel_rfl
theorem SN (d:Nat) (x1:t0) (n2:Int):FH (d+1) x1 n2 =
 aa (decide (0<=n2)) (
 Q1 (x1.2.2.2.1[n2.toNat]?) fun n3 =>
 some (decide (n3 < 0))) none:=by kernel_rfl
noncomputable def Ky (d:Nat) (l3:List Int):Option (List Int) :=
 some l3
noncomputable def xD (d:Nat) (x1:t0) (xE:(List Int)->Option (List Int)) (bV:t15->Option (List Int)) (s:t15):Option (List Int) :=
(fun (l3:List Int) n4 =>
 aa (decide (n4 < (x1.2.1.length:Int))) (
 Q1 (FH d x1 n4) fun r5 =>
 aa r5 (
 aa (Nat.ble ((l3.length+[n4].length)*8) Q7) (
 bV ((l3++[n4]),(i64.wrap (n4+1)))) none) (
 bV (l3,(i64.wrap (n4+1))))) (
 xE l3)) s.1 s.2
theorem e71 (d:Nat) (x1:t0):DJ (d+1) x1 =
 Q8 (xD d x1 (Ky d)) Qd ([],0):=by kernel_rfl
theorem SO (d:Nat) (n1:Int):tI (d+1) n1 =
 Q1 (i_ d n1 0 65535) fun r2 =>
 some r2:=by kernel_rfl
theorem e73 (d:Nat) (x1:t4):SP (d+1) x1 =
 Q1 (i_ d x1.1 1 100000) fun r2 =>
 aa r2 (
 Q1 (tI d x1.2.1) fun r3 =>
 aa r3 (
 Q1 (tI d x1.2.2.1) fun r4 =>
 aa r4 (
 Q1 (tI d x1.2.2.2.1) fun r5 =>
 aa r5 (
 Q1 (tI d x1.2.2.2.2.1) fun r6 =>
 aa r6 (
 Q1 (i_ d x1.2.2.2.2.2 1 1500) fun r7 =>
 some r7) (
 some false)) (
 some false)) (
 some false)) (
 some false)) (
 some false):=by kernel_rfl
theorem SQ (d:Nat) (x1:t4) (n2:Int):Kz (d+1) x1 n2 =
 aa (decide (0<=n2)) (
 aa (Nat.blt (n2.toNat) ([x1.2.1,x1.2.2.1,x1.2.2.2.1,x1.2.2.2.2.1].length)) (
 Q1 ([x1.2.1,x1.2.2.1,x1.2.2.2.1,x1.2.2.2.2.1][n2.toNat]?) fun n3 =>
 some n3) none) none:=by kernel_rfl
theorem SS (d:Nat) (x1:t5) (x2:t4):FI (d+1) x1 x2 =
 Q1 (Kz d x2 x1.2.1) fun r3 =>
 some (((i64.wrap ((BitVec.ofInt i64.bits r3 &&& BitVec.ofInt i64.bits x1.2.2.1).toNat:Int)):Int)==x1.2.2.2.1):=by kernel_rfl
noncomputable def FJ (d:Nat) (n4:Int):Option Int :=
 some (-1)
noncomputable def pI (d:Nat) (l1:List t5) (x2:t4) (tJ:Int->Option Int) (bM:t10->Option Int) (s:t10):Option Int :=
(fun n4 n5 =>
 aa (decide (n5 < (l1.length:Int))) (
 aa (decide (0<=n5)) (
 Q1 (l1[n5.toNat]?) fun x6 =>
 Q1 (FI d x6 x2) fun r7 =>
 aa r7 (
 some n5) (
 bM (n4,(i64.wrap (n5+1))))) none) (
 tJ n4)) s.1 s.2
theorem SU (d:Nat) (l1:List t5) (x2:t4):FK (d+1) l1 x2 =
 Q8 (pI d l1 x2 (FJ d)) Qd (0,0):=by kernel_rfl
theorem e74 (d:Nat) (x1:t0) (x2:t4):N_ (d+1) x1 x2 =
 Q1 (FK d x1.2.2.2.2.2.2.1 x2) fun r3 =>
 aa (decide (r3>=0)) (
 aa (decide (0<=r3)) (
 Q1 (x1.2.2.2.2.2.2.2.1[r3.toNat]?) fun n4 =>
 some n4) none) (
 some x1.2.2.2.2.2.2.2.2):=by kernel_rfl
noncomputable def KA (d:Nat) (b4:Bool):Option Bool :=
 some false
noncomputable def xF (d:Nat) (l1:List Int) (n2:Int) (xG:Bool->Option Bool) (bM:t9->Option Bool) (s:t9):Option Bool :=
(fun (b4:Bool) n5 =>
 aa (decide (n5 < (l1.length:Int))) (
 aa (decide (0<=n5)) (
 Q1 (l1[n5.toNat]?) fun n6 =>
 aa (n6==n2) (
 some true) (
 bM (b4,(i64.wrap (n5+1))))) none) (
 xG b4)) s.1 s.2
theorem e75 (d:Nat) (l1:List Int) (n2:Int):Oa (d+1) l1 n2 =
 Q8 (xF d l1 n2 (KA d)) Qd (false,0):=by kernel_rfl
noncomputable def KB (d:Nat) (b6:Bool):Option Bool :=
 some true
noncomputable def xH (d:Nat) (gQ:(Bool×(List Int)×Int)->Option Bool) (n8:Int) (vA:Bool) (nq:Int) (ia:List Int):Option Bool :=
 gQ (vA,ia,(i64.wrap (n8+1)))
noncomputable def nu (d:Nat) (x1:t2) (r3:List Int) (n8:Int) (l9:List t4) (xI:Bool->Int->(List Int)->Option Bool) (FL:(Bool×(List Int)×Int)->Option Bool) (s:(Bool×(List Int)×Int)):Option Bool :=
(fun (vA:Bool) (j8:List Int) gC =>
 aa (decide (gC < (l9.length:Int))) (
 aa (decide (0<=gC)) (
 Q1 (l9[gC.toNat]?) fun ou =>
 Q1 (SP d ou) fun Fw =>
 aa (!Fw) (
 some false) (
 Q1 (N_ d x1.1 ou) fun BK =>
 aa (decide (0<=n8)) (
 aa (Nat.blt (n8.toNat) r3.length) (
 Q1 (r3[n8.toNat]?) fun tK =>
 aa (BK != tK) (
 some false) (
 Q1 (Oa d j8 ou.1) fun FB =>
 aa FB (
 some false) (
 aa (Nat.ble ((j8.length+[ou.1].length)*8) Q7) (
 FL (vA,(j8++[ou.1]),(i64.wrap (gC+1)))) none))) none) none)) none) (
 xI vA gC j8)) s.1 s.2.1 s.2.2
noncomputable def xJ (d:Nat) (x1:t2) (r3:List Int) (xK:Bool->Option Bool) (gQ:(Bool×(List Int)×Int)->Option Bool) (s:(Bool×(List Int)×Int)):Option Bool :=
(fun (b6:Bool) (l7:List Int) n8 =>
 aa (decide (n8 < (x1.2.2.1.length:Int))) (
 aa (decide (0<=n8)) (
 Q1 (x1.2.2.1[n8.toNat]?) fun l9 =>
 aa (decide (0<=n8)) (
 aa (Nat.blt (n8.toNat) r3.length) (
 Q1 (r3[n8.toNat]?) fun dS =>
 aa (decide (0<=dS)) (
 Q1 (x1.1.2.1[dS.toNat]?) fun bP =>
 aa (decide ((l9.length:Int) > bP.2.2.2.2.2.2.2)) (
 some false) (
 Q8 (nu d x1 r3 n8 l9 (xH d gQ n8)) Qd (b6,l7,0))) none) none) none) none) (
 xK b6)) s.1 s.2.1 s.2.2
noncomputable def rH (d:Nat) (x1:t2) (r3:List Int) (b4:Bool):Option Bool :=
 aa b4 (
 some false) (
 Q8 (xJ d x1 r3 (KB d)) Qd (false,[],0))
theorem e35 (d:Nat) (x1:t2):SV (d+1) x1 =
 Q1 (SM d x1.1 x1.2.1) fun r2 =>
 aa (!r2) (
 some false) (
 Q1 (DJ d x1.1) fun r3 =>
 aa ((x1.2.2.1.length:Int) != (r3.length:Int)) (
 rH d x1 r3 true) (
 Q1 (i_ d x1.2.2.2.1 (-1) (i64.wrap ((r3.length:Int) - 1))) fun r4 =>
 aa (!r4) (
 rH d x1 r3 true) (
 Q1 (i_ d x1.2.2.2.2 0 1000000) fun r5 =>
 rH d x1 r3 (!r5)))):=by kernel_rfl
noncomputable def KC (d:Nat) (n4:Int):Option Int :=
 some (-1)
noncomputable def xL (d:Nat) (x1:t0) (n2:Int) (xM:Int->Option Int) (bM:t10->Option Int) (s:t10):Option Int :=
(fun n4 n5 =>
 aa (decide (n5 < (x1.2.1.length:Int))) (
 aa (decide (0<=n5)) (
 Q1 (x1.2.1[n5.toNat]?) fun x6 =>
 aa (x6.1==n2) (
 some n5) (
 bM (n4,(i64.wrap (n5+1))))) none) (
 xM n4)) s.1 s.2
theorem e56 (d:Nat) (x1:t0) (n2:Int):SW (d+1) x1 n2 =
 Q8 (xL d x1 n2 (KC d)) Qd (0,0):=by kernel_rfl
noncomputable def FM (d:Nat) (l3 l4:List Int):Option t7 :=
 some (l3,l4)
noncomputable def pJ (d:Nat) (x1:t0) (tL:(List Int)->(List Int)->Option t7) (bV:(Int×t7)->Option t7) (s:(Int×t7)):Option t7 :=
(fun n3 (x4:t7) =>
 aa (decide (n3 < (x1.2.1.length:Int))) (
 aa (decide (0<=n3)) (
 Q1 (x1.2.1[n3.toNat]?) fun x5 =>
 aa (Nat.ble ((x4.1.length+[x5.2.2.2.2.1].length)*8) Q7) (
 aa (Nat.ble ((x4.2.length+[x5.2.2.2.2.2.1].length)*8) Q7) (
 bV ((i64.wrap (n3+1)),((x4.1++[x5.2.2.2.2.1]),(x4.2++[x5.2.2.2.2.2.1])))) none) none) none) (
 tL x4.1 x4.2)) s.1 s.2
theorem SX (d:Nat) (x1:t0):FN (d+1) x1 =
 Q8 (pJ d x1 (FM d)) Qd (0,([],[])):=by kernel_rfl
theorem e80 (d:Nat) (x1:t3):RJ (d+1) x1 =
 Q1 (BJ d x1) fun r2 =>
 Q1 (FN d r2) fun r3 =>
 Q1 (DJ d r2) fun r4 =>
 aa (decide (0<=(r4.length:Int))) (
 aa (decide (0<=(r4.length:Int))) (
 aa (Nat.ble ((r4.length:Int).toNat) ((r4.length:Int).toNat)&&Nat.ble (((r4.length:Int).toNat)*24) Q7) (
 some (r2,r3,(List.replicate ((r4.length:Int).toNat) ([]:List t4)),(-1),0)) none) none) none:=by kernel_rfl
theorem e81 (d:Nat) (n1 n2:Int):Ob (d+1) n1 n2 =
 aa (decide (n1 < n2)) (
 some n1) (
 some n2):=by kernel_rfl
theorem e82 (d:Nat) (x1:t2):RP (d+1) x1 =
 aa (decide (x1.2.2.2.1 < 0)) (
 some 0) (
 Q1 (DJ d x1.1) fun r2 =>
 aa (decide (0<=x1.2.2.2.1)) (
 aa (Nat.blt (x1.2.2.2.1.toNat) r2.length) (
 Q1 (r2[x1.2.2.2.1.toNat]?) fun n3 =>
 aa (decide (0<=n3)) (
 Q1 (x1.1.2.1[n3.toNat]?) fun x4 =>
 some x4.1) none) none) none):=by kernel_rfl
noncomputable def KD (d:Nat) (s9:ByteArray) (dS iy tM:Int) (fR:List t1) (j8 ia pK gd:List Int) (ow:List t5) (gR dU eR rG:List Int) (DH:List (List t4)):Option t8 :=
 some (((s9,fR,j8,ia,pK,gd,ow,gR,dS),(dU,eR),DH,iy,tM),rG)
noncomputable def Dk (d:Nat) (FO:t12->Option t8) (DK n29:Int) (l30:List Int) (j9:List (List t4)):Option t8 :=
 FO (l30,(i64.wrap (DK+1)),j9)
noncomputable def dI (d:Nat) (nv:t12->Option t8) (ox:List Int) (vE:Int) (xN:t4) (n33 KF:Int) (iI:List (List t4)):Option t8 :=
 aa (n33 != 1) (
 aa (Nat.ble ((ox.length+[xN.1].length)*8) Q7) (
 nv ((ox++[xN.1]),(i64.wrap (vE+1)),iI)) none) (
 nv (ox,(i64.wrap (vE+1)),iI))
noncomputable def iX (d:Nat) (nv:t12->Option t8) (ox:List Int) (vE:Int) (j9:List (List t4)) (xN:t4) (KG:t1) (mH:Int):Option t8 :=
 aa (decide (0<=mH)) (
 aa (Nat.blt (mH.toNat) j9.length) (
 Q1 (j9[mH.toNat]?) fun IA =>
 aa (decide ((IA.length:Int)>=KG.2.2.2.2.2.2.2)) (
 dI d nv ox vE xN 2 KG.1 j9) (
 aa (decide (0<=mH)) (
 aa (Nat.blt (mH.toNat) j9.length) (
 Q1 (j9[mH.toNat]?) fun rI =>
 aa (Nat.ble ((rI.length+[xN].length)*48) Q7) (
 aa (decide (0<=mH)) (
 aa (Nat.blt (mH.toNat) j9.length) (
 aa (Nat.beq (mH.toNat) (mH.toNat)) (
 Q1 (j9[mH.toNat]?) fun l39 =>
 dI d nv ox vE xN 1 KG.1 (j9.set (mH.toNat) (rI++[xN]))) none) none) none) none) none) none)) none) none
noncomputable def ni (d:Nat) (s9:ByteArray) (dS:Int) (fR:List t1) (j8 ia pK gd:List Int) (ow:List t5) (gR:List Int) (BL:Int) (nx SY:Int->Option t8) (s:Int):Option t8 :=
(fun mH =>
 Q1 (DJ d (s9,fR,j8,ia,pK,gd,ow,gR,dS)) fun KH =>
 aa (decide (0<=mH)) (
 aa (Nat.blt (mH.toNat) KH.length) (
 Q1 (KH[mH.toNat]?) fun YU =>
 aa (YU != BL) (
 SY (i64.wrap (mH+1))) (
 nx mH)) none) none) s
noncomputable def rA (d:Nat) (s9:ByteArray) (dS:Int) (fR:List t1) (j8 ia pK gd:List Int) (ow:List t5) (gR:List Int) (AL:List t4) (xO:Int->(List Int)->(List (List t4))->Option t8) (nv:t12->Option t8) (s:t12):Option t8 :=
(fun (ox:List Int) vE (j9:List (List t4)) =>
 aa (decide (vE < (AL.length:Int))) (
 aa (decide (0<=vE)) (
 Q1 (AL[vE.toNat]?) fun xN =>
 Q1 (N_ d (s9,fR,j8,ia,pK,gd,ow,gR,dS) xN) fun BL =>
 aa (decide (BL < 0)) (
 dI d nv ox vE xN 3 0 j9) (
 aa (decide (0<=BL)) (
 aa (Nat.blt (BL.toNat) fR.length) (
 Q1 (fR[BL.toNat]?) fun KG =>
 Q8 (ni d s9 dS fR j8 ia pK gd ow gR BL (iX d nv ox vE j9 xN KG)) Qd 0) none) none)) none) (
 xO vE ox j9)) s.1 s.2.1 s.2.2
noncomputable def rB (d:Nat) (x1:t2) (s9:ByteArray) (dS:Int) (fR:List t1) (j8 ia pK gd:List Int) (ow:List t5) (gR:List Int) (xP:(List Int)->(List (List t4))->Option t8) (FO:t12->Option t8) (s:t12):Option t8 :=
(fun (rG:List Int) DK (DL:List (List t4)) =>
 aa (decide (DK < (x1.2.2.1.length:Int))) (
 aa (decide (0<=DK)) (
 Q1 (x1.2.2.1[DK.toNat]?) fun AL =>
 Q8 (rA d s9 dS fR j8 ia pK gd ow gR AL (Dk d FO DK)) Qd (rG,0,DL)) none) (
 xP rG DL)) s.1 s.2.1 s.2.2
noncomputable def wG (d:Nat) (x1:t2) (s9:ByteArray) (dS iy tM:Int) (fR:List t1) (j8 ia pK gd:List Int) (ow:List t5) (gR dU eR:List Int) (DG:List (List t4)):Option t8 :=
 Q8 (rB d x1 s9 dS fR j8 ia pK gd ow gR (KD d s9 dS iy tM fR j8 ia pK gd ow gR dU eR)) Qd ([],0,DG)
noncomputable def wH (d:Nat) (x1:t2) (r7:List Int) (xQ:ByteArray->Int->Int->Int->(List t1)->(List Int)->(List Int)->(List Int)->(List Int)->(List t5)->(List Int)->(List Int)->(List Int)->(List (List t4))->Option t8) (xR:(Int×t2)->Option t8) (s:(Int×t2)):Option t8 :=
(fun n9 (aR:t2) =>
 aa (decide (n9 < (r7.length:Int))) (
 aa (decide (0<=n9)) (
 aa (Nat.blt (n9.toNat) r7.length) (
 Q1 (r7[n9.toNat]?) fun iy =>
 aa (decide (0<=iy)) (
 aa (Nat.blt (iy.toNat) aR.1.2.1.length) (
 Q1 (aR.1.2.1[iy.toNat]?) fun dz =>
 Q1 (RP (d+1) x1) fun tN =>
 aa (dz.1==tN) (
 xR ((i64.wrap (n9+1)),(aR.1,aR.2.1,aR.2.2.1,n9,aR.2.2.2.2))) (
 xR ((i64.wrap (n9+1)),aR))) none) none) none) none) (
 xQ aR.1.1 aR.1.2.2.2.2.2.2.2.2 aR.2.2.2.1 aR.2.2.2.2 aR.1.2.1 aR.1.2.2.1 aR.1.2.2.2.1 aR.1.2.2.2.2.1 aR.1.2.2.2.2.2.1 aR.1.2.2.2.2.2.2.1 aR.1.2.2.2.2.2.2.2.1 aR.2.1.1 aR.2.1.2 aR.2.2.1)) s.1 s.2
noncomputable def wF (d:Nat) (x1 r3:t2) (l5 l6:List Int):Option t8 :=
 Q1 (DJ (d+1) r3.1) fun r7 =>
 Q8 (wH d x1 r7 (wG d x1)) Qd (0,(r3.1,(l5,l6),r3.2.2.1,r3.2.2.2.1,x1.2.2.2.2))
noncomputable def rz (d:Nat) (x1 r3:t2) (xS:(List Int)->(List Int)->Option t8) (ja:t16->Option t8) (s:t16):Option t8 :=
(fun n5 (l6:List Int) (l7:List Int) =>
 aa (decide (n5 < (r3.1.2.1.length:Int))) (
 aa (decide (0<=n5)) (
 aa (Nat.blt (n5.toNat) r3.1.2.1.length) (
 Q1 (r3.1.2.1[n5.toNat]?) fun x8 =>
 Q1 (SW (d+1) x1.1 x8.1) fun r9 =>
 aa (decide (r9>=0)) (
 aa (decide (0<=r9)) (
 Q1 (x1.2.1.1[r9.toNat]?) fun dS =>
 Q1 (Ob (d+1) dS x8.2.2.2.2.1) fun gS =>
 aa (decide (0<=n5)) (
 aa (Nat.blt (n5.toNat) l6.length) (
 Q1 (l6[n5.toNat]?) fun tM =>
 aa (decide (0<=r9)) (
 Q1 (x1.2.1.2[r9.toNat]?) fun jM =>
 Q1 (Ob (d+1) jM x8.2.2.2.2.2.1) fun jA =>
 aa (decide (0<=n5)) (
 aa (Nat.blt (n5.toNat) l7.length) (
 Q1 (l7[n5.toNat]?) fun gC =>
 ja ((i64.wrap (n5+1)),(l6.set (n5.toNat) gS),(l7.set (n5.toNat) jA))) none) none) none) none) none) none) (
 ja ((i64.wrap (n5+1)),l6,l7))) none) none) (
 xS l6 l7)) s.1 s.2.1 s.2.2
theorem e37 (d:Nat) (x1:t2) (x2:t3):RR (d+2) x1 x2 =
 Q1 (RJ (d+1) x2) fun r3 =>
 Q8 (rz d x1 r3 (wF d x1 r3)) Qd (0,r3.2.1.1,r3.2.1.2):=by kernel_rfl
theorem e59 (d:Nat) (x1:t2) (x2:t3) (b3:Bool):N5 (d+1) x1 x2 b3 =
 aa (!b3) (
 some ((((⟨#[]⟩:ByteArray),[],[],[],[],[],[],[],0),([],[]),[],0,0),[],false)) (
 Q1 (N8 d x2) fun r4 =>
 aa (!r4) (
 some ((((⟨#[]⟩:ByteArray),[],[],[],[],[],[],[],0),([],[]),[],0,0),[],false)) (
 Q1 (RR d x1 x2) fun r5 =>
 some (r5.1,r5.2,true))):=by kernel_rfl
theorem e23 (d:Nat) (x1:t2) (n2:Int):g23 (d+1) x1 n2 =
 Q1 (SV d x1) fun r3 =>
 aa (!r3) (
 some ((((⟨#[]⟩:ByteArray),[],[],[],[],[],[],[],0),([],[]),[],0,0),[],false)) (
 Q1 (N9 d x1.1) fun r4 =>
 Q1 (N5 d x1 (r4.1,r4.2.1,r4.2.2.1,n2) true) fun r5 =>
 some (r5.1,r5.2.1,r5.2.2)):=by kernel_rfl
theorem SZ (d:Nat) (n1:Int):FP (d+1) n1 =
 aa (decide (n1>=97)) (
 some (decide (n1<=122))) (
 some false):=by kernel_rfl
noncomputable def FQ (d:Nat) (b3:Bool):Option Bool :=
 some false
noncomputable def pL (d:Nat) (s1:ByteArray) (tO:Bool->Option Bool) (bV:t9->Option Bool) (s:t9):Option Bool :=
(fun (b3:Bool) n4 =>
 aa (decide (n4 < 14)) (
 aa (decide (0<=n4)) (
 Q1 (([(⟨#[113,100,105,115,99]⟩:ByteArray),(⟨#[100,101,102,97,117,108,116]⟩:ByteArray),(⟨#[99,108,97,115,115]⟩:ByteArray),(⟨#[114,97,116,101]⟩:ByteArray),(⟨#[99,101,105,108]⟩:ByteArray),(⟨#[98,117,114,115,116]⟩:ByteArray),(⟨#[99,98,117,114,115,116]⟩:ByteArray),(⟨#[112,114,105,111]⟩:ByteArray),(⟨#[108,105,109,105,116]⟩:ByteArray),(⟨#[102,105,108,116,101,114]⟩:ByteArray),(⟨#[115,111,117,114,99,101]⟩:ByteArray),(⟨#[100,101,115,116]⟩:ByteArray),(⟨#[112,111,114,116]⟩:ByteArray),(⟨#[109,97,114,107]⟩:ByteArray)]:List ByteArray)[n4.toNat]?) fun s5 =>
 aa (s5.toList==s1.toList) (
 some true) (
 bV (b3,(i64.wrap (n4+1))))) none) (
 tO b3)) s.1 s.2
theorem S0 (d:Nat) (s1:ByteArray):FR (d+1) s1 =
 Q8 (pL d s1 (FQ d)) Qd (false,0):=by kernel_rfl
noncomputable def pM (d:Nat) (s1:ByteArray) (b4:Bool):Option Bool :=
 Q1 (FR d s1) fun r5 =>
 some (!r5)
noncomputable def pN (d:Nat) (s1:ByteArray) (tP:Bool->Option Bool) (bM:t9->Option Bool) (s:t9):Option Bool :=
(fun (b4:Bool) n5 =>
 aa (decide (n5 < (s1.size:Int))) (
 aa (decide (0<=n5)) (
 Q1 (s1.data.toList[n5.toNat]?) fun c6 =>
 Q1 (FP d (c6.toNat:Int)) fun r7 =>
 aa (!r7) (
 some false) (
 bM (b4,(i64.wrap (n5+1))))) none) (
 tP b4)) s.1 s.2
noncomputable def pO (d:Nat) (s1:ByteArray) (b2:Bool):Option Bool :=
 aa b2 (
 some false) (
 Q8 (pN d s1 (pM d s1)) Qd (false,0))
theorem S3 (d:Nat) (s1:ByteArray):FT (d+1) s1 =
 aa (decide (((s1.size:Int):Int) < 1)) (
 pO d s1 true) (
 pO d s1 (decide (((s1.size:Int):Int) > 8))):=by kernel_rfl
theorem S4 (d:Nat) (n1:Int):FU (d+1) n1 =
 aa (decide (n1>=1)) (
 some (decide (n1<=999))) (
 some false):=by kernel_rfl
noncomputable def xT (d:Nat) (x1:t3) (b3:Bool):Option Bool :=
 aa (decide ((x1.2.1.length:Int)>=1)) (
 some (decide ((x1.2.1.length:Int)<=24))) (
 some false)
noncomputable def pP (d:Nat) (x1:t3) (tQ:Bool->Option Bool) (bV:t9->Option Bool) (s:t9):Option Bool :=
(fun (b3:Bool) n4 =>
 aa (decide (n4 < (x1.2.1.length:Int))) (
 aa (decide (0<=n4)) (
 Q1 (x1.2.1[n4.toNat]?) fun x5 =>
 Q1 (FU d x5.1) fun r6 =>
 aa (!r6) (
 some false) (
 aa (decide (n4 > 0)) (
 aa (decide (0<=((i64.wrap (n4 - 1)):Int))) (
 Q1 (x1.2.1[((i64.wrap (n4 - 1)):Int).toNat]?) fun x7 =>
 aa (decide (x5.1<=x7.1)) (
 some false) (
 bV (b3,(i64.wrap (n4+1))))) none) (
 bV (b3,(i64.wrap (n4+1)))))) none) (
 tQ b3)) s.1 s.2
theorem S5 (d:Nat) (x1:t3):FV (d+1) x1 =
 Q8 (pP d x1 (xT d x1)) Qd (false,0):=by kernel_rfl
noncomputable def xU (d:Nat) (n4:Int):Option Int :=
 some (-1)
noncomputable def jd (d:Nat) (x1:t3) (n2:Int) (ny:Int->Option Int) (bM:t10->Option Int) (s:t10):Option Int :=
(fun n4 n5 =>
 aa (decide (n5 < (x1.2.1.length:Int))) (
 aa (decide (0<=n5)) (
 Q1 (x1.2.1[n5.toNat]?) fun x6 =>
 aa (x6.1==n2) (
 some n5) (
 bM (n4,(i64.wrap (n5+1))))) none) (
 ny n4)) s.1 s.2
theorem e61 (d:Nat) (x1:t3) (n2:Int):KI (d+3) x1 n2 =
 Q8 (jd d x1 n2 (xU d)) Qd (0,0):=by kernel_rfl
noncomputable def FW (d:Nat) (l3:List Int):Option (List Int) :=
 some l3
noncomputable def pQ (d:Nat) (bV:t15->Option (List Int)) (l3:List Int) (n4:Int) (b6 b7:Bool):Option (List Int) :=
 aa b7 (
 aa (Nat.ble ((l3.length+[n4].length)*8) Q7) (
 bV ((l3++[n4]),(i64.wrap (n4+1)))) none) (
 bV (l3,(i64.wrap (n4+1))))
noncomputable def pR (d:Nat) (x1:t3) (tR:(List Int)->Option (List Int)) (bV:t15->Option (List Int)) (s:t15):Option (List Int) :=
(fun (l3:List Int) n4 =>
 aa (decide (n4 < (x1.2.1.length:Int))) (
 aa (decide (0<=n4)) (
 Q1 (x1.2.1[n4.toNat]?) fun x5 =>
 aa (x5.2.1 != 0) (
 Q1 (KI d x1 x5.2.1) fun r6 =>
 pQ d bV l3 n4 true (decide (r6 < 0))) (
 pQ d bV l3 n4 false false)) none) (
 tR l3)) s.1 s.2
theorem S6 (d:Nat) (x1:t3):FX (d+1) x1 =
 Q8 (pR d x1 (FW d)) Qd (([]:List Int),0):=by kernel_rfl
noncomputable def pS (d:Nat) (x1:t3) (n3:Int):Option Bool :=
 aa (n3==1) (
 Q1 (FX d x1) fun r4 =>
 some ((r4.length:Int)==0)) (
 some false)
noncomputable def pT (d:Nat) (x1:t3) (tS:Int->Option Bool) (bV:t10->Option Bool) (s:t10):Option Bool :=
(fun n3 n4 =>
 aa (decide (n4 < (x1.2.1.length:Int))) (
 aa (decide (0<=n4)) (
 Q1 (x1.2.1[n4.toNat]?) fun x5 =>
 aa (x5.2.1==0) (
 bV ((i64.wrap (n3+1)),(i64.wrap (n4+1)))) (
 bV (n3,(i64.wrap (n4+1))))) none) (
 tS n3)) s.1 s.2
theorem S7 (d:Nat) (x1:t3):FY (d+1) x1 =
 Q8 (pT d x1 (pS d x1)) Qd (0,0):=by kernel_rfl
noncomputable def FZ (d:Nat) (n4:Int):Option Int :=
 some (-1)
noncomputable def pU (d:Nat) (l1:List Int) (n2:Int) (tT:Int->Option Int) (bM:t10->Option Int) (s:t10):Option Int :=
(fun n4 n5 =>
 aa (decide (n5 < (l1.length:Int))) (
 aa (decide (0<=n5)) (
 Q1 (l1[n5.toNat]?) fun n6 =>
 aa (n2==n6) (
 some n5) (
 bM (n4,(i64.wrap (n5+1))))) none) (
 tT n4)) s.1 s.2
theorem S8 (d:Nat) (l1:List Int) (n2:Int):xV (d+1) l1 n2 =
 Q8 (pU d l1 n2 (FZ d)) Qd (0,0):=by kernel_rfl
theorem S9 (d:Nat) (l1:List Int) (n2:Int):F0 (d+1) l1 n2 =
 Q1 (xV d l1 n2) fun r3 =>
 some (decide (r3>=0)):=by kernel_rfl
noncomputable def xW (d:Nat) (b4:Bool) (l5 l6:List Int):Option ((List Int)×Bool) :=
 some (l6,true)
noncomputable def xX (d:Nat) (x1:t3) (tU:Bool->(List Int)->(List Int)->Option ((List Int)×Bool)) (bM:(Int×(List Int)×Bool×(List Int))->Option ((List Int)×Bool)) (s:(Int×(List Int)×Bool×(List Int))):Option ((List Int)×Bool) :=
(fun n4 (l5:List Int) (b6:Bool) (l7:List Int) =>
 aa (decide (n4>=0)) (
 Q1 (F0 d l7 n4) fun r8 =>
 aa r8 (
 some (l7,false)) (
 aa (Nat.ble ((l7.length+[n4].length)*8) Q7) (
 aa (decide (0<=n4)) (
 Q1 (x1.2.1[n4.toNat]?) fun x9 =>
 Q1 (KI d x1 x9.2.1) fun tC =>
 bM (tC,l5,b6,(l7++[n4]))) none) none)) (
 tU b6 l5 l7)) s.1 s.2.1 s.2.2.1 s.2.2.2
theorem S_ (d:Nat) (x1:t3) (n2:Int):F1 (d+1) x1 n2 =
 Q8 (xX d x1 (xW d)) Qd (n2,[],false,([]:List Int)):=by kernel_rfl
noncomputable def F2 (d:Nat) (b3:Bool):Option Bool :=
 some true
noncomputable def pV (d:Nat) (x1:t3) (tV:Bool->Option Bool) (bV:t9->Option Bool) (s:t9):Option Bool :=
(fun (b3:Bool) n4 =>
 aa (decide (n4 < (x1.2.1.length:Int))) (
 Q1 (F1 d x1 n4) fun r5 =>
 aa (!r5.2) (
 some false) (
 aa (decide ((r5.1.length:Int) > 8)) (
 some false) (
 aa (decide (0<=((i64.wrap ((r5.1.length:Int) - 1)):Int))) (
 aa (Nat.blt (((i64.wrap ((r5.1.length:Int) - 1)):Int).toNat) r5.1.length) (
 Q1 (r5.1[((i64.wrap ((r5.1.length:Int) - 1)):Int).toNat]?) fun n6 =>
 aa (decide (0<=n6)) (
 Q1 (x1.2.1[n6.toNat]?) fun x7 =>
 aa (x7.2.1 != 0) (
 some false) (
 bV (b3,(i64.wrap (n4+1))))) none) none) none))) (
 tV b3)) s.1 s.2
theorem Ta (d:Nat) (x1:t3):F3 (d+1) x1 =
 Q8 (pV d x1 (F2 d)) Qd (false,0):=by kernel_rfl
theorem Tb (d:Nat) (x1:t1):F4 (d+1) x1 =
 aa (decide (x1.2.2.1>=1)) (
 aa (decide (x1.2.2.1<=100000)) (
 aa (decide (x1.2.2.2.1>=x1.2.2.1)) (
 some (decide (x1.2.2.2.1<=100000))) (
 some false)) (
 some false)) (
 some false):=by kernel_rfl
noncomputable def jN (d:Nat) (n3:Int):Option Bool :=
 some (!(decide (((-1):Int)>=0)))
noncomputable def dZ (d:Nat) (x1:t3) (gT:Int->Option Bool) (bV:t10->Option Bool) (s:t10):Option Bool :=
(fun n3 n4 =>
 aa (decide (n4 < (x1.2.1.length:Int))) (
 aa (decide (0<=n4)) (
 Q1 (x1.2.1[n4.toNat]?) fun x5 =>
 aa (decide (x5.2.2.1 < 0)) (
 some (!(decide (n4>=0)))) (
 aa (decide (x5.2.2.1 > 1000000000)) (
 some (!(decide (n4>=0)))) (
 bV (n3,(i64.wrap (n4+1)))))) none) (
 gT n3)) s.1 s.2
theorem Tc (d:Nat) (x1:t3):F5 (d+4) x1 =
 Q8 (dZ d x1 (jN d)) Qd (0,0):=by kernel_rfl
noncomputable def F6 (d:Nat) (l4:List Int):Option (List Int) :=
 some l4
noncomputable def pX (d:Nat) (x1:t3) (n2:Int) (tW:(List Int)->Option (List Int)) (bM:t15->Option (List Int)) (s:t15):Option (List Int) :=
(fun (l4:List Int) n5 =>
 aa (decide (n5 < (x1.2.1.length:Int))) (
 aa (decide (0<=n5)) (
 Q1 (x1.2.1[n5.toNat]?) fun x6 =>
 aa (decide (0<=n2)) (
 Q1 (x1.2.1[n2.toNat]?) fun x7 =>
 aa (x6.2.1==x7.1) (
 aa (Nat.ble ((l4.length+[n5].length)*8) Q7) (
 bM ((l4++[n5]),(i64.wrap (n5+1)))) none) (
 bM (l4,(i64.wrap (n5+1))))) none) none) (
 tW l4)) s.1 s.2
theorem Td (d:Nat) (x1:t3) (n2:Int):xY (d+1) x1 n2 =
 Q8 (pX d x1 n2 (F6 d)) Qd (([]:List Int),0):=by kernel_rfl
noncomputable def F7 (d:Nat) (n5:Int):Option Int :=
 some n5
noncomputable def pY (d:Nat) (x1:t3) (r3:List Int) (tX:Int->Option Int) (ja:t10->Option Int) (s:t10):Option Int :=
(fun n5 n6 =>
 aa (decide (n6 < (r3.length:Int))) (
 aa (decide (0<=n6)) (
 aa (Nat.blt (n6.toNat) r3.length) (
 Q1 (r3[n6.toNat]?) fun n7 =>
 aa (decide (0<=n7)) (
 Q1 (x1.2.1[n7.toNat]?) fun x8 =>
 ja ((i64.wrap (n5+x8.2.2.1)),(i64.wrap (n6+1)))) none) none) none) (
 tX n5)) s.1 s.2
theorem Te (d:Nat) (x1:t3) (n2:Int):F8 (d+1) x1 n2 =
 Q1 (xY d x1 n2) fun r3 =>
 Q8 (pY d x1 r3 (F7 d)) Qd (0,0):=by kernel_rfl
noncomputable def F9 (d:Nat) (l3:List Int):Option (List Int) :=
 some l3
noncomputable def pZ (d:Nat) (x1:t3) (tY:(List Int)->Option (List Int)) (bV:t15->Option (List Int)) (s:t15):Option (List Int) :=
(fun (l3:List Int) n4 =>
 aa (decide (n4 < (x1.2.1.length:Int))) (
 aa (decide (0<=n4)) (
 Q1 (x1.2.1[n4.toNat]?) fun x5 =>
 Q1 (F8 d x1 n4) fun r6 =>
 aa (decide (r6 > x5.2.2.1)) (
 aa (Nat.ble ((l3.length+[n4].length)*8) Q7) (
 bV ((l3++[n4]),(i64.wrap (n4+1)))) none) (
 bV (l3,(i64.wrap (n4+1))))) none) (
 tY l3)) s.1 s.2
theorem Tf (d:Nat) (x1:t3):F_ (d+1) x1 =
 Q8 (pZ d x1 (F9 d)) Qd (([]:List Int),0):=by kernel_rfl
theorem Tg (d:Nat) (x1:t1):Ga (d+1) x1 =
 aa (decide (x1.2.2.2.2.1>=1500)) (
 aa (decide (x1.2.2.2.2.1<=1000000)) (
 aa (decide (x1.2.2.2.2.2.1>=1500)) (
 aa (decide (x1.2.2.2.2.2.1<=1000000)) (
 aa (decide (x1.2.2.2.2.2.2.1>=0)) (
 some (decide (x1.2.2.2.2.2.2.1<=7))) (
 some false)) (
 some false)) (
 some false)) (
 some false)) (
 some false):=by kernel_rfl
noncomputable def jO (d:Nat) (n4:Int):Option Bool :=
 some (!(decide (((-1):Int)>=0)))
noncomputable def d_ (d:Nat) (x1:t3) (n2:Int) (gU:Int->Option Bool) (bM:t10->Option Bool) (s:t10):Option Bool :=
(fun n4 n5 =>
 aa (decide (n5 < (x1.2.1.length:Int))) (
 aa (decide (0<=n5)) (
 Q1 (x1.2.1[n5.toNat]?) fun x6 =>
 aa (decide (0<=n2)) (
 Q1 (x1.2.1[n2.toNat]?) fun x7 =>
 aa (x6.2.1==x7.1) (
 some (!(decide (n5>=0)))) (
 bM (n4,(i64.wrap (n5+1))))) none) none) (
 gU n4)) s.1 s.2
theorem Th (d:Nat) (x1:t3) (n2:Int):tZ (d+4) x1 n2 =
 Q8 (d_ d x1 n2 (jO d)) Qd (0,0):=by kernel_rfl
theorem Ti (d:Nat) (x1:t3) (n2:Int):Gb (d+1) x1 n2 =
 aa (decide (0<=n2)) (
 Q1 (x1.2.1[n2.toNat]?) fun x3 =>
 Q1 (tZ d x1 n2) fun r4 =>
 aa r4 (
 aa (decide (x3.2.2.2.2.2.2.2>=1)) (
 some (decide (x3.2.2.2.2.2.2.2<=60))) (
 some false)) (
 some (x3.2.2.2.2.2.2.2==0))) none:=by kernel_rfl
theorem Tj (d:Nat) (x1:t3) (n2:Int):xZ (d+1) x1 n2 =
 Q1 (KI d x1 n2) fun r3 =>
 aa (decide (r3>=0)) (
 Q1 (tZ d x1 r3) fun r4 =>
 some r4) (
 some false):=by kernel_rfl
theorem Tl (d:Nat) (x1:t5):Gc (d+1) x1 =
 aa (decide (x1.1>=1)) (
 aa (decide (x1.1<=99)) (
 aa (decide (x1.2.1>=0)) (
 aa (decide (x1.2.1<=3)) (
 aa (decide (x1.2.2.1>=0)) (
 aa (decide (x1.2.2.1<=65535)) (
 aa (decide (x1.2.2.2.1>=0)) (
 aa (decide (x1.2.2.2.1<=65535)) (
 some (((i64.wrap ((BitVec.ofInt i64.bits x1.2.2.2.1 &&& ~~~BitVec.ofInt i64.bits x1.2.2.1).toNat:Int)):Int)==0)) (
 some false)) (
 some false)) (
 some false)) (
 some false)) (
 some false)) (
 some false)) (
 some false)) (
 some false):=by kernel_rfl
noncomputable def x_ (d:Nat) (x1:t3) (b3:Bool):Option Bool :=
 some (decide ((x1.2.2.1.length:Int)<=16))
noncomputable def je (d:Nat) (bV:t9->Option Bool) (b3:Bool) (n4:Int) (b6 b7 b8 b9 Kv DE:Bool):Option Bool :=
 aa DE (
 some false) (
 bV (b3,(i64.wrap (n4+1))))
noncomputable def p5 (d:Nat) (x1:t3) (t_:Bool->Option Bool) (bV:t9->Option Bool) (s:t9):Option Bool :=
(fun (b3:Bool) n4 =>
 aa (decide (n4 < (x1.2.2.1.length:Int))) (
 aa (decide (0<=n4)) (
 Q1 (x1.2.2.1[n4.toNat]?) fun x5 =>
 Q1 (Gc d x5) fun r6 =>
 aa (!r6) (
 je d bV b3 n4 r6 (!r6) true true true true) (
 aa (decide (n4 > 0)) (
 aa (decide (0<=((i64.wrap (n4 - 1)):Int))) (
 Q1 (x1.2.2.1[((i64.wrap (n4 - 1)):Int).toNat]?) fun x7 =>
 aa (decide (x5.1<=x7.1)) (
 je d bV b3 n4 r6 (!r6) false (decide (x5.1<=x7.1)) true true) (
 Q1 (xZ d x1 x5.2.2.2.2) fun r8 =>
 je d bV b3 n4 r6 (!r6) false (decide (x5.1<=x7.1)) false (!r8))) none) (
 Q1 (xZ d x1 x5.2.2.2.2) fun r9 =>
 je d bV b3 n4 r6 (!r6) false false false (!r9)))) none) (
 t_ b3)) s.1 s.2
theorem Tm (d:Nat) (x1:t3):Ge (d+1) x1 =
 Q8 (p5 d x1 (x_ d x1)) Qd (false,0):=by kernel_rfl
noncomputable def lg (d:Nat) (n8:Int):Option Bool :=
 some (!(decide (((-1):Int)>=0)))
noncomputable def eL (d:Nat) (x1:t3) (dj:Int->Option Bool) (Tn:t10->Option Bool) (s:t10):Option Bool :=
(fun n8 n9 =>
 aa (decide (n9 < (x1.2.1.length:Int))) (
 aa (decide (0<=n9)) (
 Q1 (x1.2.1[n9.toNat]?) fun aR =>
 Q1 (F4 d aR) fun gS =>
 aa (!gS) (
 some (!(decide (n9>=0)))) (
 Tn (n8,(i64.wrap (n9+1))))) none) (
 dj n8)) s.1 s.2
noncomputable def lp (d:Nat) (gC:Int):Option Bool :=
 some (!(decide (((-1):Int)>=0)))
noncomputable def ef (d:Nat) (x1:t3) (dj:Int->Option Bool) (iz:t10->Option Bool) (s:t10):Option Bool :=
(fun gC dJ =>
 aa (decide (dJ < (x1.2.1.length:Int))) (
 aa (decide (0<=dJ)) (
 Q1 (x1.2.1[dJ.toNat]?) fun x17 =>
 Q1 (Ga d x17) fun BK =>
 aa (!BK) (
 some (!(decide (dJ>=0)))) (
 iz (gC,(i64.wrap (dJ+1))))) none) (
 dj gC)) s.1 s.2
noncomputable def KJ (d:Nat) (Kx:Bool):Option Bool :=
 some true
noncomputable def ya (d:Nat) (x1:t3) (yb:Bool->Option Bool) (To:t9->Option Bool) (s:t9):Option Bool :=
(fun (Kx:Bool) j7 =>
 aa (decide (j7 < (x1.2.1.length:Int))) (
 Q1 (Gb (d+3) x1 j7) fun rJ =>
 aa (!rJ) (
 some false) (
 To (Kx,(i64.wrap (j7+1))))) (
 yb Kx)) s.1 s.2
theorem AM (d:Nat) (x1:t3) (n2:Int):ua (d+4) x1 n2 =
 aa (n2==1) (
 Q1 (FT (d+3) x1.1) fun r3 =>
 some r3) (
 aa (n2==2) (
 Q1 (FV (d+3) x1) fun r4 =>
 some r4) (
 aa (n2==3) (
 Q1 (FY (d+3) x1) fun r5 =>
 some r5) (
 aa (n2==4) (
 Q1 (F3 (d+3) x1) fun r6 =>
 some r6) (
 aa (n2==5) (
 Q8 (eL d x1 (lg d)) Qd (0,0)) (
 aa (n2==6) (
 Q1 (F5 (d+3) x1) fun mG =>
 aa mG (
 Q1 (F_ (d+3) x1) fun tN =>
 some ((tN.length:Int)==0)) (
 some false)) (
 aa (n2==7) (
 Q8 (ef d x1 (lp d)) Qd (0,0)) (
 aa (n2==8) (
 Q8 (ya d x1 (KJ d)) Qd (false,0)) (
 aa (n2==9) (
 Q1 (Ge (d+3) x1) fun vF =>
 some vF) (
 aa (x1.2.2.2==0) (
 some true) (
 Q1 (xZ (d+3) x1 x1.2.2.2) fun oP =>
 some oP)))))))))):=by kernel_rfl
noncomputable def gh (d:Nat) (b4:Bool):Option Bool :=
 some true
noncomputable def ff (d:Nat) (x1:t3) (yd:Bool->Option Bool) (bM:t9->Option Bool) (s:t9):Option Bool :=
(fun (b4:Bool) n5 =>
 aa (decide (n5<=10)) (
 Q1 (ua d x1 n5) fun r6 =>
 aa (!r6) (
 some false) (
 bM (b4,(i64.wrap (n5+1))))) (
 yd b4)) s.1 s.2
noncomputable def ye (d:Nat) (x1:t3) (b2:Bool):Option Bool :=
 aa b2 (
 some false) (
 Q8 (ff d x1 (gh d)) Qd (false,1))
theorem e43 (d:Nat) (x1:t3):Oc (d+1) x1 =
 aa (decide ((x1.2.1.length:Int) > 24)) (
 ye d x1 true) (
 ye d x1 (decide ((x1.2.2.1.length:Int) > 16))):=by kernel_rfl
theorem e66 (d:Nat) (l1:List t5):Od (d+1) l1 =
 IB l1.length (
 some []) (
 aa (Nat.ble ((([]:List t5).length+l1.length)*40) Q7) (
 some (([]:List t5)++l1)) none):=by kernel_rfl
theorem Tp (d:Nat) (l1:List t1):Gf (d+1) l1 =
 IB l1.length (
 some []) (
 aa (Nat.ble ((([]:List t1).length+l1.length)*64) Q7) (
 some (([]:List t1)++l1)) none):=by kernel_rfl
theorem Tq (d:Nat) (n1 n2:Int):uc (d+1) n1 n2 =
 aa (decide (n1 < n2)) (
 some (-1)) (
 aa (decide (n1 > n2)) (
 some 1) (
 some 0)):=by kernel_rfl
noncomputable def p6 (d:Nat) (l6:List t1):Option (List t1) :=
 some l6
noncomputable def p7 (d:Nat) (gQ:t13->Option (List t1)) (n6 n9 dS:Int) (DE N7:Bool) (fR:List t1):Option (List t1) :=
 gQ ((i64.wrap (n6+1)),fR)
noncomputable def lq (d:Nat) (fA:Int->Int->Bool->Bool->(List t1)->Option (List t1)) (n2:Int) (xR:t13->Option (List t1)) (n9:Int) (l10:List t1) (DE N7:Bool):Option (List t1) :=
 aa N7 (
 aa (decide (0<=((i64.wrap (n9 - 1)):Int))) (
 aa (Nat.blt (((i64.wrap (n9 - 1)):Int).toNat) l10.length) (
 Q1 (l10[((i64.wrap (n9 - 1)):Int).toNat]?) fun gB =>
 aa (decide (0<=n9)) (
 aa (Nat.blt (n9.toNat) l10.length) (
 Q1 (l10[n9.toNat]?) fun mE =>
 aa (decide (0<=n9)) (
 aa (Nat.blt (n9.toNat) l10.length) (
 Q1 (l10[n9.toNat]?) fun Tt =>
 aa (decide (0<=((i64.wrap (n9 - 1)):Int))) (
 aa (Nat.blt (((i64.wrap (n9 - 1)):Int).toNat) ((l10.set (n9.toNat) gB).length)) (
 Q1 ((l10.set (n9.toNat) gB)[((i64.wrap (n9 - 1)):Int).toNat]?) fun ou =>
 xR ((i64.wrap (n9 - 1)),((l10.set (n9.toNat) gB).set (((i64.wrap (n9 - 1)):Int).toNat) mE))) none) none) none) none) none) none) none) none) (
 fA n9 n9 (decide (n9 > n2)) DE l10)
noncomputable def yg (d:Nat) (n2:Int) (fA:Int->Int->Bool->Bool->(List t1)->Option (List t1)) (xR:t13->Option (List t1)) (s:t13):Option (List t1) :=
(fun n9 (l10:List t1) =>
 aa (decide (n9 > n2)) (
 aa (decide (0<=n9)) (
 aa (Nat.blt (n9.toNat) l10.length) (
 Q1 (l10[n9.toNat]?) fun bP =>
 aa (decide (0<=((i64.wrap (n9 - 1)):Int))) (
 aa (Nat.blt (((i64.wrap (n9 - 1)):Int).toNat) l10.length) (
 Q1 (l10[((i64.wrap (n9 - 1)):Int).toNat]?) fun dz =>
 Q1 (uc d bP.1 dz.1) fun tN =>
 lq d fA n2 xR n9 l10 true (decide (tN < 0))) none) none) none) none) (
 lq d fA n2 xR n9 l10 false false)) s.1 s.2
noncomputable def p8 (d:Nat) (n2 n3:Int) (ud:(List t1)->Option (List t1)) (gQ:t13->Option (List t1)) (s:t13):Option (List t1) :=
(fun n6 (l7:List t1) =>
 aa (decide (n6 < n3)) (
 Q8 (yg d n2 (p7 d gQ n6)) Qd (n6,l7)) (
 ud l7)) s.1 s.2
theorem Tu (d:Nat) (l1:List t1) (n2 n3:Int) (b4:Bool):BM (d+2) l1 n2 n3 b4 =
 Q8 (p8 d n2 n3 (p6 d)) Qd ((i64.wrap (n2+1)),l1):=by kernel_rfl
noncomputable def yh (d:Nat) (l7:List t1):Option (List t1) :=
 some l7
noncomputable def yj (d:Nat) (n2 n3 n4:Int) (ue:(List t1)->Option (List t1)) (gb:t13->Option (List t1)) (s:t13):Option (List t1) :=
(fun n7 (l8:List t1) =>
 aa (decide (n7 < n4)) (
 aa (decide (0<=((i64.wrap (n3+n7)):Int))) (
 aa (Nat.blt (((i64.wrap (n3+n7)):Int).toNat) l8.length) (
 Q1 (l8[((i64.wrap (n3+n7)):Int).toNat]?) fun x9 =>
 aa (decide (0<=((i64.wrap (n2+n7)):Int))) (
 aa (Nat.blt (((i64.wrap (n2+n7)):Int).toNat) l8.length) (
 Q1 (l8[((i64.wrap (n2+n7)):Int).toNat]?) fun aR =>
 aa (decide (0<=((i64.wrap (n2+n7)):Int))) (
 aa (Nat.blt (((i64.wrap (n2+n7)):Int).toNat) l8.length) (
 Q1 (l8[((i64.wrap (n2+n7)):Int).toNat]?) fun bP =>
 aa (decide (0<=((i64.wrap (n3+n7)):Int))) (
 aa (Nat.blt (((i64.wrap (n3+n7)):Int).toNat) ((l8.set (((i64.wrap (n2+n7)):Int).toNat) x9).length)) (
 Q1 ((l8.set (((i64.wrap (n2+n7)):Int).toNat) x9)[((i64.wrap (n3+n7)):Int).toNat]?) fun dz =>
 gb ((i64.wrap (n7+1)),((l8.set (((i64.wrap (n2+n7)):Int).toNat) x9).set (((i64.wrap (n3+n7)):Int).toNat) aR))) none) none) none) none) none) none) none) none) (
 ue l8)) s.1 s.2
theorem Tv (d:Nat) (l1:List t1) (n2 n3 n4:Int) (b5:Bool):ym (d+1) l1 n2 n3 n4 b5 =
 Q8 (yj d n2 n3 n4 (yh d)) Qd (0,l1):=by kernel_rfl
noncomputable def yp (d:Nat) (n3 n7:Int) (l8:List t1):Option (List t1) :=
 Q1 (ym d l8 (i64.wrap (n3 - n7)) n3 n7 false) fun r9 =>
 some r9
noncomputable def yq (d:Nat) (n3:Int) (ug:Int->(List t1)->Option (List t1)) (gb:(Int×Int×(List t1))->Option (List t1)) (s:(Int×Int×(List t1))):Option (List t1) :=
(fun n7 n8 (l9:List t1) =>
 aa (n7 != n8) (
 aa (decide (n7 > n8)) (
 Q1 (ym d l9 (i64.wrap (n3 - n7)) n3 n8 false) fun tC =>
 gb ((i64.wrap (n7 - n8)),n8,tC)) (
 Q1 (ym d l9 (i64.wrap (n3 - n7)) (i64.wrap ((i64.wrap (n3+n8)) - n7)) n7 false) fun gS =>
 gb (n7,(i64.wrap (n8 - n7)),gS))) (
 ug n7 l9)) s.1 s.2.1 s.2.2
theorem Tw (d:Nat) (l1:List t1) (n2 n3 n4:Int) (b5:Bool):Gg (d+1) l1 n2 n3 n4 b5 =
 Q8 (yq d n3 (yp d n3)) Qd ((i64.wrap (n3 - n2)),(i64.wrap (n4 - n3)),l1):=by kernel_rfl
noncomputable def p9 (d:Nat) (l9:List t1):Option (List t1) :=
 some l9
noncomputable def p_ (d:Nat) (n7:Int) (uh:(List t1)->Option (List t1)) (xR:t13->Option (List t1)) (s:t13):Option (List t1) :=
(fun n9 (l10:List t1) =>
 aa (decide (n9 < (i64.wrap (n7 - 1)))) (
 aa (decide (0<=((i64.wrap (n9+1)):Int))) (
 aa (Nat.blt (((i64.wrap (n9+1)):Int).toNat) l10.length) (
 Q1 (l10[((i64.wrap (n9+1)):Int).toNat]?) fun bP =>
 aa (decide (0<=n9)) (
 aa (Nat.blt (n9.toNat) l10.length) (
 Q1 (l10[n9.toNat]?) fun dz =>
 aa (decide (0<=n9)) (
 aa (Nat.blt (n9.toNat) l10.length) (
 Q1 (l10[n9.toNat]?) fun gB =>
 aa (decide (0<=((i64.wrap (n9+1)):Int))) (
 aa (Nat.blt (((i64.wrap (n9+1)):Int).toNat) ((l10.set (n9.toNat) bP).length)) (
 Q1 ((l10.set (n9.toNat) bP)[((i64.wrap (n9+1)):Int).toNat]?) fun mE =>
 xR ((i64.wrap (n9+1)),((l10.set (n9.toNat) bP).set (((i64.wrap (n9+1)):Int).toNat) dz))) none) none) none) none) none) none) none) none) (
 uh l10)) s.1 s.2
noncomputable def lu (d:Nat) (l1:List t1) (n2 n7:Int):Option (List t1) :=
 Q8 (p_ d n7 (p9 d)) Qd (n2,l1)
noncomputable def qa (d:Nat) (l1:List t1) (n2:Int) (uj:Int->Option (List t1)) (gb:t10->Option (List t1)) (s:t10):Option (List t1) :=
(fun n7 n8 =>
 aa (decide (n7 < n8)) (
 aa (decide (0<=((i64.wrap ((u64.wrap (i64.wrap (n7+n8))).fdiv (2 ^ (min (1:Int).toNat u64.bits)))):Int))) (
 aa (Nat.blt (((i64.wrap ((u64.wrap (i64.wrap (n7+n8))).fdiv (2 ^ (min (1:Int).toNat u64.bits)))):Int).toNat) l1.length) (
 Q1 (l1[((i64.wrap ((u64.wrap (i64.wrap (n7+n8))).fdiv (2 ^ (min (1:Int).toNat u64.bits)))):Int).toNat]?) fun x9 =>
 aa (decide (0<=n2)) (
 aa (Nat.blt (n2.toNat) l1.length) (
 Q1 (l1[n2.toNat]?) fun aR =>
 Q1 (uc d x9.1 aR.1) fun gS =>
 aa (decide (gS < 0)) (
 gb ((i64.wrap ((i64.wrap ((u64.wrap (i64.wrap (n7+n8))).fdiv (2 ^ (min (1:Int).toNat u64.bits))))+1)),n8)) (
 gb (n7,(i64.wrap ((u64.wrap (i64.wrap (n7+n8))).fdiv (2 ^ (min (1:Int).toNat u64.bits))))))) none) none) none) none) (
 uj n7)) s.1 s.2
noncomputable def qb (d:Nat) (ow:List t1):Option (List t1) :=
 some ow
noncomputable def qc (d:Nat) (dJ:Int) (uk:(List t1)->Option (List t1)) (Gh:t13->Option (List t1)) (s:t13):Option (List t1) :=
(fun eJ (gR:List t1) =>
 aa (decide (eJ > dJ)) (
 aa (decide (0<=((i64.wrap (eJ - 1)):Int))) (
 aa (Nat.blt (((i64.wrap (eJ - 1)):Int).toNat) gR.length) (
 Q1 (gR[((i64.wrap (eJ - 1)):Int).toNat]?) fun BN =>
 aa (decide (0<=eJ)) (
 aa (Nat.blt (eJ.toNat) gR.length) (
 Q1 (gR[eJ.toNat]?) fun x21 =>
 aa (decide (0<=eJ)) (
 aa (Nat.blt (eJ.toNat) gR.length) (
 Q1 (gR[eJ.toNat]?) fun Tx =>
 aa (decide (0<=((i64.wrap (eJ - 1)):Int))) (
 aa (Nat.blt (((i64.wrap (eJ - 1)):Int).toNat) ((gR.set (eJ.toNat) BN).length)) (
 Q1 ((gR.set (eJ.toNat) BN)[((i64.wrap (eJ - 1)):Int).toNat]?) fun YV =>
 Gh ((i64.wrap (eJ - 1)),((gR.set (eJ.toNat) BN).set (((i64.wrap (eJ - 1)):Int).toNat) x21))) none) none) none) none) none) none) none) none) (
 uk gR)) s.1 s.2
noncomputable def lz (d:Nat) (l1:List t1) (n3 dJ:Int):Option (List t1) :=
 Q8 (qc d dJ (qb d)) Qd (n3,l1)
noncomputable def qd (d:Nat) (l1:List t1) (n3:Int) (um:Int->Option (List t1)) (nr:t10->Option (List t1)) (s:t10):Option (List t1) :=
(fun dJ eA =>
 aa (decide (dJ < eA)) (
 aa (decide (0<=n3)) (
 aa (Nat.blt (n3.toNat) l1.length) (
 Q1 (l1[n3.toNat]?) fun fQ =>
 aa (decide (0<=((i64.wrap ((u64.wrap (i64.wrap (dJ+eA))).fdiv (2 ^ (min (1:Int).toNat u64.bits)))):Int))) (
 aa (Nat.blt (((i64.wrap ((u64.wrap (i64.wrap (dJ+eA))).fdiv (2 ^ (min (1:Int).toNat u64.bits)))):Int).toNat) l1.length) (
 Q1 (l1[((i64.wrap ((u64.wrap (i64.wrap (dJ+eA))).fdiv (2 ^ (min (1:Int).toNat u64.bits)))):Int).toNat]?) fun nk =>
 Q1 (uc d fQ.1 nk.1) fun FB =>
 aa (!(decide (FB < 0))) (
 nr ((i64.wrap ((i64.wrap ((u64.wrap (i64.wrap (dJ+eA))).fdiv (2 ^ (min (1:Int).toNat u64.bits))))+1)),eA)) (
 nr (dJ,(i64.wrap ((u64.wrap (i64.wrap (dJ+eA))).fdiv (2 ^ (min (1:Int).toNat u64.bits))))))) none) none) none) none) (
 um dJ)) s.1 s.2
noncomputable def lA (d:Nat) (n2 n3 n4 eK:Int) (j9:List t1) (b32:Bool):Option (List t1) :=
 aa b32 (
 Q1 (uo (d+1) j9 (i64.wrap ((u64.wrap (i64.wrap (n2+n4))).fdiv (2 ^ (min (1:Int).toNat u64.bits)))) (i64.wrap ((i64.wrap ((i64.wrap ((u64.wrap (i64.wrap (n2+n4))).fdiv (2 ^ (min (1:Int).toNat u64.bits))))+n3)) - eK)) n4 false) fun BL =>
 some BL) (
 some j9)
noncomputable def lB (d:Nat) (n2 n3 n4 eK:Int) (j9:List t1):Option (List t1) :=
 aa (decide (((i64.wrap ((u64.wrap (i64.wrap (n2+n4))).fdiv (2 ^ (min (1:Int).toNat u64.bits)))):Int) < (i64.wrap ((i64.wrap ((i64.wrap ((u64.wrap (i64.wrap (n2+n4))).fdiv (2 ^ (min (1:Int).toNat u64.bits))))+n3)) - eK)))) (
 lA d n2 n3 n4 eK j9 (decide (((i64.wrap ((i64.wrap ((i64.wrap ((u64.wrap (i64.wrap (n2+n4))).fdiv (2 ^ (min (1:Int).toNat u64.bits))))+n3)) - eK)):Int) < n4))) (
 lA d n2 n3 n4 eK j9 false)
noncomputable def lC (d:Nat) (n2 n3 n4 eK:Int) (ox:List t1) (b30:Bool):Option (List t1) :=
 aa b30 (
 Q1 (uo (d+1) ox n2 eK (i64.wrap ((u64.wrap (i64.wrap (n2+n4))).fdiv (2 ^ (min (1:Int).toNat u64.bits)))) false) fun uq =>
 lB d n2 n3 n4 eK uq) (
 lB d n2 n3 n4 eK ox)
noncomputable def lD (d:Nat) (n2 n3 n4 eK:Int) (ox:List t1):Option (List t1) :=
 aa (decide (n2 < eK)) (
 lC d n2 n3 n4 eK ox (decide (eK < (i64.wrap ((u64.wrap (i64.wrap (n2+n4))).fdiv (2 ^ (min (1:Int).toNat u64.bits))))))) (
 lC d n2 n3 n4 eK ox false)
noncomputable def lE (d:Nat) (l1:List t1) (n2 n3 n4 eK:Int) (b28:Bool):Option (List t1) :=
 aa b28 (
 Q1 (Gg (d+1) l1 eK n3 (i64.wrap ((i64.wrap ((i64.wrap ((u64.wrap (i64.wrap (n2+n4))).fdiv (2 ^ (min (1:Int).toNat u64.bits))))+n3)) - eK)) false) fun ur =>
 lD d n2 n3 n4 eK ur) (
 lD d n2 n3 n4 eK l1)
noncomputable def lG (d:Nat) (l1:List t1) (n2 n3 n4 eK:Int):Option (List t1) :=
 aa (decide (eK < n3)) (
 lE d l1 n2 n3 n4 eK (decide (n3 < (i64.wrap ((i64.wrap ((i64.wrap ((u64.wrap (i64.wrap (n2+n4))).fdiv (2 ^ (min (1:Int).toNat u64.bits))))+n3)) - eK))))) (
 lE d l1 n2 n3 n4 eK false)
noncomputable def qe (d:Nat) (l1:List t1) (n2 n3 n4:Int) (uu:Int->Option (List t1)) (KK:t10->Option (List t1)) (s:t10):Option (List t1) :=
(fun eK AN =>
 aa (decide (eK < AN)) (
 aa (decide (0<=((i64.wrap ((i64.wrap ((i64.wrap ((i64.wrap ((u64.wrap (i64.wrap (n2+n4))).fdiv (2 ^ (min (1:Int).toNat u64.bits))))+n3)) - 1)) - (i64.wrap ((u64.wrap (i64.wrap (eK+AN))).fdiv (2 ^ (min (1:Int).toNat u64.bits)))))):Int))) (
 aa (Nat.blt (((i64.wrap ((i64.wrap ((i64.wrap ((i64.wrap ((u64.wrap (i64.wrap (n2+n4))).fdiv (2 ^ (min (1:Int).toNat u64.bits))))+n3)) - 1)) - (i64.wrap ((u64.wrap (i64.wrap (eK+AN))).fdiv (2 ^ (min (1:Int).toNat u64.bits)))))):Int).toNat) l1.length) (
 Q1 (l1[((i64.wrap ((i64.wrap ((i64.wrap ((i64.wrap ((u64.wrap (i64.wrap (n2+n4))).fdiv (2 ^ (min (1:Int).toNat u64.bits))))+n3)) - 1)) - (i64.wrap ((u64.wrap (i64.wrap (eK+AN))).fdiv (2 ^ (min (1:Int).toNat u64.bits)))))):Int).toNat]?) fun x29 =>
 aa (decide (0<=((i64.wrap ((u64.wrap (i64.wrap (eK+AN))).fdiv (2 ^ (min (1:Int).toNat u64.bits)))):Int))) (
 aa (Nat.blt (((i64.wrap ((u64.wrap (i64.wrap (eK+AN))).fdiv (2 ^ (min (1:Int).toNat u64.bits)))):Int).toNat) l1.length) (
 Q1 (l1[((i64.wrap ((u64.wrap (i64.wrap (eK+AN))).fdiv (2 ^ (min (1:Int).toNat u64.bits)))):Int).toNat]?) fun x30 =>
 Q1 (uc d x29.1 x30.1) fun uq =>
 aa (!(decide (uq < 0))) (
 KK ((i64.wrap ((i64.wrap ((u64.wrap (i64.wrap (eK+AN))).fdiv (2 ^ (min (1:Int).toNat u64.bits))))+1)),AN)) (
 KK (eK,(i64.wrap ((u64.wrap (i64.wrap (eK+AN))).fdiv (2 ^ (min (1:Int).toNat u64.bits))))))) none) none) none) none) (
 uu eK)) s.1 s.2
noncomputable def iJ (d:Nat) (l1:List t1) (n2 n3 n4 fE DK:Int):Option (List t1) :=
 Q8 (qe d l1 n2 n3 n4 (lG d l1 n2 n3 n4)) Qd (fE,DK)
theorem Tz (d:Nat) (l1:List t1) (n2 n3 n4:Int) (b5:Bool):uo (d+2) l1 n2 n3 n4 b5 =
 aa (((i64.wrap (n3 - n2)):Int)==1) (
 Q8 (qa d l1 n2 (lu d l1 n2)) Qd (n3,n4)) (
 aa (((i64.wrap (n4 - n3)):Int)==1) (
 Q8 (qd d l1 n3 (lz d l1 n3)) Qd (n2,n3)) (
 aa (decide (n3 > (i64.wrap ((u64.wrap (i64.wrap (n2+n4))).fdiv (2 ^ (min (1:Int).toNat u64.bits)))))) (
 iJ d l1 n2 n3 n4 (i64.wrap ((i64.wrap ((i64.wrap ((u64.wrap (i64.wrap (n2+n4))).fdiv (2 ^ (min (1:Int).toNat u64.bits))))+n3)) - n4)) (i64.wrap ((u64.wrap (i64.wrap (n2+n4))).fdiv (2 ^ (min (1:Int).toNat u64.bits))))) (
 iJ d l1 n2 n3 n4 n2 n3))):=by kernel_rfl
noncomputable def yt (d:Nat) (l10:List t1):Option (List t1) :=
 some l10
noncomputable def yu (d:Nat) (n2:Int) (DM:(Int×Int×Int×(List t1))->Option (List t1)) (dS gC dJ eA:Int) (ow:List t1):Option (List t1) :=
 aa (decide (((i64.wrap (gC+dS)):Int) < n2)) (
 Q1 (uo d ow gC (i64.wrap (gC+dS)) n2 false) fun vD =>
 DM ((i64.wrap (dS*2)),gC,dJ,vD)) (
 DM ((i64.wrap (dS*2)),gC,dJ,ow))
noncomputable def yw (d:Nat) (n2 dS:Int) (uv:Int->Int->Int->(List t1)->Option (List t1)) (iz:(Int×Int×(List t1))->Option (List t1)) (s:(Int×Int×(List t1))):Option (List t1) :=
(fun gC dJ (gd:List t1) =>
 aa (decide (dJ<=n2)) (
 Q1 (uo d gd gC (i64.wrap (gC+dS)) dJ false) fun BK =>
 iz (dJ,(i64.wrap (dJ+(i64.wrap ((2:Int)*dS)))),BK)) (
 uv gC dJ dJ gd)) s.1 s.2.1 s.2.2
noncomputable def yx (d:Nat) (n2:Int) (uw:(List t1)->Option (List t1)) (DM:(Int×Int×Int×(List t1))->Option (List t1)) (s:(Int×Int×Int×(List t1))):Option (List t1) :=
(fun dS iy tM (fR:List t1) =>
 aa (decide (dS < n2)) (
 Q8 (yw d n2 dS (yu d n2 DM dS)) Qd (0,(i64.wrap ((2:Int)*dS)),fR)) (
 uw fR)) s.1 s.2.1 s.2.2.1 s.2.2.2
noncomputable def yy (d:Nat) (n2 n5 n6:Int) (l7:List t1):Option (List t1) :=
 Q1 (BM d l7 n5 n2 false) fun r8 =>
 Q8 (yx d n2 (yt d)) Qd (20,n5,n6,r8)
noncomputable def yz (d:Nat) (n2:Int) (ux:Int->Int->(List t1)->Option (List t1)) (ja:(Int×Int×(List t1))->Option (List t1)) (s:(Int×Int×(List t1))):Option (List t1) :=
(fun n5 n6 (l7:List t1) =>
 aa (decide (n6<=n2)) (
 Q1 (BM d l7 n5 n6 false) fun r8 =>
 ja (n6,(i64.wrap (n6+20)),r8)) (
 ux n5 n6 l7)) s.1 s.2.1 s.2.2
theorem TA (d:Nat) (l1:List t1) (n2:Int) (b3:Bool):Gi (d+1) l1 n2 b3 =
 Q8 (yz d n2 (yy d n2)) Qd (0,20,l1):=by kernel_rfl
theorem TB (d:Nat) (l1:List t1) (b2:Bool):BO (d+1) l1 b2 =
 Q1 (Gi d l1 (l1.length:Int) false) fun r3 =>
 some r3:=by kernel_rfl
noncomputable def yA (d:Nat) (x1:t0) (r2:List t1) (r3:List t5) (b4:Bool):Option t3 :=
 aa b4 (
 aa (decide (0<=x1.2.2.2.2.2.2.2.2)) (
 Q1 (x1.2.1[x1.2.2.2.2.2.2.2.2.toNat]?) fun x5 =>
 Q1 (BO d r2 false) fun r6 =>
 some (x1.1,r6,r3,x5.1)) none) (
 Q1 (BO d r2 false) fun r7 =>
 some (x1.1,r7,r3,0))
theorem e60 (d:Nat) (x1:t0):KL (d+1) x1 =
 Q1 (Gf d x1.2.1) fun r2 =>
 Q1 (Od d x1.2.2.2.2.2.2.1) fun r3 =>
 aa (decide (x1.2.2.2.2.2.2.2.2>=0)) (
 yA d x1 r2 r3 (decide (x1.2.2.2.2.2.2.2.2 < (x1.2.1.length:Int)))) (
 yA d x1 r2 r3 false):=by kernel_rfl
theorem TC (d:Nat) (n1 n2:Int):KM (d+1) n1 n2 =
 some ((u64.wrap ((u64.wrap ((u64.wrap ((n1.fdiv (2 ^ (min (32:Int).toNat u64.bits)))*(n2.fdiv (2 ^ (min (32:Int).toNat u64.bits)))))+((u64.wrap ((u64.wrap ((n1.fdiv (2 ^ (min (32:Int).toNat u64.bits)))*(u64.wrap ((BitVec.ofInt u64.bits n2 &&& BitVec.ofInt u64.bits 4294967295).toNat:Int))))+((u64.wrap ((u64.wrap ((BitVec.ofInt u64.bits n1 &&& BitVec.ofInt u64.bits 4294967295).toNat:Int))*(u64.wrap ((BitVec.ofInt u64.bits n2 &&& BitVec.ofInt u64.bits 4294967295).toNat:Int)))).fdiv (2 ^ (min (32:Int).toNat u64.bits))))).fdiv (2 ^ (min (32:Int).toNat u64.bits)))))+((u64.wrap ((u64.wrap ((BitVec.ofInt u64.bits (u64.wrap ((u64.wrap ((n1.fdiv (2 ^ (min (32:Int).toNat u64.bits)))*(u64.wrap ((BitVec.ofInt u64.bits n2 &&& BitVec.ofInt u64.bits 4294967295).toNat:Int))))+((u64.wrap ((u64.wrap ((BitVec.ofInt u64.bits n1 &&& BitVec.ofInt u64.bits 4294967295).toNat:Int))*(u64.wrap ((BitVec.ofInt u64.bits n2 &&& BitVec.ofInt u64.bits 4294967295).toNat:Int)))).fdiv (2 ^ (min (32:Int).toNat u64.bits))))) &&& BitVec.ofInt u64.bits 4294967295).toNat:Int))+(u64.wrap ((u64.wrap ((BitVec.ofInt u64.bits n1 &&& BitVec.ofInt u64.bits 4294967295).toNat:Int))*(n2.fdiv (2 ^ (min (32:Int).toNat u64.bits))))))).fdiv (2 ^ (min (32:Int).toNat u64.bits))))),(u64.wrap (n1*n2))):=by kernel_rfl
theorem TD (d:Nat) (n1 n2:Int):Gj (d+1) n1 n2 =
 Q1 (KM d n1 n2) fun r3 =>
 some (r3.1,r3.2):=by kernel_rfl
noncomputable def yB (d:Nat) (l6:List Int):Option (List Int) :=
 some l6
noncomputable def yC (d:Nat) (uy:(List Int)->Option (List Int)) (gQ:t11->Option (List Int)) (s:t11):Option (List Int) :=
(fun n6 (l7:List Int) =>
 aa (decide (n6 < (l7.length:Int))) (
 aa (decide (0<=n6)) (
 aa (Nat.ble (n6.toNat) l7.length) (
 aa (decide (0<=n6)) (
 aa (Nat.ble (n6.toNat) l7.length) (
 gQ ((i64.wrap (n6+((min (l7.take (n6.toNat)).length (l7.length - (0+n6.toNat)):Nat):Int))),(mI l7 (0+n6.toNat) (l7.length - (0+n6.toNat)) (l7.take (n6.toNat))))) none) none) none) none) (
 uy l7)) s.1 s.2
noncomputable def qf (d:Nat) (l1:List Int) (r3:t10) (b4:Bool):Option (List Int) :=
 aa b4 (
 none) (
 aa (decide (0<=((i64.wrap r3.2):Int))) (
 aa (decide (0<=((i64.wrap r3.2):Int))) (
 aa (Nat.ble (((i64.wrap r3.2):Int).toNat) (((i64.wrap r3.2):Int).toNat)&&Nat.ble ((((i64.wrap r3.2):Int).toNat)*8) Q7) (
 Q8 (yC d (yB d)) Qd (((min l1.length ((List.replicate (((i64.wrap r3.2):Int).toNat) (0:Int)).length):Nat):Int),(mI (List.replicate (((i64.wrap r3.2):Int).toNat) (0:Int)) 0 ((List.replicate (((i64.wrap r3.2):Int).toNat) (0:Int)).length) l1))) none) none) none)
theorem TE (d:Nat) (l1:List Int) (n2:Int):yD (d+1) l1 n2 =
 aa (decide (n2 < 0)) (
 none) (
 Q1 (Gj d (u64.wrap (l1.length:Int)) (u64.wrap n2)) fun r3 =>
 aa (decide (r3.1 > 0)) (
 qf d l1 r3 true) (
 qf d l1 r3 (decide (r3.2 > 9223372036854775807)))):=by kernel_rfl
theorem TF (d:Nat) (n1:Int):jP (d+1) n1 =
 BP n1:=by kernel_rfl
theorem TG (d:Nat) (s1:ByteArray) (n2:Int):KN (d+1) s1 n2 =
 BQ s1 n2:=by kernel_rfl
theorem TH (d:Nat) (x1:t6) (n2:Int) (s3:ByteArray):nA (d+1) x1 n2 s3 =
 Q1 (KN d (⟨#[32,32]⟩:ByteArray) n2) fun r4 =>
 aa (Nat.ble (r4.size+s3.size) 9223372036854775807) (
 aa (Nat.ble ((x1.2.1.length+[(r4++s3)].length)*16) Q7) (
 some (x1.1,(x1.2.1++[(r4++s3)]),x1.2.2)) none) none:=by kernel_rfl
noncomputable def lH (d:Nat) (n1:Int) (b4:Bool):Option ByteArray :=
 aa b4 (
 Q1 (jP d (i64.wrap (n1.tdiv 1000))) fun r5 =>
 aa (Nat.ble (r5.size+((⟨#[107]⟩:ByteArray):ByteArray).size) 9223372036854775807) (
 some (r5++((⟨#[107]⟩:ByteArray):ByteArray))) none) (
 Q1 (jP d n1) fun r6 =>
 some r6)
noncomputable def lI (d:Nat) (n1:Int) (b2:Bool):Option ByteArray :=
 aa b2 (
 Q1 (jP d (i64.wrap (n1.tdiv 1000000))) fun r3 =>
 aa (Nat.ble (r3.size+((⟨#[109]⟩:ByteArray):ByteArray).size) 9223372036854775807) (
 some (r3++((⟨#[109]⟩:ByteArray):ByteArray))) none) (
 aa (decide (n1 > 0)) (
 lH d n1 (((n1.tmod 1000):Int)==0)) (
 lH d n1 false))
theorem TI (d:Nat) (n1:Int):qg (d+1) n1 =
 aa (decide (n1 > 0)) (
 lI d n1 (((n1.tmod 1000000):Int)==0)) (
 lI d n1 false):=by kernel_rfl
theorem TJ (d:Nat) (x1:t1):BS (d+1) x1 =
 Q1 (jP d x1.1) fun r2 =>
 aa (Nat.ble (((⟨#[99,108,97,115,115,32]⟩:ByteArray):ByteArray).size+r2.size) 9223372036854775807) (
 aa (Nat.ble (((((⟨#[99,108,97,115,115,32]⟩:ByteArray):ByteArray)++r2):ByteArray).size+((⟨#[32,114,97,116,101,32]⟩:ByteArray):ByteArray).size) 9223372036854775807) (
 Q1 (qg d x1.2.2.1) fun r3 =>
 aa (Nat.ble (((((((⟨#[99,108,97,115,115,32]⟩:ByteArray):ByteArray)++r2):ByteArray)++((⟨#[32,114,97,116,101,32]⟩:ByteArray):ByteArray)):ByteArray).size+r3.size) 9223372036854775807) (
 aa (Nat.ble (((((((((⟨#[99,108,97,115,115,32]⟩:ByteArray):ByteArray)++r2):ByteArray)++((⟨#[32,114,97,116,101,32]⟩:ByteArray):ByteArray)):ByteArray)++r3):ByteArray).size+((⟨#[32,99,101,105,108,32]⟩:ByteArray):ByteArray).size) 9223372036854775807) (
 Q1 (qg d x1.2.2.2.1) fun r4 =>
 aa (Nat.ble (((((((((((⟨#[99,108,97,115,115,32]⟩:ByteArray):ByteArray)++r2):ByteArray)++((⟨#[32,114,97,116,101,32]⟩:ByteArray):ByteArray)):ByteArray)++r3):ByteArray)++((⟨#[32,99,101,105,108,32]⟩:ByteArray):ByteArray)):ByteArray).size+r4.size) 9223372036854775807) (
 aa (Nat.ble (((((((((((((⟨#[99,108,97,115,115,32]⟩:ByteArray):ByteArray)++r2):ByteArray)++((⟨#[32,114,97,116,101,32]⟩:ByteArray):ByteArray)):ByteArray)++r3):ByteArray)++((⟨#[32,99,101,105,108,32]⟩:ByteArray):ByteArray)):ByteArray)++r4):ByteArray).size+((⟨#[32,98,117,114,115,116,32]⟩:ByteArray):ByteArray).size) 9223372036854775807) (
 Q1 (qg d x1.2.2.2.2.1) fun r5 =>
 aa (Nat.ble (((((((((((((((⟨#[99,108,97,115,115,32]⟩:ByteArray):ByteArray)++r2):ByteArray)++((⟨#[32,114,97,116,101,32]⟩:ByteArray):ByteArray)):ByteArray)++r3):ByteArray)++((⟨#[32,99,101,105,108,32]⟩:ByteArray):ByteArray)):ByteArray)++r4):ByteArray)++((⟨#[32,98,117,114,115,116,32]⟩:ByteArray):ByteArray)):ByteArray).size+r5.size) 9223372036854775807) (
 aa (Nat.ble (((((((((((((((((⟨#[99,108,97,115,115,32]⟩:ByteArray):ByteArray)++r2):ByteArray)++((⟨#[32,114,97,116,101,32]⟩:ByteArray):ByteArray)):ByteArray)++r3):ByteArray)++((⟨#[32,99,101,105,108,32]⟩:ByteArray):ByteArray)):ByteArray)++r4):ByteArray)++((⟨#[32,98,117,114,115,116,32]⟩:ByteArray):ByteArray)):ByteArray)++r5):ByteArray).size+((⟨#[32,99,98,117,114,115,116,32]⟩:ByteArray):ByteArray).size) 9223372036854775807) (
 Q1 (qg d x1.2.2.2.2.2.1) fun r6 =>
 aa (Nat.ble (((((((((((((((((((⟨#[99,108,97,115,115,32]⟩:ByteArray):ByteArray)++r2):ByteArray)++((⟨#[32,114,97,116,101,32]⟩:ByteArray):ByteArray)):ByteArray)++r3):ByteArray)++((⟨#[32,99,101,105,108,32]⟩:ByteArray):ByteArray)):ByteArray)++r4):ByteArray)++((⟨#[32,98,117,114,115,116,32]⟩:ByteArray):ByteArray)):ByteArray)++r5):ByteArray)++((⟨#[32,99,98,117,114,115,116,32]⟩:ByteArray):ByteArray)):ByteArray).size+r6.size) 9223372036854775807) (
 aa (Nat.ble (((((((((((((((((((((⟨#[99,108,97,115,115,32]⟩:ByteArray):ByteArray)++r2):ByteArray)++((⟨#[32,114,97,116,101,32]⟩:ByteArray):ByteArray)):ByteArray)++r3):ByteArray)++((⟨#[32,99,101,105,108,32]⟩:ByteArray):ByteArray)):ByteArray)++r4):ByteArray)++((⟨#[32,98,117,114,115,116,32]⟩:ByteArray):ByteArray)):ByteArray)++r5):ByteArray)++((⟨#[32,99,98,117,114,115,116,32]⟩:ByteArray):ByteArray)):ByteArray)++r6):ByteArray).size+((⟨#[32,112,114,105,111,32]⟩:ByteArray):ByteArray).size) 9223372036854775807) (
 Q1 (jP d x1.2.2.2.2.2.2.1) fun r7 =>
 aa (Nat.ble (((((((((((((((((((((((⟨#[99,108,97,115,115,32]⟩:ByteArray):ByteArray)++r2):ByteArray)++((⟨#[32,114,97,116,101,32]⟩:ByteArray):ByteArray)):ByteArray)++r3):ByteArray)++((⟨#[32,99,101,105,108,32]⟩:ByteArray):ByteArray)):ByteArray)++r4):ByteArray)++((⟨#[32,98,117,114,115,116,32]⟩:ByteArray):ByteArray)):ByteArray)++r5):ByteArray)++((⟨#[32,99,98,117,114,115,116,32]⟩:ByteArray):ByteArray)):ByteArray)++r6):ByteArray)++((⟨#[32,112,114,105,111,32]⟩:ByteArray):ByteArray)):ByteArray).size+r7.size) 9223372036854775807) (
 some (((((((((((((((((((((((⟨#[99,108,97,115,115,32]⟩:ByteArray):ByteArray)++r2):ByteArray)++((⟨#[32,114,97,116,101,32]⟩:ByteArray):ByteArray)):ByteArray)++r3):ByteArray)++((⟨#[32,99,101,105,108,32]⟩:ByteArray):ByteArray)):ByteArray)++r4):ByteArray)++((⟨#[32,98,117,114,115,116,32]⟩:ByteArray):ByteArray)):ByteArray)++r5):ByteArray)++((⟨#[32,99,98,117,114,115,116,32]⟩:ByteArray):ByteArray)):ByteArray)++r6):ByteArray)++((⟨#[32,112,114,105,111,32]⟩:ByteArray):ByteArray)):ByteArray)++r7)) none) none) none) none) none) none) none) none) none) none) none:=by kernel_rfl
noncomputable def lJ (d:Nat) (n2:Int) (s6:ByteArray) (l7:List t1) (l8:List t5) (n9:Int) (l10:List ByteArray) (kY DI fR:List Int):Option t6 :=
 aa (decide (0<=n2)) (
 aa (Nat.blt (n2.toNat) fR.length) (
 Q1 (fR[n2.toNat]?) fun nq =>
 some ((s6,l7,l8,n9),l10,kY,DI,(fR.set (n2.toNat) (l10.length:Int)))) none) none
noncomputable def yE (d:Nat) (n2 n3:Int) (s15:ByteArray) (pK:List t1) (gd:List t5) (eJ:Int) (gR:List ByteArray) (dU eR DG:List Int):Option t6 :=
 Q1 (nA d ((s15,pK,gd,eJ),gR,dU,eR,DG) n3 (⟨#[125]⟩:ByteArray)) fun vF =>
 lJ d n2 vF.1.1 vF.1.2.1 vF.1.2.2.1 vF.1.2.2.2 vF.2.1 vF.2.2.1 vF.2.2.2.1 vF.2.2.2.2
noncomputable def qh (d:Nat) (n3:Int) (tN:List Int) (uz:ByteArray->(List t1)->(List t5)->Int->(List ByteArray)->(List Int)->(List Int)->(List Int)->Option t6) (iz:(Int×t6)->Option t6) (s:(Int×t6)):Option t6 :=
(fun gC (ou:t6) =>
 aa (decide (gC < (tN.length:Int))) (
 aa (decide (0<=gC)) (
 aa (Nat.blt (gC.toNat) tN.length) (
 Q1 (tN[gC.toNat]?) fun eA =>
 Q1 (BT d ou eA (i64.wrap (n3+1))) fun BK =>
 iz ((i64.wrap (gC+1)),BK)) none) none) (
 uz ou.1.1 ou.1.2.1 ou.1.2.2.1 ou.1.2.2.2 ou.2.1 ou.2.2.1 ou.2.2.2.1 ou.2.2.2.2)) s.1 s.2
theorem TK (d:Nat) (x1:t6) (n2 n3:Int):BT (d+1) x1 n2 n3 =
 aa (decide (0<=n2)) (
 Q1 (x1.1.2.1[n2.toNat]?) fun x4 =>
 aa (Nat.ble ((x1.2.2.1.length+[n2].length)*8) Q7) (
 Q1 (tZ d x1.1 n2) fun r5 =>
 aa r5 (
 Q1 (BS d x4) fun r6 =>
 aa (Nat.ble (r6.size+((⟨#[32,108,105,109,105,116,32]⟩:ByteArray):ByteArray).size) 9223372036854775807) (
 Q1 (qg d x4.2.2.2.2.2.2.2) fun r7 =>
 aa (Nat.ble (((r6++((⟨#[32,108,105,109,105,116,32]⟩:ByteArray):ByteArray)):ByteArray).size+r7.size) 9223372036854775807) (
 aa (Nat.ble (((((r6++((⟨#[32,108,105,109,105,116,32]⟩:ByteArray):ByteArray)):ByteArray)++r7):ByteArray).size+((⟨#[59]⟩:ByteArray):ByteArray).size) 9223372036854775807) (
 Q1 (nA d (x1.1,x1.2.1,(x1.2.2.1++[n2]),x1.2.2.2) n3 (((((r6++((⟨#[32,108,105,109,105,116,32]⟩:ByteArray):ByteArray)):ByteArray)++r7):ByteArray)++((⟨#[59]⟩:ByteArray):ByteArray))) fun r8 =>
 aa (decide (0<=n2)) (
 aa (Nat.blt (n2.toNat) r8.2.2.2.1.length) (
 Q1 (r8.2.2.2.1[n2.toNat]?) fun n9 =>
 lJ d n2 r8.1.1 r8.1.2.1 r8.1.2.2.1 r8.1.2.2.2 r8.2.1 r8.2.2.1 (r8.2.2.2.1.set (n2.toNat) (r8.2.1.length:Int)) r8.2.2.2.2) none) none) none) none) none) (
 Q1 (BS d x4) fun tC =>
 aa (Nat.ble (tC.size+((⟨#[32,123]⟩:ByteArray):ByteArray).size) 9223372036854775807) (
 Q1 (nA d (x1.1,x1.2.1,(x1.2.2.1++[n2]),x1.2.2.2) n3 (tC++((⟨#[32,123]⟩:ByteArray):ByteArray))) fun gS =>
 aa (decide (0<=n2)) (
 aa (Nat.blt (n2.toNat) gS.2.2.2.1.length) (
 Q1 (gS.2.2.2.1[n2.toNat]?) fun tM =>
 Q1 (xY d gS.1 n2) fun tN =>
 Q8 (qh d n3 tN (yE d n2 n3)) Qd (0,(gS.1,gS.2.1,gS.2.2.1,(gS.2.2.2.1.set (n2.toNat) (gS.2.1.length:Int)),gS.2.2.2.2))) none) none) none)) none) none:=by kernel_rfl
noncomputable def uA (d:Nat) (n3:Int):Option Int :=
 some (-1)
noncomputable def gV (d:Nat) (x1:t3) (lK:Int->Option Int) (bV:t10->Option Int) (s:t10):Option Int :=
(fun n3 n4 =>
 aa (decide (n4 < (x1.2.1.length:Int))) (
 aa (decide (0<=n4)) (
 Q1 (x1.2.1[n4.toNat]?) fun x5 =>
 aa (x5.2.1==0) (
 some n4) (
 bV (n3,(i64.wrap (n4+1))))) none) (
 lK n3)) s.1 s.2
theorem TL (d:Nat) (x1:t3):Gk (d+3) x1 =
 Q8 (gV d x1 (uA d)) Qd (0,0):=by kernel_rfl
noncomputable def lM (d:Nat) (s4:ByteArray):Option (ByteArray×Bool) :=
 aa (Nat.ble (((⟨#[48,120]⟩:ByteArray):ByteArray).size+s4.size) 9223372036854775807) (
 some ((((⟨#[48,120]⟩:ByteArray):ByteArray)++s4),true)) none
noncomputable def jf (d:Nat) (fB:ByteArray->Option (ByteArray×Bool)) (bM:(Int×ByteArray)->Option (ByteArray×Bool)) (n4:Int) (s5:ByteArray) (b6 b7:Bool):Option (ByteArray×Bool) :=
 aa b7 (
 aa (decide (0<=((i64.wrap ((i64.wrap ((BitVec.ofInt i64.bits n4 &&& BitVec.ofInt i64.bits 15).toNat:Int))+1)):Int))) (
 aa (decide (0<=((i64.wrap ((BitVec.ofInt i64.bits n4 &&& BitVec.ofInt i64.bits 15).toNat:Int)):Int))) (
 aa (Nat.ble (((i64.wrap ((BitVec.ofInt i64.bits n4 &&& BitVec.ofInt i64.bits 15).toNat:Int)):Int).toNat) (((i64.wrap ((i64.wrap ((BitVec.ofInt i64.bits n4 &&& BitVec.ofInt i64.bits 15).toNat:Int))+1)):Int).toNat)&&Nat.ble (((i64.wrap ((i64.wrap ((BitVec.ofInt i64.bits n4 &&& BitVec.ofInt i64.bits 15).toNat:Int))+1)):Int).toNat) ((⟨#[48,49,50,51,52,53,54,55,56,57,97,98,99,100,101,102]⟩:ByteArray):ByteArray).size) (
 aa (Nat.ble (((((⟨#[48,49,50,51,52,53,54,55,56,57,97,98,99,100,101,102]⟩:ByteArray):ByteArray).extract (((i64.wrap ((BitVec.ofInt i64.bits n4 &&& BitVec.ofInt i64.bits 15).toNat:Int)):Int).toNat) (((i64.wrap ((i64.wrap ((BitVec.ofInt i64.bits n4 &&& BitVec.ofInt i64.bits 15).toNat:Int))+1)):Int).toNat)):ByteArray).size+s5.size) 9223372036854775807) (
 bM ((n4.fdiv (2 ^ (min (4:Int).toNat i64.bits))),(((((⟨#[48,49,50,51,52,53,54,55,56,57,97,98,99,100,101,102]⟩:ByteArray):ByteArray).extract (((i64.wrap ((BitVec.ofInt i64.bits n4 &&& BitVec.ofInt i64.bits 15).toNat:Int)):Int).toNat) (((i64.wrap ((i64.wrap ((BitVec.ofInt i64.bits n4 &&& BitVec.ofInt i64.bits 15).toNat:Int))+1)):Int).toNat)):ByteArray)++s5))) none) none) none) none) (
 fB s5)
noncomputable def yF (d:Nat) (fB:ByteArray->Option (ByteArray×Bool)) (bM:(Int×ByteArray)->Option (ByteArray×Bool)) (s:(Int×ByteArray)):Option (ByteArray×Bool) :=
(fun n4 s5 =>
 aa (decide (n4 > 0)) (
 jf d fB bM n4 s5 true true) (
 jf d fB bM n4 s5 false (s5.toList==((⟨#[]⟩:ByteArray):ByteArray).toList))) s.1 s.2
noncomputable def qi (d:Nat) (n1:Int) (b2:Bool):Option (ByteArray×Bool) :=
 aa b2 (
 some ((⟨#[]⟩:ByteArray),false)) (
 Q8 (yF d (lM d)) Qd (n1,(⟨#[]⟩:ByteArray)))
theorem TN (d:Nat) (n1:Int):KO (d+1) n1 =
 aa (decide (n1 < 0)) (
 qi d n1 true) (
 qi d n1 (decide (n1 > 4294967295))):=by kernel_rfl
theorem TO (d:Nat) (n1:Int):BU (d+1) n1 =
 aa (decide (n1 < 0)) (
 some ((⟨#[]⟩:ByteArray),false)) (
 aa (decide (n1 > 65535)) (
 some ((⟨#[]⟩:ByteArray),false)) (
 Q1 (KO d n1) fun r2 =>
 some (r2.1,r2.2))):=by kernel_rfl
theorem TP (d:Nat):KP (d+1) =
 some [(⟨#[115,111,117,114,99,101]⟩:ByteArray),(⟨#[100,101,115,116]⟩:ByteArray),(⟨#[112,111,114,116]⟩:ByteArray),(⟨#[109,97,114,107]⟩:ByteArray)]:=by kernel_rfl
theorem TQ (d:Nat) (x1:t5):Gl (d+1) x1 =
 Q1 (BU d x1.2.2.2.1) fun r2 =>
 Q1 (BU d x1.2.2.1) fun r3 =>
 Q1 (jP d x1.1) fun r4 =>
 aa (Nat.ble (((⟨#[102,105,108,116,101,114,32]⟩:ByteArray):ByteArray).size+r4.size) 9223372036854775807) (
 aa (Nat.ble (((((⟨#[102,105,108,116,101,114,32]⟩:ByteArray):ByteArray)++r4):ByteArray).size+((⟨#[32]⟩:ByteArray):ByteArray).size) 9223372036854775807) (
 Q1 (KP d) fun r5 =>
 aa (decide (0<=x1.2.1)) (
 aa (Nat.blt (x1.2.1.toNat) r5.length) (
 Q1 (r5[x1.2.1.toNat]?) fun s6 =>
 aa (Nat.ble (((((((⟨#[102,105,108,116,101,114,32]⟩:ByteArray):ByteArray)++r4):ByteArray)++((⟨#[32]⟩:ByteArray):ByteArray)):ByteArray).size+s6.size) 9223372036854775807) (
 aa (Nat.ble (((((((((⟨#[102,105,108,116,101,114,32]⟩:ByteArray):ByteArray)++r4):ByteArray)++((⟨#[32]⟩:ByteArray):ByteArray)):ByteArray)++s6):ByteArray).size+((⟨#[32]⟩:ByteArray):ByteArray).size) 9223372036854775807) (
 aa (Nat.ble (((((((((((⟨#[102,105,108,116,101,114,32]⟩:ByteArray):ByteArray)++r4):ByteArray)++((⟨#[32]⟩:ByteArray):ByteArray)):ByteArray)++s6):ByteArray)++((⟨#[32]⟩:ByteArray):ByteArray)):ByteArray).size+r2.1.size) 9223372036854775807) (
 aa (Nat.ble (((((((((((((⟨#[102,105,108,116,101,114,32]⟩:ByteArray):ByteArray)++r4):ByteArray)++((⟨#[32]⟩:ByteArray):ByteArray)):ByteArray)++s6):ByteArray)++((⟨#[32]⟩:ByteArray):ByteArray)):ByteArray)++r2.1):ByteArray).size+((⟨#[32,47,32]⟩:ByteArray):ByteArray).size) 9223372036854775807) (
 aa (Nat.ble (((((((((((((((⟨#[102,105,108,116,101,114,32]⟩:ByteArray):ByteArray)++r4):ByteArray)++((⟨#[32]⟩:ByteArray):ByteArray)):ByteArray)++s6):ByteArray)++((⟨#[32]⟩:ByteArray):ByteArray)):ByteArray)++r2.1):ByteArray)++((⟨#[32,47,32]⟩:ByteArray):ByteArray)):ByteArray).size+r3.1.size) 9223372036854775807) (
 aa (Nat.ble (((((((((((((((((⟨#[102,105,108,116,101,114,32]⟩:ByteArray):ByteArray)++r4):ByteArray)++((⟨#[32]⟩:ByteArray):ByteArray)):ByteArray)++s6):ByteArray)++((⟨#[32]⟩:ByteArray):ByteArray)):ByteArray)++r2.1):ByteArray)++((⟨#[32,47,32]⟩:ByteArray):ByteArray)):ByteArray)++r3.1):ByteArray).size+((⟨#[32,45,62,32]⟩:ByteArray):ByteArray).size) 9223372036854775807) (
 Q1 (jP d x1.2.2.2.2) fun r7 =>
 aa (Nat.ble (((((((((((((((((((⟨#[102,105,108,116,101,114,32]⟩:ByteArray):ByteArray)++r4):ByteArray)++((⟨#[32]⟩:ByteArray):ByteArray)):ByteArray)++s6):ByteArray)++((⟨#[32]⟩:ByteArray):ByteArray)):ByteArray)++r2.1):ByteArray)++((⟨#[32,47,32]⟩:ByteArray):ByteArray)):ByteArray)++r3.1):ByteArray)++((⟨#[32,45,62,32]⟩:ByteArray):ByteArray)):ByteArray).size+r7.size) 9223372036854775807) (
 aa (Nat.ble (((((((((((((((((((((⟨#[102,105,108,116,101,114,32]⟩:ByteArray):ByteArray)++r4):ByteArray)++((⟨#[32]⟩:ByteArray):ByteArray)):ByteArray)++s6):ByteArray)++((⟨#[32]⟩:ByteArray):ByteArray)):ByteArray)++r2.1):ByteArray)++((⟨#[32,47,32]⟩:ByteArray):ByteArray)):ByteArray)++r3.1):ByteArray)++((⟨#[32,45,62,32]⟩:ByteArray):ByteArray)):ByteArray)++r7):ByteArray).size+((⟨#[59]⟩:ByteArray):ByteArray).size) 9223372036854775807) (
 some (((((((((((((((((((((⟨#[102,105,108,116,101,114,32]⟩:ByteArray):ByteArray)++r4):ByteArray)++((⟨#[32]⟩:ByteArray):ByteArray)):ByteArray)++s6):ByteArray)++((⟨#[32]⟩:ByteArray):ByteArray)):ByteArray)++r2.1):ByteArray)++((⟨#[32,47,32]⟩:ByteArray):ByteArray)):ByteArray)++r3.1):ByteArray)++((⟨#[32,45,62,32]⟩:ByteArray):ByteArray)):ByteArray)++r7):ByteArray)++((⟨#[59]⟩:ByteArray):ByteArray))) none) none) none) none) none) none) none) none) none) none) none) none:=by kernel_rfl
noncomputable def yG (d:Nat) (x1:t3) (dU:List t10) (YW:ByteArray) (KQ:Int) (YX:List t1) (Oe Of YY YZ:List Int) (Y3:List t5) (Y4:List Int):Option t0 :=
 aa (x1.2.2.2 != 0) (
 some (YW,YX,Oe,Of,YY,YZ,Y3,Y4,((ez dU x1.2.2.2).getD 0))) (
 some (YW,YX,Oe,Of,YY,YZ,Y3,Y4,KQ))
noncomputable def rK (d:Nat) (x1:t3) (dU:List t10) (yH:ByteArray->Int->(List t1)->(List Int)->(List Int)->(List Int)->(List Int)->(List t5)->(List Int)->Option t0) (TS:(Int×t0)->Option t0) (s:(Int×t0)):Option t0 :=
(fun IC (lN:t0) =>
 aa (decide (IC < (x1.2.2.1.length:Int))) (
 aa (decide (0<=IC)) (
 Q1 (x1.2.2.1[IC.toNat]?) fun Y5 =>
 aa (Nat.ble ((lN.2.2.2.2.2.2.2.1.length+[((ez dU Y5.2.2.2.2).getD 0)].length)*8) Q7) (
 TS ((i64.wrap (IC+1)),(lN.1,lN.2.1,lN.2.2.1,lN.2.2.2.1,lN.2.2.2.2.1,lN.2.2.2.2.2.1,lN.2.2.2.2.2.2.1,(lN.2.2.2.2.2.2.2.1++[((ez dU Y5.2.2.2.2).getD 0)]),lN.2.2.2.2.2.2.2.2))) none) none) (
 yH lN.1 lN.2.2.2.2.2.2.2.2 lN.2.1 lN.2.2.1 lN.2.2.2.1 lN.2.2.2.2.1 lN.2.2.2.2.2.1 lN.2.2.2.2.2.2.1 lN.2.2.2.2.2.2.2.1)) s.1 s.2
noncomputable def yI (d:Nat) (x1:t3) (KR:ByteArray) (tK:Int) (dU:List t10) (eR:List t1) (DL:List t5) (AL AO AP iI IA:List Int):Option t0 :=
 Q8 (rK d x1 dU (yG d x1 dU)) Qd (0,(KR,eR,iI,AO,AP,IA,DL,AL,tK))
noncomputable def rL (d:Nat) (ID:List Int) (yJ:(List Int)->Option t0) (KS:t11->Option t0) (s:t11):Option t0 :=
(fun gD (rI:List Int) =>
 aa (decide (gD>=0)) (
 aa (decide (0<=gD)) (
 aa (Nat.blt (gD.toNat) rI.length) (
 Q1 (rI[gD.toNat]?) fun IC =>
 aa (decide (0<=gD)) (
 aa (Nat.blt (gD.toNat) ID.length) (
 Q1 (ID[gD.toNat]?) fun KQ =>
 aa (decide (KQ>=0)) (
 aa (decide (0<=gD)) (
 aa (Nat.blt (gD.toNat) ID.length) (
 Q1 (ID[gD.toNat]?) fun Og =>
 aa (decide (0<=Og)) (
 aa (Nat.blt (Og.toNat) ((rI.set (gD.toNat) (i64.wrap (gD+1))).length)) (
 Q1 ((rI.set (gD.toNat) (i64.wrap (gD+1)))[Og.toNat]?) fun IE =>
 aa (decide (0<=gD)) (
 aa (Nat.blt (gD.toNat) ((rI.set (gD.toNat) (i64.wrap (gD+1))).length)) (
 Q1 ((rI.set (gD.toNat) (i64.wrap (gD+1)))[gD.toNat]?) fun n43 =>
 KS ((i64.wrap (gD - 1)),((rI.set (gD.toNat) (i64.wrap (gD+1))).set (gD.toNat) IE))) none) none) none) none) none) none) (
 KS ((i64.wrap (gD - 1)),(rI.set (gD.toNat) (i64.wrap (gD+1)))))) none) none) none) none) (
 yJ rI)) s.1 s.2
noncomputable def DN (d:Nat) (x1:t3) (KR:ByteArray) (tK:Int) (dU:List t10) (eR:List t1) (DL:List t5) (AL ID AO AP iI:List Int):Option t0 :=
 Q8 (rL d ID (yI d x1 KR tK dU eR DL AL AO AP iI)) Qd ((i64.wrap ((eR.length:Int) - 1)),(List.replicate ((eR.length:Int).toNat) (0:Int)))
noncomputable def rM (d:Nat) (dU:List t10) (yK:(Int×(List Int)×(List Int)×(List Int)×(List Int))->Option t0) (j_:Int) (iI lO:List Int) (lP:t1) (Y6:Bool) (Oe Of:List Int):Option t0 :=
 aa (decide (0<=(((ez dU lP.2.1).getD 0):Int))) (
 aa (Nat.blt ((((ez dU lP.2.1).getD 0):Int).toNat) lO.length) (
 Q1 (lO[(((ez dU lP.2.1).getD 0):Int).toNat]?) fun n44 =>
 yK ((i64.wrap (j_+1)),Oe,Of,(iI.set (j_.toNat) ((ez dU lP.2.1).getD 0)),(lO.set ((((ez dU lP.2.1).getD 0):Int).toNat) j_))) none) none
noncomputable def ke (d:Nat) (dU:List t10) (eR:List t1) (yL:(List Int)->(List Int)->(List Int)->(List Int)->Option t0) (yK:(Int×(List Int)×(List Int)×(List Int)×(List Int))->Option t0) (s:(Int×(List Int)×(List Int)×(List Int)×(List Int))):Option t0 :=
(fun j_ (AO:List Int) (AP:List Int) (iI:List Int) (lO:List Int) =>
 aa (decide (j_ < (eR.length:Int))) (
 aa (decide (0<=j_)) (
 aa (Nat.blt (j_.toNat) eR.length) (
 Q1 (eR[j_.toNat]?) fun lP =>
 aa (!((ez dU lP.2.1).isSome)) (
 aa (decide (0<=j_)) (
 aa (Nat.blt (j_.toNat) iI.length) (
 Q1 (iI[j_.toNat]?) fun YU =>
 yK ((i64.wrap (j_+1)),AO,AP,(iI.set (j_.toNat) (-1)),lO)) none) none) (
 aa (decide (0<=j_)) (
 aa (Nat.blt (j_.toNat) iI.length) (
 Q1 (iI[j_.toNat]?) fun IC =>
 aa (decide (0<=(((ez dU lP.2.1).getD 0):Int))) (
 aa (Nat.blt ((((ez dU lP.2.1).getD 0):Int).toNat) lO.length) (
 Q1 (lO[(((ez dU lP.2.1).getD 0):Int).toNat]?) fun KQ =>
 aa (decide (KQ < 0)) (
 aa (decide (0<=(((ez dU lP.2.1).getD 0):Int))) (
 aa (Nat.blt ((((ez dU lP.2.1).getD 0):Int).toNat) AO.length) (
 Q1 (AO[(((ez dU lP.2.1).getD 0):Int).toNat]?) fun Og =>
 rM d dU yK j_ iI lO lP true (AO.set ((((ez dU lP.2.1).getD 0):Int).toNat) j_) AP) none) none) (
 aa (decide (0<=(((ez dU lP.2.1).getD 0):Int))) (
 aa (Nat.blt ((((ez dU lP.2.1).getD 0):Int).toNat) lO.length) (
 Q1 (lO[(((ez dU lP.2.1).getD 0):Int).toNat]?) fun IE =>
 aa (decide (0<=IE)) (
 aa (Nat.blt (IE.toNat) AP.length) (
 Q1 (AP[IE.toNat]?) fun n43 =>
 rM d dU yK j_ iI lO lP false AO (AP.set (IE.toNat) j_)) none) none) none) none)) none) none) none) none)) none) none) (
 yL lO AO AP iI)) s.1 s.2.1 s.2.2.1 s.2.2.2.1 s.2.2.2.2
noncomputable def nB (d:Nat) (x1:t3) (KR:ByteArray) (tK:Int) (dU:List t10) (eR:List t1) (DG vC rG DH:List Int) (DL:List t5) (AL:List Int):Option t0 :=
 Q1 (yD (d+1) [(-1)] (eR.length:Int)) fun yM =>
 Q1 (yD (d+1) [(-1)] (eR.length:Int)) fun ur =>
 aa (decide (0<=(eR.length:Int))) (
 aa (decide (0<=(eR.length:Int))) (
 aa (Nat.ble ((eR.length:Int).toNat) ((eR.length:Int).toNat)&&Nat.ble (((eR.length:Int).toNat)*8) Q7) (
 aa (decide (0<=(eR.length:Int))) (
 aa (decide (0<=(eR.length:Int))) (
 aa (Nat.ble ((eR.length:Int).toNat) ((eR.length:Int).toNat)&&Nat.ble (((eR.length:Int).toNat)*8) Q7) (
 Q1 (yD (d+1) [(-1)] (eR.length:Int)) fun yN =>
 Q8 (ke d dU eR (DN d x1 KR tK dU eR DL AL)) Qd (0,yM,ur,(List.replicate ((eR.length:Int).toNat) (0:Int)),yN)) none) none) none) none) none) none
noncomputable def rN (d:Nat) (x1:t3) (oY:t6) (yO:ByteArray->Int->(List t10)->(List t1)->(List Int)->(List Int)->(List Int)->(List Int)->(List t5)->(List Int)->Option t0) (Gh:(Int×t0×(List (List (List t10))))->Option t0) (s:(Int×t0×(List (List (List t10))))):Option t0 :=
(fun eJ (nk:t0) (dU:List (List (List t10))) =>
 aa (decide (eJ < (oY.2.2.1.length:Int))) (
 aa (decide (0<=eJ)) (
 aa (Nat.blt (eJ.toNat) oY.2.2.1.length) (
 Q1 (oY.2.2.1[eJ.toNat]?) fun j7 =>
 aa (decide (0<=j7)) (
 Q1 (x1.2.1[j7.toNat]?) fun Tx =>
 aa (Nat.ble ((nk.2.1.length+[Tx].length)*64) Q7) (
 aa (decide (0<=j7)) (
 Q1 (x1.2.1[j7.toNat]?) fun YV =>
 Gh ((i64.wrap (eJ+1)),(nk.1,(nk.2.1++[Tx]),nk.2.2),([[(gL (BV dU) YV.1 eJ)]]:List (List (List t10))))) none) none) none) none) none) (
 yO nk.1 nk.2.2.2.2.2.2.2.2 (BV dU) nk.2.1 nk.2.2.1 nk.2.2.2.1 nk.2.2.2.2.1 nk.2.2.2.2.2.1 nk.2.2.2.2.2.2.1 nk.2.2.2.2.2.2.2.1)) s.1 s.2.1 s.2.2
noncomputable def kg (d:Nat) (x1:t3) (r2:List t5) (s8:ByteArray) (l9:List t1) (l10:List t5) (iy:Int) (DI:List ByteArray) (fR j8 ia:List Int):Option t0 :=
 Q1 (nA d ((s8,l9,l10,iy),DI,fR,j8,ia) 0 (⟨#[125]⟩:ByteArray)) fun oY =>
 Q8 (rN d x1 oY (nB d x1)) Qd (0,(x1.1,[],[],[],[],[],r2,[],(-1)),([[([]:List t10)]]:List (List (List t10))))
noncomputable def gW (d:Nat) (x1:t3) (lQ:ByteArray->(List t1)->(List t5)->Int->(List ByteArray)->(List Int)->(List Int)->(List Int)->Option t0) (Tn:(Int×t6)->Option t0) (s:(Int×t6)):Option t0 :=
(fun n8 (x9:t6) =>
 aa (decide (n8 < (x1.2.2.1.length:Int))) (
 aa (decide (0<=n8)) (
 Q1 (x1.2.2.1[n8.toNat]?) fun aR =>
 Q1 (Gl d aR) fun gS =>
 Q1 (nA d x9 1 gS) fun mG =>
 Tn ((i64.wrap (n8+1)),mG)) none) (
 lQ x9.1.1 x9.1.2.1 x9.1.2.2.1 x9.1.2.2.2 x9.2.1 x9.2.2.1 x9.2.2.2.1 x9.2.2.2.2)) s.1 s.2
noncomputable def fC (d:Nat) (x1:t3) (r2:List t5) (s3:ByteArray):Option t0 :=
 aa (Nat.ble (s3.size+((⟨#[32,123]⟩:ByteArray):ByteArray).size) 9223372036854775807) (
 Q1 (nA d (x1,[],[],(List.replicate ((x1.2.1.length:Int).toNat) (0:Int)),(List.replicate ((x1.2.1.length:Int).toNat) (0:Int))) 0 (s3++((⟨#[32,123]⟩:ByteArray):ByteArray))) fun r4 =>
 Q1 (Gk d x1) fun r5 =>
 Q1 (BT d r4 r5 1) fun r6 =>
 Q8 (gW d x1 (kg d x1 r2)) Qd (0,r6)) none
theorem e95 (d:Nat) (x1:t3):Oh (d+2) x1 =
 Q1 (Od (d+1) x1.2.2.1) fun r2 =>
 aa (decide (0<=(x1.2.1.length:Int))) (
 aa (decide (0<=(x1.2.1.length:Int))) (
 aa (Nat.ble ((x1.2.1.length:Int).toNat) ((x1.2.1.length:Int).toNat)&&Nat.ble (((x1.2.1.length:Int).toNat)*8) Q7) (
 aa (decide (0<=(x1.2.1.length:Int))) (
 aa (decide (0<=(x1.2.1.length:Int))) (
 aa (Nat.ble ((x1.2.1.length:Int).toNat) ((x1.2.1.length:Int).toNat)&&Nat.ble (((x1.2.1.length:Int).toNat)*8) Q7) (
 aa (Nat.ble (((⟨#[113,100,105,115,99,32]⟩:ByteArray):ByteArray).size+x1.1.size) 9223372036854775807) (
 aa (x1.2.2.2 != 0) (
 Q1 (jP d x1.2.2.2) fun r3 =>
 aa (Nat.ble (((⟨#[32,100,101,102,97,117,108,116,32]⟩:ByteArray):ByteArray).size+r3.size) 9223372036854775807) (
 aa (Nat.ble (((((⟨#[113,100,105,115,99,32]⟩:ByteArray):ByteArray)++x1.1):ByteArray).size+((((⟨#[32,100,101,102,97,117,108,116,32]⟩:ByteArray):ByteArray)++r3):ByteArray).size) 9223372036854775807) (
 fC d x1 r2 (((((⟨#[113,100,105,115,99,32]⟩:ByteArray):ByteArray)++x1.1):ByteArray)++((((⟨#[32,100,101,102,97,117,108,116,32]⟩:ByteArray):ByteArray)++r3):ByteArray))) none) none) (
 fC d x1 r2 (((⟨#[113,100,105,115,99,32]⟩:ByteArray):ByteArray)++x1.1))) none) none) none) none) none) none) none:=by kernel_rfl
noncomputable def Gm (d:Nat) (b4:Bool):Option Bool :=
 some true
noncomputable def qj (d:Nat) (l1 l2:List t1) (uB:Bool->Option Bool) (bM:t9->Option Bool) (s:t9):Option Bool :=
(fun (b4:Bool) n5 =>
 aa (decide (n5 < (l1.length:Int))) (
 aa (decide (0<=n5)) (
 Q1 (l1[n5.toNat]?) fun x6 =>
 aa (decide (0<=n5)) (
 Q1 (l2[n5.toNat]?) fun x7 =>
 aa (!((x6.1==x7.1)&&((x6.2.1==x7.2.1)&&((x6.2.2.1==x7.2.2.1)&&((x6.2.2.2.1==x7.2.2.2.1)&&((x6.2.2.2.2.1==x7.2.2.2.2.1)&&((x6.2.2.2.2.2.1==x7.2.2.2.2.2.1)&&((x6.2.2.2.2.2.2.1==x7.2.2.2.2.2.2.1)&&((x6.2.2.2.2.2.2.2==x7.2.2.2.2.2.2.2)&&true))))))))) (
 some false) (
 bM (b4,(i64.wrap (n5+1))))) none) none) (
 uB b4)) s.1 s.2
theorem TT (d:Nat) (l1 l2:List t1):Gn (d+1) l1 l2 =
 aa ((l1.length:Int) != (l2.length:Int)) (
 some false) (
 Q8 (qj d l1 l2 (Gm d)) Qd (false,0)):=by kernel_rfl
noncomputable def Gp (d:Nat) (b4:Bool):Option Bool :=
 some true
noncomputable def qk (d:Nat) (l1 l2:List Int) (uC:Bool->Option Bool) (bM:t9->Option Bool) (s:t9):Option Bool :=
(fun (b4:Bool) n5 =>
 aa (decide (n5 < (l1.length:Int))) (
 aa (decide (0<=n5)) (
 Q1 (l1[n5.toNat]?) fun n6 =>
 aa (decide (0<=n5)) (
 Q1 (l2[n5.toNat]?) fun n7 =>
 aa (n6 != n7) (
 some false) (
 bM (b4,(i64.wrap (n5+1))))) none) none) (
 uC b4)) s.1 s.2
theorem TU (d:Nat) (l1 l2:List Int):ql (d+1) l1 l2 =
 aa ((l1.length:Int) != (l2.length:Int)) (
 some false) (
 Q8 (qk d l1 l2 (Gp d)) Qd (false,0)):=by kernel_rfl
noncomputable def yP (d:Nat) (x1:t0) (b2:Bool):Option Bool :=
 aa b2 (
 some false) (
 Q1 (KL d x1) fun r3 =>
 Q1 (Oc d r3) fun r4 =>
 aa (!r4) (
 some false) (
 Q1 (Oh d r3) fun r5 =>
 Q1 (Gn d x1.2.1 r5.2.1) fun r6 =>
 aa r6 (
 Q1 (ql d x1.2.2.1 r5.2.2.1) fun r7 =>
 aa r7 (
 Q1 (ql d x1.2.2.2.1 r5.2.2.2.1) fun r8 =>
 aa r8 (
 Q1 (ql d x1.2.2.2.2.1 r5.2.2.2.2.1) fun r9 =>
 aa r9 (
 Q1 (ql d x1.2.2.2.2.2.1 r5.2.2.2.2.2.1) fun tC =>
 aa tC (
 Q1 (ql d x1.2.2.2.2.2.2.2.1 r5.2.2.2.2.2.2.2.1) fun gS =>
 aa gS (
 some (x1.2.2.2.2.2.2.2.2==r5.2.2.2.2.2.2.2.2)) (
 some false)) (
 some false)) (
 some false)) (
 some false)) (
 some false)) (
 some false)))
theorem e87 (d:Nat) (x1:t0):TW (d+1) x1 =
 aa (decide ((x1.2.1.length:Int) > 24)) (
 yP d x1 true) (
 yP d x1 (decide ((x1.2.2.2.2.2.2.1.length:Int) > 16))):=by kernel_rfl
noncomputable def KT (d:Nat) (b5:Bool):Option Bool :=
 some true
noncomputable def nC (d:Nat) (ja:t9->Option Bool) (b5:Bool) (n6 n8 n9:Int) (Kv DE N7 vA b14 YQ YR:Bool):Option Bool :=
 aa YR (
 some false) (
 ja (b5,(i64.wrap (n6+1))))
noncomputable def yR (d:Nat) (x1:t0) (x2:t7) (yS:Bool->Option Bool) (ja:t9->Option Bool) (s:t9):Option Bool :=
(fun (b5:Bool) n6 =>
 aa (decide (n6 < (x1.2.1.length:Int))) (
 aa (decide (0<=n6)) (
 Q1 (x1.2.1[n6.toNat]?) fun x7 =>
 aa (decide (0<=n6)) (
 Q1 (x2.1[n6.toNat]?) fun n8 =>
 aa (decide (n8 < 0)) (
 nC d ja b5 n6 n8 n8 (decide (n8 < 0)) true true true true true true) (
 aa (decide (0<=n6)) (
 Q1 (x2.1[n6.toNat]?) fun n9 =>
 aa (decide (n9 > x7.2.2.2.2.1)) (
 nC d ja b5 n6 n8 n8 (decide (n8 < 0)) false (decide (n9 > x7.2.2.2.2.1)) true true true true) (
 aa (decide (0<=n6)) (
 Q1 (x2.2[n6.toNat]?) fun dS =>
 aa (decide (dS < 0)) (
 nC d ja b5 n6 n8 n8 (decide (n8 < 0)) false (decide (n9 > x7.2.2.2.2.1)) false (decide (dS < 0)) true true) (
 aa (decide (0<=n6)) (
 Q1 (x2.2[n6.toNat]?) fun iy =>
 nC d ja b5 n6 n8 n8 (decide (n8 < 0)) false (decide (n9 > x7.2.2.2.2.1)) false (decide (dS < 0)) false (decide (iy > x7.2.2.2.2.2.1))) none)) none)) none)) none) none) (
 yS b5)) s.1 s.2
noncomputable def yT (d:Nat) (x1:t0) (x2:t7) (b3:Bool):Option Bool :=
 aa b3 (
 some false) (
 Q8 (yR d x1 x2 (KT d)) Qd (false,0))
theorem e88 (d:Nat) (x1:t0) (x2:t7):TX (d+1) x1 x2 =
 aa ((x2.1.length:Int) != (x1.2.1.length:Int)) (
 yT d x1 x2 true) (
 yT d x1 x2 ((x2.2.length:Int) != (x1.2.1.length:Int))):=by kernel_rfl
noncomputable def KU (d:Nat) (l3:List Int):Option (List Int) :=
 some l3
noncomputable def yU (d:Nat) (x1:t0) (yV:(List Int)->Option (List Int)) (bV:t15->Option (List Int)) (s:t15):Option (List Int) :=
(fun (l3:List Int) n4 =>
 aa (decide (n4 < (x1.2.1.length:Int))) (
 aa (decide (0<=n4)) (
 Q1 (x1.2.2.2.1[n4.toNat]?) fun n5 =>
 aa (decide (n5 < 0)) (
 aa (Nat.ble ((l3.length+[n4].length)*8) Q7) (
 bV ((l3++[n4]),(i64.wrap (n4+1)))) none) (
 bV (l3,(i64.wrap (n4+1))))) none) (
 yV l3)) s.1 s.2
theorem e89 (d:Nat) (x1:t0):DO (d+1) x1 =
 Q8 (yU d x1 (KU d)) Qd (([]:List Int),0):=by kernel_rfl
theorem KY (d:Nat) (x1:t4):Gq (d+1) x1 =
 some (x1.2.1,x1.2.2.1,x1.2.2.2.1,x1.2.2.2.2.1):=by kernel_rfl
noncomputable def yW (d:Nat) (x1:t4) (b4:Bool):Option Bool :=
 aa (decide (x1.1>=1)) (
 aa (decide (x1.1<=100000)) (
 aa (decide (x1.2.2.2.2.2>=1)) (
 some (decide (x1.2.2.2.2.2<=1500))) (
 some false)) (
 some false)) (
 some false)
noncomputable def DP (d:Nat) (r2:(Int×Int×Int×Int)) (yX:Bool->Option Bool) (bM:t9->Option Bool) (s:t9):Option Bool :=
(fun (b4:Bool) n5 =>
 aa (decide (n5 < 4)) (
 aa (decide (0<=n5)) (
 Q1 (([r2.1,r2.2.1,r2.2.2.1,r2.2.2.2]:List Int)[n5.toNat]?) fun n6 =>
 aa (decide (n6 < 0)) (
 some false) (
 aa (decide (n6 > 65535)) (
 some false) (
 bM (b4,(i64.wrap (n5+1)))))) none) (
 yX b4)) s.1 s.2
theorem e90 (d:Nat) (x1:t4):Oi (d+1) x1 =
 Q1 (Gq d x1) fun r2 =>
 Q8 (DP d r2 (yW d x1)) Qd (false,0):=by kernel_rfl
theorem TY (d:Nat) (x1:t5) (x2:t4):Gr (d+1) x1 x2 =
 Q1 (Gq d x2) fun r3 =>
 aa (decide (0<=x1.2.1)) (
 Q1 (([r3.1,r3.2.1,r3.2.2.1,r3.2.2.2]:List Int)[x1.2.1.toNat]?) fun n4 =>
 some (((i64.wrap ((BitVec.ofInt i64.bits n4 &&& BitVec.ofInt i64.bits x1.2.2.1).toNat:Int)):Int)==x1.2.2.2.1)) none:=by kernel_rfl
noncomputable def Gs (d:Nat) (n4:Int):Option Int :=
 some (-1)
noncomputable def qm (d:Nat) (l1:List t5) (x2:t4) (uD:Int->Option Int) (bM:t10->Option Int) (s:t10):Option Int :=
(fun n4 n5 =>
 aa (decide (n5 < (l1.length:Int))) (
 aa (decide (0<=n5)) (
 Q1 (l1[n5.toNat]?) fun x6 =>
 Q1 (Gr d x6 x2) fun r7 =>
 aa r7 (
 some n5) (
 bM (n4,(i64.wrap (n5+1))))) none) (
 uD n4)) s.1 s.2
theorem TZ (d:Nat) (l1:List t5) (x2:t4):Gt (d+1) l1 x2 =
 Q8 (qm d l1 x2 (Gs d)) Qd (0,0):=by kernel_rfl
theorem e91 (d:Nat) (x1:t0) (x2:t4):Oj (d+1) x1 x2 =
 Q1 (Gt d x1.2.2.2.2.2.2.1 x2) fun r3 =>
 aa (decide (r3>=0)) (
 aa (decide (0<=r3)) (
 Q1 (x1.2.2.2.2.2.2.2.1[r3.toNat]?) fun n4 =>
 some n4) none) (
 some x1.2.2.2.2.2.2.2.2):=by kernel_rfl
noncomputable def jg (d:Nat) (n4:Int):Option Bool :=
 some (decide (((-1):Int)>=0))
noncomputable def dK (d:Nat) (l1:List t4) (n2:Int) (gk:Int->Option Bool) (bM:t10->Option Bool) (s:t10):Option Bool :=
(fun n4 n5 =>
 aa (decide (n5 < (l1.length:Int))) (
 aa (decide (0<=n5)) (
 Q1 (l1[n5.toNat]?) fun x6 =>
 aa (x6.1==n2) (
 some (decide (n5>=0))) (
 bM (n4,(i64.wrap (n5+1))))) none) (
 gk n4)) s.1 s.2
theorem T0 (d:Nat) (l1:List t4) (n2:Int):Gu (d+4) l1 n2 =
 Q8 (dK d l1 n2 (jg d)) Qd (0,0):=by kernel_rfl
noncomputable def KZ (d:Nat) (b3:Bool):Option Bool :=
 some true
noncomputable def yY (d:Nat) (l1:List t4) (yZ:Bool->Option Bool) (bV:t9->Option Bool) (s:t9):Option Bool :=
(fun (b3:Bool) n4 =>
 aa (decide (n4 < (l1.length:Int))) (
 aa (decide (0<=n4)) (
 Q1 (l1[n4.toNat]?) fun x5 =>
 Q1 (Oi d x5) fun r6 =>
 aa (!r6) (
 some false) (
 aa (decide (0<=n4)) (
 aa (Nat.ble (n4.toNat) l1.length) (
 Q1 (Gu d (l1.take (n4.toNat)) x5.1) fun r7 =>
 aa r7 (
 some false) (
 bV (b3,(i64.wrap (n4+1))))) none) none)) none) (
 yZ b3)) s.1 s.2
theorem e92 (d:Nat) (l1:List t4):T1 (d+1) l1 =
 Q8 (yY d l1 (KZ d)) Qd (false,0):=by kernel_rfl
noncomputable def DQ (d:Nat) (l5:List t4):Option (List t4) :=
 some l5
noncomputable def rO (d:Nat) (l1:List (List t4)) (jh:(List t4)->Option (List t4)) (ja:((List t4)×Int)->Option (List t4)) (s:((List t4)×Int)):Option (List t4) :=
(fun (l5:List t4) n6 =>
 aa (decide (n6 < (l1.length:Int))) (
 aa (decide (0<=n6)) (
 Q1 (l1[n6.toNat]?) fun l7 =>
 aa (Nat.ble ((l5.length+l7.length)*48) Q7) (
 ja ((l5++l7),(i64.wrap (n6+1)))) none) none) (
 jh l5)) s.1 s.2
noncomputable def DR (d:Nat) (l9:List t4):Option (List t4) :=
 some l9
noncomputable def lR (d:Nat) (l1:List (List t4)) (jh:(List t4)->Option (List t4)) (xR:((List t4)×Int)->Option (List t4)) (s:((List t4)×Int)):Option (List t4) :=
(fun (l9:List t4) dS =>
 aa (decide (dS < (l1.length:Int))) (
 aa (decide (0<=dS)) (
 Q1 (l1[dS.toNat]?) fun kY =>
 aa (Nat.ble ((l9.length+kY.length)*48) Q7) (
 xR ((l9++kY),(i64.wrap (dS+1)))) none) none) (
 jh l9)) s.1 s.2
noncomputable def rP (d:Nat) (l1:List (List t4)) (n3:Int):Option (List t4) :=
 aa (decide (n3 < 0)) (
 none) (
 aa (decide (((i64.wrap (n3 - (i64.wrap ((0:Int) - ((0:Nat):Int))))):Int) > 0)) (
 aa (Nat.ble 0 0) (
 aa (decide (0<=((i64.wrap (n3 - (i64.wrap ((0:Int) - ((0:Nat):Int))))):Int))&&decide (((i64.wrap (n3 - (i64.wrap ((0:Int) - ((0:Nat):Int))))):Int)*((48:Nat):Int)<=(Q7:Int))) (
 aa (Nat.ble ((List.replicate ((i64.wrap (n3 - (i64.wrap ((0:Int) - ((0:Nat):Int))))):Int).toNat ((0,0,0,0,0,0):t4)).length*48) Q7) (
 aa (decide (0<=(((0:Nat):Int):Int))) (
 aa (Nat.ble ((((0:Nat):Int):Int).toNat) ((List.replicate ((i64.wrap (n3 - (i64.wrap ((0:Int) - ((0:Nat):Int))))):Int).toNat ((0,0,0,0,0,0):t4)).length)) (
 Q8 (rO d l1 (DQ d)) Qd (((List.replicate ((i64.wrap (n3 - (i64.wrap ((0:Int) - ((0:Nat):Int))))):Int).toNat ((0,0,0,0,0,0):t4)).take ((((0:Nat):Int):Int).toNat)),0)) none) none) none) none) none) (
 Q8 (lR d l1 (DR d)) Qd ([],0)))
noncomputable def rQ (d:Nat) (l1:List (List t4)) (y_:Int->Option (List t4)) (bV:t10->Option (List t4)) (s:t10):Option (List t4) :=
(fun n3 n4 =>
 aa (decide (n4 < (l1.length:Int))) (
 aa (decide (0<=n4)) (
 Q1 (l1[n4.toNat]?) fun l5 =>
 aa (decide (((i64.wrap (n3+(l5.length:Int))):Int) < 0)) (
 none) (
 bV ((i64.wrap (n3+(l5.length:Int))),(i64.wrap (n4+1))))) none) (
 y_ n3)) s.1 s.2
theorem e93 (d:Nat) (l1:List (List t4)):T2 (d+2) l1 =
 Q8 (rQ d l1 (rP d l1)) Qd (0,0):=by kernel_rfl
noncomputable def za (d:Nat) (x1:t2) (b6:Bool):Option Bool :=
 Q1 (T2 d x1.2.2.1) fun r7 =>
 Q1 (T1 d r7) fun r8 =>
 some r8
noncomputable def DS (d:Nat) (gQ:t9->Option Bool) (n7:Int) (vA:Bool) (nq:Int):Option Bool :=
 gQ (vA,(i64.wrap (n7+1)))
noncomputable def zb (d:Nat) (x1:t2) (n8:Int) (kY:List t4) (zc:Bool->Int->Option Bool) (FL:t9->Option Bool) (s:t9):Option Bool :=
(fun (vA:Bool) nq =>
 aa (decide (nq < (kY.length:Int))) (
 aa (decide (0<=nq)) (
 Q1 (kY[nq.toNat]?) fun Tt =>
 Q1 (Oi d Tt) fun oY =>
 aa (!oY) (
 some false) (
 Q1 (Oj d x1.1 Tt) fun Fw =>
 aa (Fw != n8) (
 some false) (
 FL (vA,(i64.wrap (nq+1)))))) none) (
 zc vA nq)) s.1 s.2
noncomputable def zd (d:Nat) (x1:t2) (r3:List Int) (ze:Bool->Option Bool) (gQ:t9->Option Bool) (s:t9):Option Bool :=
(fun (b6:Bool) n7 =>
 aa (decide (n7 < (r3.length:Int))) (
 aa (decide (0<=n7)) (
 aa (Nat.blt (n7.toNat) r3.length) (
 Q1 (r3[n7.toNat]?) fun n8 =>
 aa (decide (0<=n7)) (
 Q1 (x1.2.2.1[n7.toNat]?) fun l9 =>
 aa (decide (0<=n8)) (
 Q1 (x1.1.2.1[n8.toNat]?) fun aR =>
 aa (decide ((l9.length:Int) > aR.2.2.2.2.2.2.2)) (
 some false) (
 aa (decide (0<=n7)) (
 Q1 (x1.2.2.1[n7.toNat]?) fun kY =>
 Q8 (zb d x1 n8 kY (DS d gQ n7)) Qd (b6,0)) none)) none) none) none) none) (
 ze b6)) s.1 s.2
noncomputable def ki (d:Nat) (x1:t2) (r3:List Int) (b4:Bool):Option Bool :=
 aa b4 (
 some false) (
 Q8 (zd d x1 r3 (za d x1)) Qd (false,0))
noncomputable def zf (d:Nat) (x1:t2) (b2:Bool):Option Bool :=
 aa b2 (
 some false) (
 Q1 (DO d x1.1) fun r3 =>
 aa ((x1.2.2.1.length:Int) != (r3.length:Int)) (
 ki d x1 r3 true) (
 aa (decide (x1.2.2.2.1 < (-1))) (
 ki d x1 r3 true) (
 aa (decide (x1.2.2.2.1>=(r3.length:Int))) (
 ki d x1 r3 true) (
 aa (decide (x1.2.2.2.2 < 0)) (
 ki d x1 r3 true) (
 ki d x1 r3 (decide (x1.2.2.2.2 > 1000000)))))))
theorem e42 (d:Nat) (x1:t2):Ol (d+1) x1 =
 Q1 (TW d x1.1) fun r2 =>
 aa (!r2) (
 zf d x1 true) (
 Q1 (TX d x1.1 x1.2.1) fun r3 =>
 zf d x1 (!r3)):=by kernel_rfl
noncomputable def K0 (d:Nat) (l3 l4:List Int):Option t7 :=
 some (l3,l4)
noncomputable def zg (d:Nat) (x1:t0) (zh:(List Int)->(List Int)->Option t7) (bV:(Int×t7)->Option t7) (s:(Int×t7)):Option t7 :=
(fun n3 (x4:t7) =>
 aa (decide (n3 < (x1.2.1.length:Int))) (
 aa (decide (0<=n3)) (
 Q1 (x1.2.1[n3.toNat]?) fun x5 =>
 aa (Nat.ble ((x4.1.length+[x5.2.2.2.2.1].length)*8) Q7) (
 aa (Nat.ble ((x4.2.length+[x5.2.2.2.2.2.1].length)*8) Q7) (
 bV ((i64.wrap (n3+1)),((x4.1++[x5.2.2.2.2.1]),(x4.2++[x5.2.2.2.2.2.1])))) none) none) none) (
 zh x4.1 x4.2)) s.1 s.2
theorem e96 (d:Nat) (x1:t0):T3 (d+1) x1 =
 Q8 (zg d x1 (K0 d)) Qd (0,([],[])):=by kernel_rfl
noncomputable def uE (d:Nat) (x1:t2) (r3:t0) (l7 l8 l10:List Int) (kY:List (List t4)) (eA:Int):Option t8 :=
 some ((r3,(l7,l8),kY,(-1),x1.2.2.2.2),l10)
noncomputable def gP (d:Nat) (x1:t2) (r3:t0) (l7 l8 l10:List Int) (kY:List (List t4)) (mE:t1) (vB:List Int) (lS:Int->Option t8) (FA:t10->Option t8) (s:t10):Option t8 :=
(fun eA eJ =>
 aa (decide (eJ < (vB.length:Int))) (
 aa (decide (0<=eJ)) (
 aa (Nat.blt (eJ.toNat) vB.length) (
 Q1 (vB[eJ.toNat]?) fun tK =>
 aa (decide (0<=tK)) (
 aa (Nat.blt (tK.toNat) r3.2.1.length) (
 Q1 (r3.2.1[tK.toNat]?) fun BN =>
 aa (BN.1==mE.1) (
 some ((r3,(l7,l8),kY,eJ,x1.2.2.2.2),l10)) (
 FA (eA,(i64.wrap (eJ+1))))) none) none) none) none) (
 lS eA)) s.1 s.2
noncomputable def wz (d:Nat) (x1:t2) (r3:t0) (l7 l8 l10:List Int) (kY:List (List t4)):Option t8 :=
 aa (decide (x1.2.2.2.1>=0)) (
 Q1 (DO (d+2) x1.1) fun mG =>
 aa (decide (0<=x1.2.2.2.1)) (
 aa (Nat.blt (x1.2.2.2.1.toNat) mG.length) (
 Q1 (mG[x1.2.2.2.1.toNat]?) fun jM =>
 aa (decide (0<=jM)) (
 Q1 (x1.1.2.1[jM.toNat]?) fun mE =>
 Q1 (DO (d+2) r3) fun vB =>
 Q8 (gP d x1 r3 l7 l8 l10 kY mE vB (uE d x1 r3 l7 l8 l10 kY)) Qd (0,0)) none) none) none) (
 some ((r3,(l7,l8),kY,(-1),x1.2.2.2.2),l10))
noncomputable def Di (d:Nat) (DM:t12->Option t8) (iy gC:Int) (pK:List Int) (gd:List (List t4)):Option t8 :=
 DM (pK,(i64.wrap (iy+1)),gd)
noncomputable def dH (d:Nat) (iz:t12->Option t8) (ia:List Int) (dJ:Int) (fQ:t4) (tK n20:Int) (eR:List (List t4)):Option t8 :=
 aa (tK != 1) (
 aa (Nat.ble ((ia.length+[fQ.1].length)*8) Q7) (
 iz ((ia++[fQ.1]),(i64.wrap (dJ+1)),eR)) none) (
 iz (ia,(i64.wrap (dJ+1)),eR))
noncomputable def rm (d:Nat) (r3:t0) (fR:List t4) (zi:Int->(List Int)->(List (List t4))->Option t8) (iz:t12->Option t8) (s:t12):Option t8 :=
(fun (ia:List Int) dJ (gd:List (List t4)) =>
 aa (decide (dJ < (fR.length:Int))) (
 aa (decide (0<=dJ)) (
 Q1 (fR[dJ.toNat]?) fun fQ =>
 Q1 (Oj (d+1) r3 fQ) fun vD =>
 aa (decide (vD < 0)) (
 dH d iz ia dJ fQ 3 0 gd) (
 aa (decide (0<=vD)) (
 aa (Nat.blt (vD.toNat) r3.2.1.length) (
 Q1 (r3.2.1[vD.toNat]?) fun BN =>
 Q1 (DO (d+1) r3) fun r21 =>
 Q1 (xV (d+1) r21 vD) fun rJ =>
 aa (decide (0<=rJ)) (
 aa (Nat.blt (rJ.toNat) gd.length) (
 Q1 (gd[rJ.toNat]?) fun vC =>
 aa ((vC.length:Int)==BN.2.2.2.2.2.2.2) (
 dH d iz ia dJ fQ 2 BN.1 gd) (
 aa (decide (0<=rJ)) (
 aa (Nat.blt (rJ.toNat) gd.length) (
 Q1 (gd[rJ.toNat]?) fun rG =>
 aa (Nat.ble ((rG.length+[fQ].length)*48) Q7) (
 aa (decide (0<=rJ)) (
 aa (Nat.blt (rJ.toNat) gd.length) (
 aa (Nat.beq (rJ.toNat) (rJ.toNat)) (
 Q1 (gd[rJ.toNat]?) fun DH =>
 dH d iz ia dJ fQ 1 BN.1 (gd.set (rJ.toNat) (rG++[fQ]))) none) none) none) none) none) none)) none) none) none) none)) none) (
 zi dJ ia gd)) s.1 s.2.1 s.2.2
noncomputable def ru (d:Nat) (x1:t2) (r3:t0) (zj:(List Int)->(List (List t4))->Option t8) (DM:t12->Option t8) (s:t12):Option t8 :=
(fun (l10:List Int) iy (DI:List (List t4)) =>
 aa (decide (iy < (x1.2.2.1.length:Int))) (
 aa (decide (0<=iy)) (
 Q1 (x1.2.2.1[iy.toNat]?) fun fR =>
 Q8 (rm d r3 fR (Di d DM iy)) Qd (l10,0,DI)) none) (
 zj l10 DI)) s.1 s.2.1 s.2.2
noncomputable def Dj (d:Nat) (x1:t2) (r3:t0) (r5 l7 l8:List Int):Option t8 :=
 Q8 (ru d x1 r3 (wz d x1 r3 l7 l8)) Qd (([]:List Int),0,(List.replicate ((r5.length:Int).toNat) ([]:List t4)))
noncomputable def dG (d:Nat) (x1:t2) (gb:t16->Option t8) (n7:Int) (l8 l9:List Int) (aR:t1) (iy:Int):Option t8 :=
 aa (decide (iy>=0)) (
 aa (decide (0<=iy)) (
 Q1 (x1.2.1.1[iy.toNat]?) fun tM =>
 aa (decide (0<=n7)) (
 aa (Nat.blt (n7.toNat) l8.length) (
 Q1 (l8[n7.toNat]?) fun jM =>
 aa (decide (0<=iy)) (
 Q1 (x1.2.1.2[iy.toNat]?) fun nq =>
 aa (decide (0<=n7)) (
 aa (Nat.blt (n7.toNat) l9.length) (
 Q1 (l9[n7.toNat]?) fun gC =>
 gb ((i64.wrap (n7+1)),(l8.set (n7.toNat) (if aR.2.2.2.2.1 < tM then aR.2.2.2.2.1 else tM)),(l9.set (n7.toNat) (if aR.2.2.2.2.2.1 < nq then aR.2.2.2.2.2.1 else nq)))) none) none) none) none) none) none) (
 gb ((i64.wrap (n7+1)),l8,l9))
noncomputable def zl (d:Nat) (x1:t2) (gb:t16->Option t8) (n7:Int) (l8 l9:List Int) (aR:t1) (tM:Int):Option t8 :=
 dG d x1 gb n7 l8 l9 aR (-1)
noncomputable def iW (d:Nat) (x1:t2) (gb:t16->Option t8) (n7:Int) (l8 l9:List Int) (aR:t1) (nD:Int->Option t8) (T4:t10->Option t8) (s:t10):Option t8 :=
(fun tM jM =>
 aa (decide (jM < (x1.1.2.1.length:Int))) (
 aa (decide (0<=jM)) (
 Q1 (x1.1.2.1[jM.toNat]?) fun mE =>
 aa (mE.1==aR.1) (
 dG d x1 gb n7 l8 l9 aR jM) (
 T4 (tM,(i64.wrap (jM+1))))) none) (
 nD tM)) s.1 s.2
noncomputable def rj (d:Nat) (x1:t2) (r3:t0) (zm:(List Int)->(List Int)->Option t8) (gb:t16->Option t8) (s:t16):Option t8 :=
(fun n7 (l8:List Int) (l9:List Int) =>
 aa (decide (n7 < (r3.2.1.length:Int))) (
 aa (decide (0<=n7)) (
 aa (Nat.blt (n7.toNat) r3.2.1.length) (
 Q1 (r3.2.1[n7.toNat]?) fun aR =>
 Q8 (iW d x1 gb n7 l8 l9 aR (zl d x1 gb n7 l8 l9 aR)) Qd (0,0)) none) none) (
 zm l8 l9)) s.1 s.2.1 s.2.2
theorem e44 (d:Nat) (x1:t2) (x2:t3):RI (d+3) x1 x2 =
 Q1 (Oh (d+2) x2) fun r3 =>
 Q1 (T3 (d+2) r3) fun r4 =>
 Q1 (DO (d+2) r3) fun r5 =>
 aa (decide (0<=(r5.length:Int))) (
 aa (decide (0<=(r5.length:Int))) (
 aa (Nat.ble ((r5.length:Int).toNat) ((r5.length:Int).toNat)&&Nat.ble (((r5.length:Int).toNat)*24) Q7) (
 Q8 (rj d x1 r3 (Dj d x1 r3 r5)) Qd (0,r4.1,r4.2)) none) none) none:=by kernel_rfl
theorem e12 (d:Nat) (x1:t2) (x2:t3):g12 (d+1) x1 x2 =
 Q1 (Ol d x1) fun r3 =>
 aa (!r3) (
 some ((((⟨#[]⟩:ByteArray),[],[],[],[],[],[],[],0),([],[]),[],0,0),[],false)) (
 Q1 (Oc d x2) fun r4 =>
 aa (!r4) (
 some ((((⟨#[]⟩:ByteArray),[],[],[],[],[],[],[],0),([],[]),[],0,0),[],false)) (
 Q1 (RI d x1 x2) fun r5 =>
 some (r5.1,r5.2,true))):=by kernel_rfl
theorem e24 (d:Nat) (x1:t2) (n2:Int):g24 (d+3) x1 n2 =
 Q1 (Ol (d+1) x1) fun r3 =>
 aa (!r3) (
 some ((((⟨#[]⟩:ByteArray),[],[],[],[],[],[],[],0),([],[]),[],0,0),[],false)) (
 Q1 (KL (d+1) x1.1) fun r4 =>
 Q1 (g12 (d+1) x1 (r4.1,r4.2.1,r4.2.2.1,n2)) fun r5 =>
 some (r5.1,r5.2.1,r5.2.2)):=by kernel_rfl
noncomputable def zn (d:Nat) (n4:Int) (l5:List t5):Option (Int×(List t5)) :=
 some (n4,l5)
noncomputable def rR (d:Nat) (zo:Int->(List t5)->Option (Int×(List t5))) (bM:(Int×Int×(List t5))->Option (Int×(List t5))) (s:(Int×Int×(List t5))):Option (Int×(List t5)) :=
(fun n4 n5 (l6:List t5) =>
 aa (decide (n5 < (l6.length:Int))) (
 aa (decide (0<=n5)) (
 aa (Nat.blt (n5.toNat) l6.length) (
 Q1 (l6[n5.toNat]?) fun x7 =>
 aa (decide (0<=n5)) (
 aa (Nat.blt (n5.toNat) ((l6.set (n5.toNat) (n4,x7.2)).length)) (
 Q1 ((l6.set (n5.toNat) (n4,x7.2))[n5.toNat]?) fun x8 =>
 aa (decide (0<=n5)) (
 aa (Nat.blt (n5.toNat) (((l6.set (n5.toNat) (n4,x7.2)).set (n5.toNat) (x8.1,(i64.wrap (n4+1)),x8.2.2)).length)) (
 Q1 (((l6.set (n5.toNat) (n4,x7.2)).set (n5.toNat) (x8.1,(i64.wrap (n4+1)),x8.2.2))[n5.toNat]?) fun x9 =>
 aa (decide (0<=n5)) (
 aa (Nat.blt (n5.toNat) ((((l6.set (n5.toNat) (n4,x7.2)).set (n5.toNat) (x8.1,(i64.wrap (n4+1)),x8.2.2)).set (n5.toNat) (x9.1,x9.2.1,(i64.wrap ((i64.wrap (n4+1))+1)),x9.2.2.2)).length)) (
 Q1 ((((l6.set (n5.toNat) (n4,x7.2)).set (n5.toNat) (x8.1,(i64.wrap (n4+1)),x8.2.2)).set (n5.toNat) (x9.1,x9.2.1,(i64.wrap ((i64.wrap (n4+1))+1)),x9.2.2.2))[n5.toNat]?) fun aR =>
 aa (decide (0<=n5)) (
 aa (Nat.blt (n5.toNat) (((((l6.set (n5.toNat) (n4,x7.2)).set (n5.toNat) (x8.1,(i64.wrap (n4+1)),x8.2.2)).set (n5.toNat) (x9.1,x9.2.1,(i64.wrap ((i64.wrap (n4+1))+1)),x9.2.2.2)).set (n5.toNat) (aR.1,aR.2.1,aR.2.2.1,(i64.wrap ((i64.wrap ((i64.wrap (n4+1))+1))+1)),aR.2.2.2.2)).length)) (
 Q1 (((((l6.set (n5.toNat) (n4,x7.2)).set (n5.toNat) (x8.1,(i64.wrap (n4+1)),x8.2.2)).set (n5.toNat) (x9.1,x9.2.1,(i64.wrap ((i64.wrap (n4+1))+1)),x9.2.2.2)).set (n5.toNat) (aR.1,aR.2.1,aR.2.2.1,(i64.wrap ((i64.wrap ((i64.wrap (n4+1))+1))+1)),aR.2.2.2.2))[n5.toNat]?) fun bP =>
 bM ((i64.wrap ((i64.wrap ((i64.wrap ((i64.wrap ((i64.wrap (n4+1))+1))+1))+1))+1)),(i64.wrap (n5+1)),(((((l6.set (n5.toNat) (n4,x7.2)).set (n5.toNat) (x8.1,(i64.wrap (n4+1)),x8.2.2)).set (n5.toNat) (x9.1,x9.2.1,(i64.wrap ((i64.wrap (n4+1))+1)),x9.2.2.2)).set (n5.toNat) (aR.1,aR.2.1,aR.2.2.1,(i64.wrap ((i64.wrap ((i64.wrap (n4+1))+1))+1)),aR.2.2.2.2)).set (n5.toNat) (bP.1,bP.2.1,bP.2.2.1,bP.2.2.2.1,(i64.wrap ((i64.wrap ((i64.wrap ((i64.wrap (n4+1))+1))+1))+1)))))) none) none) none) none) none) none) none) none) none) none) (
 zo n4 l6)) s.1 s.2.1 s.2.2
theorem e30 (d:Nat) (l1:List t5) (n2:Int):Om (d+1) l1 n2 =
 Q8 (rR d (zn d)) Qd (n2,0,l1):=by kernel_rfl
noncomputable def zq (d:Nat) (n4:Int) (l5:List t1):Option t13 :=
 some (n4,l5)
noncomputable def rS (d:Nat) (zu:Int->(List t1)->Option t13) (bM:(Int×Int×(List t1))->Option t13) (s:(Int×Int×(List t1))):Option t13 :=
(fun n4 n5 (l6:List t1) =>
 aa (decide (n5 < (l6.length:Int))) (
 aa (decide (0<=n5)) (
 aa (Nat.blt (n5.toNat) l6.length) (
 Q1 (l6[n5.toNat]?) fun x7 =>
 aa (decide (0<=n5)) (
 aa (Nat.blt (n5.toNat) ((l6.set (n5.toNat) (n4,x7.2)).length)) (
 Q1 ((l6.set (n5.toNat) (n4,x7.2))[n5.toNat]?) fun x8 =>
 aa (decide (0<=n5)) (
 aa (Nat.blt (n5.toNat) (((l6.set (n5.toNat) (n4,x7.2)).set (n5.toNat) (x8.1,(i64.wrap (n4+1)),x8.2.2)).length)) (
 Q1 (((l6.set (n5.toNat) (n4,x7.2)).set (n5.toNat) (x8.1,(i64.wrap (n4+1)),x8.2.2))[n5.toNat]?) fun x9 =>
 aa (decide (0<=n5)) (
 aa (Nat.blt (n5.toNat) ((((l6.set (n5.toNat) (n4,x7.2)).set (n5.toNat) (x8.1,(i64.wrap (n4+1)),x8.2.2)).set (n5.toNat) (x9.1,x9.2.1,(i64.wrap ((i64.wrap (n4+1))+1)),x9.2.2.2)).length)) (
 Q1 ((((l6.set (n5.toNat) (n4,x7.2)).set (n5.toNat) (x8.1,(i64.wrap (n4+1)),x8.2.2)).set (n5.toNat) (x9.1,x9.2.1,(i64.wrap ((i64.wrap (n4+1))+1)),x9.2.2.2))[n5.toNat]?) fun aR =>
 aa (decide (0<=n5)) (
 aa (Nat.blt (n5.toNat) (((((l6.set (n5.toNat) (n4,x7.2)).set (n5.toNat) (x8.1,(i64.wrap (n4+1)),x8.2.2)).set (n5.toNat) (x9.1,x9.2.1,(i64.wrap ((i64.wrap (n4+1))+1)),x9.2.2.2)).set (n5.toNat) (aR.1,aR.2.1,aR.2.2.1,(i64.wrap ((i64.wrap ((i64.wrap (n4+1))+1))+1)),aR.2.2.2.2)).length)) (
 Q1 (((((l6.set (n5.toNat) (n4,x7.2)).set (n5.toNat) (x8.1,(i64.wrap (n4+1)),x8.2.2)).set (n5.toNat) (x9.1,x9.2.1,(i64.wrap ((i64.wrap (n4+1))+1)),x9.2.2.2)).set (n5.toNat) (aR.1,aR.2.1,aR.2.2.1,(i64.wrap ((i64.wrap ((i64.wrap (n4+1))+1))+1)),aR.2.2.2.2))[n5.toNat]?) fun bP =>
 aa (decide (0<=n5)) (
 aa (Nat.blt (n5.toNat) ((((((l6.set (n5.toNat) (n4,x7.2)).set (n5.toNat) (x8.1,(i64.wrap (n4+1)),x8.2.2)).set (n5.toNat) (x9.1,x9.2.1,(i64.wrap ((i64.wrap (n4+1))+1)),x9.2.2.2)).set (n5.toNat) (aR.1,aR.2.1,aR.2.2.1,(i64.wrap ((i64.wrap ((i64.wrap (n4+1))+1))+1)),aR.2.2.2.2)).set (n5.toNat) (bP.1,bP.2.1,bP.2.2.1,bP.2.2.2.1,(i64.wrap ((i64.wrap ((i64.wrap ((i64.wrap (n4+1))+1))+1))+1)),bP.2.2.2.2.2)).length)) (
 Q1 ((((((l6.set (n5.toNat) (n4,x7.2)).set (n5.toNat) (x8.1,(i64.wrap (n4+1)),x8.2.2)).set (n5.toNat) (x9.1,x9.2.1,(i64.wrap ((i64.wrap (n4+1))+1)),x9.2.2.2)).set (n5.toNat) (aR.1,aR.2.1,aR.2.2.1,(i64.wrap ((i64.wrap ((i64.wrap (n4+1))+1))+1)),aR.2.2.2.2)).set (n5.toNat) (bP.1,bP.2.1,bP.2.2.1,bP.2.2.2.1,(i64.wrap ((i64.wrap ((i64.wrap ((i64.wrap (n4+1))+1))+1))+1)),bP.2.2.2.2.2))[n5.toNat]?) fun dz =>
 aa (decide (0<=n5)) (
 aa (Nat.blt (n5.toNat) (((((((l6.set (n5.toNat) (n4,x7.2)).set (n5.toNat) (x8.1,(i64.wrap (n4+1)),x8.2.2)).set (n5.toNat) (x9.1,x9.2.1,(i64.wrap ((i64.wrap (n4+1))+1)),x9.2.2.2)).set (n5.toNat) (aR.1,aR.2.1,aR.2.2.1,(i64.wrap ((i64.wrap ((i64.wrap (n4+1))+1))+1)),aR.2.2.2.2)).set (n5.toNat) (bP.1,bP.2.1,bP.2.2.1,bP.2.2.2.1,(i64.wrap ((i64.wrap ((i64.wrap ((i64.wrap (n4+1))+1))+1))+1)),bP.2.2.2.2.2)).set (n5.toNat) (dz.1,dz.2.1,dz.2.2.1,dz.2.2.2.1,dz.2.2.2.2.1,(i64.wrap ((i64.wrap ((i64.wrap ((i64.wrap ((i64.wrap (n4+1))+1))+1))+1))+1)),dz.2.2.2.2.2.2)).length)) (
 Q1 (((((((l6.set (n5.toNat) (n4,x7.2)).set (n5.toNat) (x8.1,(i64.wrap (n4+1)),x8.2.2)).set (n5.toNat) (x9.1,x9.2.1,(i64.wrap ((i64.wrap (n4+1))+1)),x9.2.2.2)).set (n5.toNat) (aR.1,aR.2.1,aR.2.2.1,(i64.wrap ((i64.wrap ((i64.wrap (n4+1))+1))+1)),aR.2.2.2.2)).set (n5.toNat) (bP.1,bP.2.1,bP.2.2.1,bP.2.2.2.1,(i64.wrap ((i64.wrap ((i64.wrap ((i64.wrap (n4+1))+1))+1))+1)),bP.2.2.2.2.2)).set (n5.toNat) (dz.1,dz.2.1,dz.2.2.1,dz.2.2.2.1,dz.2.2.2.2.1,(i64.wrap ((i64.wrap ((i64.wrap ((i64.wrap ((i64.wrap (n4+1))+1))+1))+1))+1)),dz.2.2.2.2.2.2))[n5.toNat]?) fun gB =>
 aa (decide (0<=n5)) (
 aa (Nat.blt (n5.toNat) ((((((((l6.set (n5.toNat) (n4,x7.2)).set (n5.toNat) (x8.1,(i64.wrap (n4+1)),x8.2.2)).set (n5.toNat) (x9.1,x9.2.1,(i64.wrap ((i64.wrap (n4+1))+1)),x9.2.2.2)).set (n5.toNat) (aR.1,aR.2.1,aR.2.2.1,(i64.wrap ((i64.wrap ((i64.wrap (n4+1))+1))+1)),aR.2.2.2.2)).set (n5.toNat) (bP.1,bP.2.1,bP.2.2.1,bP.2.2.2.1,(i64.wrap ((i64.wrap ((i64.wrap ((i64.wrap (n4+1))+1))+1))+1)),bP.2.2.2.2.2)).set (n5.toNat) (dz.1,dz.2.1,dz.2.2.1,dz.2.2.2.1,dz.2.2.2.2.1,(i64.wrap ((i64.wrap ((i64.wrap ((i64.wrap ((i64.wrap (n4+1))+1))+1))+1))+1)),dz.2.2.2.2.2.2)).set (n5.toNat) (gB.1,gB.2.1,gB.2.2.1,gB.2.2.2.1,gB.2.2.2.2.1,gB.2.2.2.2.2.1,(i64.wrap ((i64.wrap ((i64.wrap ((i64.wrap ((i64.wrap ((i64.wrap (n4+1))+1))+1))+1))+1))+1)),gB.2.2.2.2.2.2.2)).length)) (
 Q1 ((((((((l6.set (n5.toNat) (n4,x7.2)).set (n5.toNat) (x8.1,(i64.wrap (n4+1)),x8.2.2)).set (n5.toNat) (x9.1,x9.2.1,(i64.wrap ((i64.wrap (n4+1))+1)),x9.2.2.2)).set (n5.toNat) (aR.1,aR.2.1,aR.2.2.1,(i64.wrap ((i64.wrap ((i64.wrap (n4+1))+1))+1)),aR.2.2.2.2)).set (n5.toNat) (bP.1,bP.2.1,bP.2.2.1,bP.2.2.2.1,(i64.wrap ((i64.wrap ((i64.wrap ((i64.wrap (n4+1))+1))+1))+1)),bP.2.2.2.2.2)).set (n5.toNat) (dz.1,dz.2.1,dz.2.2.1,dz.2.2.2.1,dz.2.2.2.2.1,(i64.wrap ((i64.wrap ((i64.wrap ((i64.wrap ((i64.wrap (n4+1))+1))+1))+1))+1)),dz.2.2.2.2.2.2)).set (n5.toNat) (gB.1,gB.2.1,gB.2.2.1,gB.2.2.2.1,gB.2.2.2.2.1,gB.2.2.2.2.2.1,(i64.wrap ((i64.wrap ((i64.wrap ((i64.wrap ((i64.wrap ((i64.wrap (n4+1))+1))+1))+1))+1))+1)),gB.2.2.2.2.2.2.2))[n5.toNat]?) fun mE =>
 bM ((i64.wrap ((i64.wrap ((i64.wrap ((i64.wrap ((i64.wrap ((i64.wrap ((i64.wrap ((i64.wrap (n4+1))+1))+1))+1))+1))+1))+1))+1)),(i64.wrap (n5+1)),((((((((l6.set (n5.toNat) (n4,x7.2)).set (n5.toNat) (x8.1,(i64.wrap (n4+1)),x8.2.2)).set (n5.toNat) (x9.1,x9.2.1,(i64.wrap ((i64.wrap (n4+1))+1)),x9.2.2.2)).set (n5.toNat) (aR.1,aR.2.1,aR.2.2.1,(i64.wrap ((i64.wrap ((i64.wrap (n4+1))+1))+1)),aR.2.2.2.2)).set (n5.toNat) (bP.1,bP.2.1,bP.2.2.1,bP.2.2.2.1,(i64.wrap ((i64.wrap ((i64.wrap ((i64.wrap (n4+1))+1))+1))+1)),bP.2.2.2.2.2)).set (n5.toNat) (dz.1,dz.2.1,dz.2.2.1,dz.2.2.2.1,dz.2.2.2.2.1,(i64.wrap ((i64.wrap ((i64.wrap ((i64.wrap ((i64.wrap (n4+1))+1))+1))+1))+1)),dz.2.2.2.2.2.2)).set (n5.toNat) (gB.1,gB.2.1,gB.2.2.1,gB.2.2.2.1,gB.2.2.2.2.1,gB.2.2.2.2.2.1,(i64.wrap ((i64.wrap ((i64.wrap ((i64.wrap ((i64.wrap ((i64.wrap (n4+1))+1))+1))+1))+1))+1)),gB.2.2.2.2.2.2.2)).set (n5.toNat) (mE.1,mE.2.1,mE.2.2.1,mE.2.2.2.1,mE.2.2.2.2.1,mE.2.2.2.2.2.1,mE.2.2.2.2.2.2.1,(i64.wrap ((i64.wrap ((i64.wrap ((i64.wrap ((i64.wrap ((i64.wrap ((i64.wrap (n4+1))+1))+1))+1))+1))+1))+1)))))) none) none) none) none) none) none) none) none) none) none) none) none) none) none) none) none) (
 zu n4 l6)) s.1 s.2.1 s.2.2
theorem e52 (d:Nat) (l1:List t1) (n2:Int):On (d+1) l1 n2 =
 Q8 (rS d (zq d)) Qd (n2,0,l1):=by kernel_rfl
noncomputable def qn (d:Nat) (n4:Int) (l5:List t4):Option (Int×(List t4)) :=
 some (n4,l5)
noncomputable def lT (d:Nat) (uF:Int->(List t4)->Option (Int×(List t4))) (bM:(Int×Int×(List t4))->Option (Int×(List t4))) (s:(Int×Int×(List t4))):Option (Int×(List t4)) :=
(fun n4 n5 (l6:List t4) =>
 aa (decide (n5 < (l6.length:Int))) (
 aa (decide (0<=n5)) (
 aa (Nat.blt (n5.toNat) l6.length) (
 Q1 (l6[n5.toNat]?) fun x7 =>
 aa (decide (0<=n5)) (
 aa (Nat.blt (n5.toNat) ((l6.set (n5.toNat) (n4,x7.2)).length)) (
 Q1 ((l6.set (n5.toNat) (n4,x7.2))[n5.toNat]?) fun x8 =>
 aa (decide (0<=n5)) (
 aa (Nat.blt (n5.toNat) (((l6.set (n5.toNat) (n4,x7.2)).set (n5.toNat) (x8.1,(i64.wrap (n4+1)),x8.2.2)).length)) (
 Q1 (((l6.set (n5.toNat) (n4,x7.2)).set (n5.toNat) (x8.1,(i64.wrap (n4+1)),x8.2.2))[n5.toNat]?) fun x9 =>
 aa (decide (0<=n5)) (
 aa (Nat.blt (n5.toNat) ((((l6.set (n5.toNat) (n4,x7.2)).set (n5.toNat) (x8.1,(i64.wrap (n4+1)),x8.2.2)).set (n5.toNat) (x9.1,x9.2.1,(i64.wrap ((i64.wrap (n4+1))+1)),x9.2.2.2)).length)) (
 Q1 ((((l6.set (n5.toNat) (n4,x7.2)).set (n5.toNat) (x8.1,(i64.wrap (n4+1)),x8.2.2)).set (n5.toNat) (x9.1,x9.2.1,(i64.wrap ((i64.wrap (n4+1))+1)),x9.2.2.2))[n5.toNat]?) fun aR =>
 aa (decide (0<=n5)) (
 aa (Nat.blt (n5.toNat) (((((l6.set (n5.toNat) (n4,x7.2)).set (n5.toNat) (x8.1,(i64.wrap (n4+1)),x8.2.2)).set (n5.toNat) (x9.1,x9.2.1,(i64.wrap ((i64.wrap (n4+1))+1)),x9.2.2.2)).set (n5.toNat) (aR.1,aR.2.1,aR.2.2.1,(i64.wrap ((i64.wrap ((i64.wrap (n4+1))+1))+1)),aR.2.2.2.2)).length)) (
 Q1 (((((l6.set (n5.toNat) (n4,x7.2)).set (n5.toNat) (x8.1,(i64.wrap (n4+1)),x8.2.2)).set (n5.toNat) (x9.1,x9.2.1,(i64.wrap ((i64.wrap (n4+1))+1)),x9.2.2.2)).set (n5.toNat) (aR.1,aR.2.1,aR.2.2.1,(i64.wrap ((i64.wrap ((i64.wrap (n4+1))+1))+1)),aR.2.2.2.2))[n5.toNat]?) fun bP =>
 aa (decide (0<=n5)) (
 aa (Nat.blt (n5.toNat) ((((((l6.set (n5.toNat) (n4,x7.2)).set (n5.toNat) (x8.1,(i64.wrap (n4+1)),x8.2.2)).set (n5.toNat) (x9.1,x9.2.1,(i64.wrap ((i64.wrap (n4+1))+1)),x9.2.2.2)).set (n5.toNat) (aR.1,aR.2.1,aR.2.2.1,(i64.wrap ((i64.wrap ((i64.wrap (n4+1))+1))+1)),aR.2.2.2.2)).set (n5.toNat) (bP.1,bP.2.1,bP.2.2.1,bP.2.2.2.1,(i64.wrap ((i64.wrap ((i64.wrap ((i64.wrap (n4+1))+1))+1))+1)),bP.2.2.2.2.2)).length)) (
 Q1 ((((((l6.set (n5.toNat) (n4,x7.2)).set (n5.toNat) (x8.1,(i64.wrap (n4+1)),x8.2.2)).set (n5.toNat) (x9.1,x9.2.1,(i64.wrap ((i64.wrap (n4+1))+1)),x9.2.2.2)).set (n5.toNat) (aR.1,aR.2.1,aR.2.2.1,(i64.wrap ((i64.wrap ((i64.wrap (n4+1))+1))+1)),aR.2.2.2.2)).set (n5.toNat) (bP.1,bP.2.1,bP.2.2.1,bP.2.2.2.1,(i64.wrap ((i64.wrap ((i64.wrap ((i64.wrap (n4+1))+1))+1))+1)),bP.2.2.2.2.2))[n5.toNat]?) fun dz =>
 bM ((i64.wrap ((i64.wrap ((i64.wrap ((i64.wrap ((i64.wrap ((i64.wrap (n4+1))+1))+1))+1))+1))+1)),(i64.wrap (n5+1)),((((((l6.set (n5.toNat) (n4,x7.2)).set (n5.toNat) (x8.1,(i64.wrap (n4+1)),x8.2.2)).set (n5.toNat) (x9.1,x9.2.1,(i64.wrap ((i64.wrap (n4+1))+1)),x9.2.2.2)).set (n5.toNat) (aR.1,aR.2.1,aR.2.2.1,(i64.wrap ((i64.wrap ((i64.wrap (n4+1))+1))+1)),aR.2.2.2.2)).set (n5.toNat) (bP.1,bP.2.1,bP.2.2.1,bP.2.2.2.1,(i64.wrap ((i64.wrap ((i64.wrap ((i64.wrap (n4+1))+1))+1))+1)),bP.2.2.2.2.2)).set (n5.toNat) (dz.1,dz.2.1,dz.2.2.1,dz.2.2.2.1,dz.2.2.2.2.1,(i64.wrap ((i64.wrap ((i64.wrap ((i64.wrap ((i64.wrap (n4+1))+1))+1))+1))+1)))))) none) none) none) none) none) none) none) none) none) none) none) none) (
 uF n4 l6)) s.1 s.2.1 s.2.2
theorem T5 (d:Nat) (l1:List t4) (n2:Int):zv (d+1) l1 n2 =
 Q8 (lT d (qn d)) Qd (n2,0,l1):=by kernel_rfl
noncomputable def BE (d:Nat) (r7:t14) (oP:t13) (BW ot BX yM:t11) (ur:(Int×(List t5))) (yN uq BY:t11) (iI:List (List t4)) (DT:t11) (Y6:Bool):Option Bool :=
 aa Y6 (
 some false) (
 Q1 (g19 (d+2) ((r7.1.1.1,oP.2,BW.2,ot.2,BX.2,yM.2,ur.2,yN.2,r7.1.1.2.2.2.2.2.2.2.2),(uq.2,BY.2),iI,r7.1.2.2.2) 1) fun Oo =>
 aa (decide (Oo < 0)) (
 some false) (
 Q1 (g20 (d+2) DT.2 Oo) fun Y7 =>
 aa (decide (Y7 < 0)) (
 some false) (
 aa (Y7 != DT.1) (
 some false) (
 some true))))
noncomputable def iZ (d:Nat) (x1:t2) (n2:Int) (r5 r7:t14) (oP:t13) (BW ot BX yM:t11) (ur:(Int×(List t5))) (yN uq BY:t11) (KF:Int) (iI:List (List t4)):Option Bool :=
 Q1 (g18 (d+2) r7.2.1 KF) fun DT =>
 Q1 (g19 (d+2) ((r7.1.1.1,oP.2,BW.2,ot.2,BX.2,yM.2,ur.2,yN.2,r7.1.1.2.2.2.2.2.2.2.2),(uq.2,BY.2),iI,r7.1.2.2.2) 1) fun KH =>
 aa (decide (KH < 0)) (
 some false) (
 Q1 (g20 (d+2) DT.2 KH) fun Y8 =>
 aa (decide (Y8 < 0)) (
 some false) (
 aa (Y8 != DT.1) (
 some false) (
 Q1 (g10 (d+2) x1) fun Oq =>
 Q1 (g24 (d+2) Oq n2) fun T6 =>
 Q1 (g13 (d+2) T6.1 r5.1) fun r41 =>
 aa (!r41) (
 BE d r7 oP BW ot BX yM ur yN uq BY iI DT true) (
 Q1 (g14 (d+2) T6.2.1 r5.2.1) fun Oo =>
 aa (!Oo) (
 BE d r7 oP BW ot BX yM ur yN uq BY iI DT true) (
 BE d r7 oP BW ot BX yM ur yN uq BY iI DT (!(T6.2.2==r5.2.2)))))))
noncomputable def qo (d:Nat) (eg:Int->(List (List t4))->Option Bool) (T7:(Int×Int×(List (List t4)))->Option Bool) (s:(Int×Int×(List (List t4)))):Option Bool :=
(fun KF Gv (lO:List (List t4)) =>
 aa (decide (Gv < (lO.length:Int))) (
 aa (decide (0<=Gv)) (
 aa (Nat.blt (Gv.toNat) lO.length) (
 Q1 (lO[Gv.toNat]?) fun IA =>
 Q1 (lO[Gv.toNat]?) fun rI =>
 aa (Nat.beq rI.length IA.length) (
 Q1 (zv d IA KF) fun Oq =>
 T7 (Oq.1,(i64.wrap (Gv+1)),(lO.set (Gv.toNat) Oq.2))) none) none) none) (
 eg KF lO)) s.1 s.2.1 s.2.2
noncomputable def wK (d:Nat) (x1:t2) (n2:Int) (r5 r7:t14) (b23:Bool):Option Bool :=
 aa b23 (
 some false) (
 Q1 (On d r7.1.1.2.1 1) fun oP =>
 Q1 (g18 d r7.1.1.2.2.1 oP.1) fun BW =>
 Q1 (g18 d r7.1.1.2.2.2.1 BW.1) fun ot =>
 Q1 (g18 d r7.1.1.2.2.2.2.1 ot.1) fun BX =>
 Q1 (g18 d r7.1.1.2.2.2.2.2.1 BX.1) fun yM =>
 Q1 (Om d r7.1.1.2.2.2.2.2.2.1 yM.1) fun ur =>
 Q1 (g18 d r7.1.1.2.2.2.2.2.2.2.1 ur.1) fun yN =>
 Q1 (g18 d r7.1.2.1.1 yN.1) fun uq =>
 Q1 (g18 d r7.1.2.1.2 uq.1) fun BY =>
 Q8 (qo d (iZ d x1 n2 r5 r7 oP BW ot BX yM ur yN uq BY)) Qd (BY.1,0,r7.1.2.2.1))
noncomputable def iY (d:Nat) (x1:t2) (n2:Int) (r5 r7:t14) (j7:Int) (DG:List (List t4)):Option Bool :=
 aa (decide (j7 < 0)) (
 wK d x1 n2 r5 r7 true) (
 Q1 (g13 (d+2) r7.1 r5.1) fun vF =>
 aa (!vF) (
 wK d x1 n2 r5 r7 true) (
 Q1 (g14 (d+2) r7.2.1 r5.2.1) fun oP =>
 aa (!oP) (
 wK d x1 n2 r5 r7 true) (
 wK d x1 n2 r5 r7 (!(r7.2.2==r5.2.2)))))
noncomputable def nE (d:Nat) (eg:Int->(List (List t4))->Option Bool) (T8:(Int×Int×(List (List t4)))->Option Bool) (s:(Int×Int×(List (List t4)))):Option Bool :=
(fun j7 BI (vC:List (List t4)) =>
 aa (decide (BI < (vC.length:Int))) (
 aa (decide (0<=BI)) (
 aa (Nat.blt (BI.toNat) vC.length) (
 Q1 (vC[BI.toNat]?) fun rG =>
 Q1 (vC[BI.toNat]?) fun DH =>
 aa (Nat.beq DH.length rG.length) (
 Q1 (zv d rG j7) fun ot =>
 T8 (ot.1,(i64.wrap (BI+1)),(vC.set (BI.toNat) ot.2))) none) none) none) (
 eg j7 vC)) s.1 s.2.1 s.2.2
noncomputable def BC (d:Nat) (x1:t2) (n2:Int) (r5:t14) (r6:t2) (r7:t14) (b8:Bool):Option Bool :=
 aa b8 (
 some false) (
 Q1 (g10 (d+2) x1) fun r9 =>
 Q1 (g13 (d+2) r6 r9) fun tC =>
 aa (!tC) (
 some false) (
 Q1 (On d r6.1.2.1 1) fun gS =>
 Q1 (g18 d r6.1.2.2.1 gS.1) fun mG =>
 Q1 (g18 d r6.1.2.2.2.1 mG.1) fun tN =>
 Q1 (g18 d r6.1.2.2.2.2.1 tN.1) fun jA =>
 Q1 (g18 d r6.1.2.2.2.2.2.1 jA.1) fun vB =>
 Q1 (Om d r6.1.2.2.2.2.2.2.1 vB.1) fun oY =>
 Q1 (g18 d r6.1.2.2.2.2.2.2.2.1 oY.1) fun Fw =>
 Q1 (g18 d r6.2.1.1 Fw.1) fun BK =>
 Q1 (g18 d r6.2.1.2 BK.1) fun vD =>
 Q8 (nE d (iY d x1 n2 r5 r7)) Qd (vD.1,0,r6.2.2.1)))
theorem e5 (d:Nat) (x1:t2) (n2:Int):g5 (d+3) x1 n2 =
 Q1 (g7 (d+2) x1 1048576) fun r3 =>
 aa (decide (r3 < 0)) (
 some true) (
 Q1 (g10 (d+2) x1) fun r4 =>
 Q1 (g23 (d+2) r4 n2) fun r5 =>
 Q1 (g10 (d+2) x1) fun r6 =>
 Q1 (g24 (d+2) r6 n2) fun r7 =>
 Q1 (g13 (d+2) r7.1 r5.1) fun r8 =>
 aa (!r8) (
 BC d x1 n2 r5 r6 r7 true) (
 Q1 (g14 (d+2) r7.2.1 r5.2.1) fun r9 =>
 aa (!r9) (
 BC d x1 n2 r5 r6 r7 true) (
 BC d x1 n2 r5 r6 r7 (!(r7.2.2==r5.2.2))))):=by kernel_rfl
end Go.Proofs.YtcoimfbmgjhcjaaGreatDoor
