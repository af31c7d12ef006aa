/-
  The residual forms of the program's functions under the interpreter by value, printed by program (wip/pv/gen2.py); each equation is checked by the kernel.
  Conditions: none.
-/
import Derived.Test.YtcoimfbmgjhcjaaGreatDoorFnExactSetFiltersResA
import Derived.KernelRfl
set_option linter.all false
set_option maxRecDepth 1000000
namespace Go.Proofs.YtcoimfbmgjhcjaaGreatDoor
open Go.Ev Go.Pv
open IntKind (i64 u64)
theorem e25 (d:Nat) (l1:List t5) (n2:Int):Od (d+1) l1 n2 =
 aa (decide (((i64.wrap (n2 - (l1.length:Int))):Int) < 0)) (
 some (-1)) (
 some (i64.wrap (n2 - (l1.length:Int)))):=by kernel_rfl
theorem e34 (d:Nat) (l1:List t1) (n2:Int):R_ (d+1) l1 n2 =
 aa (decide (((i64.wrap (n2 - (l1.length:Int))):Int) < 0)) (
 some (-1)) (
 some (i64.wrap (n2 - (l1.length:Int)))):=by kernel_rfl
theorem e68 (d:Nat) (l1:List Int) (n2:Int):BG (d+1) l1 n2 =
 aa (decide (((i64.wrap (n2 - (l1.length:Int))):Int) < 0)) (
 some (-1)) (
 some (i64.wrap (n2 - (l1.length:Int)))):=by kernel_rfl
theorem e31 (d:Nat) (x1:t0) (n2:Int):Sa (d+1) x1 n2 =
 aa (decide (((i64.wrap (n2 - (x1.1.size:Int))):Int) < 0)) (
 some (-1)) (
 Q1 (R_ d x1.2.1 (i64.wrap (n2 - (x1.1.size:Int)))) fun r3 =>
 aa (decide (r3 < 0)) (
 some (-1)) (
 Q1 (BG d x1.2.2.1 r3) fun r4 =>
 aa (decide (r4 < 0)) (
 some (-1)) (
 Q1 (BG d x1.2.2.2.1 r4) fun r5 =>
 aa (decide (r5 < 0)) (
 some (-1)) (
 Q1 (BG d x1.2.2.2.2.1 r5) fun r6 =>
 aa (decide (r6 < 0)) (
 some (-1)) (
 Q1 (BG d x1.2.2.2.2.2.1 r6) fun r7 =>
 aa (decide (r7 < 0)) (
 some (-1)) (
 Q1 (Od d x1.2.2.2.2.2.2.1 r7) fun r8 =>
 aa (decide (r8 < 0)) (
 some (-1)) (
 Q1 (BG d x1.2.2.2.2.2.2.2.1 r8) fun r9 =>
 aa (decide (r9 < 0)) (
 some (-1)) (
 some r9)))))))):=by kernel_rfl
theorem e32 (d:Nat) (x1:t7) (n2:Int):Sb (d+1) x1 n2 =
 Q1 (BG d x1.1 n2) fun r3 =>
 aa (decide (r3 < 0)) (
 some (-1)) (
 Q1 (BG d x1.2 r3) fun r4 =>
 aa (decide (r4 < 0)) (
 some (-1)) (
 some r4)):=by kernel_rfl
theorem e69 (d:Nat) (l1:List t4) (n2:Int):YX (d+1) l1 n2 =
 aa (decide (((i64.wrap (n2 - (l1.length:Int))):Int) < 0)) (
 some (-1)) (
 some (i64.wrap (n2 - (l1.length:Int)))):=by kernel_rfl
noncomputable def Kr (d:Nat) (n4 n5:Int):Option Int :=
 some n4
noncomputable def wK (d:Nat) (l1:List (List t4)) (wL:Int->Int->Option Int) (bM:(Int×Int×Int)->Option Int) (s:(Int×Int×Int)):Option Int :=
(fun n4 n5 n6 =>
 aa (decide (n6 < (l1.length:Int))) (
 aa (decide (0<=n6)) (
 Q1 (l1[n6.toNat]?) fun l7 =>
 Q1 (YX d l7 n4) fun r8 =>
 aa (decide (r8 < 0)) (
 some (-1)) (
 bM (r8,n5,(i64.wrap (n6+1))))) none) (
 wL n4 n5)) s.1 s.2.1 s.2.2
theorem e33 (d:Nat) (l1:List (List t4)) (n2:Int):Sc (d+1) l1 n2 =
 aa (decide (((i64.wrap (n2 - (l1.length:Int))):Int) < 0)) (
 some (-1)) (
 Q8 (wK d l1 (Kr d)) Qd ((i64.wrap (n2 - (l1.length:Int))),0,0)):=by kernel_rfl
theorem e7 (d:Nat) (x1:t2) (n2:Int):g7 (d+1) x1 n2 =
 Q1 (Sa d x1.1 n2) fun r3 =>
 aa (decide (r3 < 0)) (
 some (-1)) (
 Q1 (Sb d x1.2.1 r3) fun r4 =>
 aa (decide (r4 < 0)) (
 some (-1)) (
 Q1 (Sc d x1.2.2.1 r4) fun r5 =>
 aa (decide (r5 < 0)) (
 some (-1)) (
 some r5))):=by kernel_rfl
theorem e64 (d:Nat) (x1:t5):YY (d+1) x1 =
 some x1:=by kernel_rfl
noncomputable def Du (d:Nat) (l3:List t5):Option (List t5) :=
 some l3
noncomputable def Dv (d:Nat) (l1:List t5) (wM:(List t5)->Option (List t5)) (bV:(Int×(List t5))->Option (List t5)) (s:(Int×(List t5))):Option (List t5) :=
(fun n3 (l4:List t5) =>
 aa (decide (n3 < (l1.length:Int))) (
 aa (decide (0<=n3)) (
 Q1 (l1[n3.toNat]?) fun x5 =>
 Q1 (YY d x5) fun r6 =>
 aa (decide (0<=n3)) (
 aa (Nat.blt (n3.toNat) l4.length) (
 Q1 (l4[n3.toNat]?) fun x7 =>
 bV ((i64.wrap (n3+1)),(l4.set (n3.toNat) r6))) none) none) none) (
 wM l4)) s.1 s.2
theorem e27 (d:Nat) (l1:List t5):Dr (d+1) l1 =
 aa (decide (0<=(l1.length:Int))) (
 aa (decide (0<=(l1.length:Int))) (
 aa (Nat.ble ((l1.length:Int).toNat) ((l1.length:Int).toNat)&&Nat.ble (((l1.length:Int).toNat)*40) Q7) (
 Q8 (Dv d l1 (Du d)) Qd (0,(List.replicate ((l1.length:Int).toNat) ((0,0,0,0,0):t5)))) none) none) none:=by kernel_rfl
theorem e86 (d:Nat) (x1:t1):YZ (d+1) x1 =
 some x1:=by kernel_rfl
noncomputable def Dw (d:Nat) (l3:List t1):Option (List t1) :=
 some l3
noncomputable def Dx (d:Nat) (l1:List t1) (wN:(List t1)->Option (List t1)) (bV:t13->Option (List t1)) (s:t13):Option (List t1) :=
(fun n3 (l4:List t1) =>
 aa (decide (n3 < (l1.length:Int))) (
 aa (decide (0<=n3)) (
 Q1 (l1[n3.toNat]?) fun x5 =>
 Q1 (YZ d x5) fun r6 =>
 aa (decide (0<=n3)) (
 aa (Nat.blt (n3.toNat) l4.length) (
 Q1 (l4[n3.toNat]?) fun x7 =>
 bV ((i64.wrap (n3+1)),(l4.set (n3.toNat) r6))) none) none) none) (
 wN l4)) s.1 s.2
theorem e41 (d:Nat) (l1:List t1):Sd (d+1) l1 =
 aa (decide (0<=(l1.length:Int))) (
 aa (decide (0<=(l1.length:Int))) (
 aa (Nat.ble ((l1.length:Int).toNat) ((l1.length:Int).toNat)&&Nat.ble (((l1.length:Int).toNat)*64) Q7) (
 Q8 (Dx d l1 (Dw d)) Qd (0,(List.replicate ((l1.length:Int).toNat) ((0,0,0,0,0,0,0,0):t1)))) none) none) none:=by kernel_rfl
noncomputable def Dy (d:Nat) (l3:List Int):Option (List Int) :=
 some l3
noncomputable def Dz (d:Nat) (l1:List Int) (wO:(List Int)->Option (List Int)) (bV:t11->Option (List Int)) (s:t11):Option (List Int) :=
(fun n3 (l4:List Int) =>
 aa (decide (n3 < (l1.length:Int))) (
 aa (decide (0<=n3)) (
 Q1 (l1[n3.toNat]?) fun n5 =>
 aa (decide (0<=n3)) (
 aa (Nat.blt (n3.toNat) l4.length) (
 Q1 (l4[n3.toNat]?) fun n6 =>
 bV ((i64.wrap (n3+1)),(l4.set (n3.toNat) n5))) none) none) none) (
 wO l4)) s.1 s.2
theorem e84 (d:Nat) (l1:List Int):BH (d+1) l1 =
 aa (decide (0<=(l1.length:Int))) (
 aa (decide (0<=(l1.length:Int))) (
 aa (Nat.ble ((l1.length:Int).toNat) ((l1.length:Int).toNat)&&Nat.ble (((l1.length:Int).toNat)*8) Q7) (
 Q8 (Dz d l1 (Dy d)) Qd (0,(List.replicate ((l1.length:Int).toNat) (0:Int)))) none) none) none:=by kernel_rfl
theorem e38 (d:Nat) (x1:t0):Se (d+1) x1 =
 Q1 (Sd d x1.2.1) fun r2 =>
 Q1 (BH d x1.2.2.1) fun r3 =>
 Q1 (BH d x1.2.2.2.1) fun r4 =>
 Q1 (BH d x1.2.2.2.2.1) fun r5 =>
 Q1 (BH d x1.2.2.2.2.2.1) fun r6 =>
 Q1 (Dr d x1.2.2.2.2.2.2.1) fun r7 =>
 Q1 (BH d x1.2.2.2.2.2.2.2.1) fun r8 =>
 some (x1.1,r2,r3,r4,r5,r6,r7,r8,x1.2.2.2.2.2.2.2.2):=by kernel_rfl
theorem e39 (d:Nat) (x1:t7):Sf (d+1) x1 =
 Q1 (BH d x1.1) fun r2 =>
 Q1 (BH d x1.2) fun r3 =>
 some (r2,r3):=by kernel_rfl
theorem Sg (d:Nat) (x1:t4):Ks (d+1) x1 =
 some x1:=by kernel_rfl
noncomputable def DA (d:Nat) (l3:List t4):Option (List t4) :=
 some l3
noncomputable def DB (d:Nat) (l1:List t4) (wP:(List t4)->Option (List t4)) (bV:(Int×(List t4))->Option (List t4)) (s:(Int×(List t4))):Option (List t4) :=
(fun n3 (l4:List t4) =>
 aa (decide (n3 < (l1.length:Int))) (
 aa (decide (0<=n3)) (
 Q1 (l1[n3.toNat]?) fun x5 =>
 Q1 (Ks d x5) fun r6 =>
 aa (decide (0<=n3)) (
 aa (Nat.blt (n3.toNat) l4.length) (
 Q1 (l4[n3.toNat]?) fun x7 =>
 bV ((i64.wrap (n3+1)),(l4.set (n3.toNat) r6))) none) none) none) (
 wP l4)) s.1 s.2
theorem e85 (d:Nat) (l1:List t4):Sh (d+1) l1 =
 aa (decide (0<=(l1.length:Int))) (
 aa (decide (0<=(l1.length:Int))) (
 aa (Nat.ble ((l1.length:Int).toNat) ((l1.length:Int).toNat)&&Nat.ble (((l1.length:Int).toNat)*48) Q7) (
 Q8 (DB d l1 (DA d)) Qd (0,(List.replicate ((l1.length:Int).toNat) ((0,0,0,0,0,0):t4)))) none) none) none:=by kernel_rfl
noncomputable def DC (d:Nat) (l3:List (List t4)):Option (List (List t4)) :=
 some l3
noncomputable def DD (d:Nat) (l1:List (List t4)) (wQ:(List (List t4))->Option (List (List t4))) (bV:(Int×(List (List t4)))->Option (List (List t4))) (s:(Int×(List (List t4)))):Option (List (List t4)) :=
(fun n3 (l4:List (List t4)) =>
 aa (decide (n3 < (l1.length:Int))) (
 aa (decide (0<=n3)) (
 Q1 (l1[n3.toNat]?) fun l5 =>
 Q1 (Sh d l5) fun r6 =>
 aa (decide (0<=n3)) (
 aa (Nat.blt (n3.toNat) l4.length) (
 Q1 (l4[n3.toNat]?) fun l7 =>
 bV ((i64.wrap (n3+1)),(l4.set (n3.toNat) r6))) none) none) none) (
 wQ l4)) s.1 s.2
theorem e40 (d:Nat) (l1:List (List t4)):Si (d+1) l1 =
 aa (decide (0<=(l1.length:Int))) (
 aa (decide (0<=(l1.length:Int))) (
 aa (Nat.ble ((l1.length:Int).toNat) ((l1.length:Int).toNat)&&Nat.ble (((l1.length:Int).toNat)*24) Q7) (
 Q8 (DD d l1 (DC d)) Qd (0,(List.replicate ((l1.length:Int).toNat) ([]:List t4)))) none) none) none:=by kernel_rfl
theorem e10 (d:Nat) (x1:t2):g10 (d+1) x1 =
 Q1 (Se d x1.1) fun r2 =>
 Q1 (Sf d x1.2.1) fun r3 =>
 Q1 (Si d x1.2.2.1) fun r4 =>
 some (r2,r3,r4,x1.2.2.2):=by kernel_rfl
noncomputable def DE (d:Nat) (b4:Bool):Option Bool :=
 some true
noncomputable def wR (d:Nat) (l1 l2:List Int) (wS:Bool->Option Bool) (bM:t9->Option Bool) (s:t9):Option Bool :=
(fun (b4:Bool) n5 =>
 aa (decide (n5 < (l1.length:Int))) (
 aa (decide (0<=n5)) (
 Q1 (l1[n5.toNat]?) fun n6 =>
 aa (decide (0<=n5)) (
 Q1 (l2[n5.toNat]?) fun n7 =>
 aa (n6 != n7) (
 some false) (
 bM (b4,(i64.wrap (n5+1))))) none) none) (
 wS b4)) s.1 s.2
theorem e14 (d:Nat) (l1 l2:List Int):g14 (d+1) l1 l2 =
 aa ((l1.length:Int) != (l2.length:Int)) (
 some false) (
 Q8 (wR d l1 l2 (DE d)) Qd (false,0)):=by kernel_rfl
theorem e67 (d:Nat) (x1 x2:t5):Y3 (d+1) x1 x2 =
 aa (x1.1 != x2.1) (
 some false) (
 aa (x1.2.1 != x2.2.1) (
 some false) (
 aa (x1.2.2.1 != x2.2.2.1) (
 some false) (
 aa (x1.2.2.2.1 != x2.2.2.2.1) (
 some false) (
 aa (x1.2.2.2.2 != x2.2.2.2.2) (
 some false) (
 some true))))):=by kernel_rfl
noncomputable def DF (d:Nat) (b4:Bool):Option Bool :=
 some true
noncomputable def wT (d:Nat) (l1 l2:List t5) (wU:Bool->Option Bool) (bM:t9->Option Bool) (s:t9):Option Bool :=
(fun (b4:Bool) n5 =>
 aa (decide (n5 < (l1.length:Int))) (
 aa (decide (0<=n5)) (
 Q1 (l1[n5.toNat]?) fun x6 =>
 aa (decide (0<=n5)) (
 Q1 (l2[n5.toNat]?) fun x7 =>
 Q1 (Y3 d x6 x7) fun r8 =>
 aa (!r8) (
 some false) (
 bM (b4,(i64.wrap (n5+1))))) none) none) (
 wU b4)) s.1 s.2
theorem e29 (d:Nat) (l1 l2:List t5):Kp (d+1) l1 l2 =
 aa ((l1.length:Int) != (l2.length:Int)) (
 some false) (
 Q8 (wT d l1 l2 (DF d)) Qd (false,0)):=by kernel_rfl
theorem Sj (d:Nat) (x1 x2:t1):Kt (d+1) x1 x2 =
 aa (x1.1 != x2.1) (
 some false) (
 aa (x1.2.1 != x2.2.1) (
 some false) (
 aa (x1.2.2.1 != x2.2.2.1) (
 some false) (
 aa (x1.2.2.2.1 != x2.2.2.2.1) (
 some false) (
 aa (x1.2.2.2.2.1 != x2.2.2.2.2.1) (
 some false) (
 aa (x1.2.2.2.2.2.1 != x2.2.2.2.2.2.1) (
 some false) (
 aa (x1.2.2.2.2.2.2.1 != x2.2.2.2.2.2.2.1) (
 some false) (
 aa (x1.2.2.2.2.2.2.2 != x2.2.2.2.2.2.2.2) (
 some false) (
 some true)))))))):=by kernel_rfl
noncomputable def DG (d:Nat) (b4:Bool):Option Bool :=
 some true
noncomputable def wV (d:Nat) (l1 l2:List t1) (wW:Bool->Option Bool) (bM:t9->Option Bool) (s:t9):Option Bool :=
(fun (b4:Bool) n5 =>
 aa (decide (n5 < (l1.length:Int))) (
 aa (decide (0<=n5)) (
 Q1 (l1[n5.toNat]?) fun x6 =>
 aa (decide (0<=n5)) (
 Q1 (l2[n5.toNat]?) fun x7 =>
 Q1 (Kt d x6 x7) fun r8 =>
 aa (!r8) (
 some false) (
 bM (b4,(i64.wrap (n5+1))))) none) none) (
 wW b4)) s.1 s.2
theorem e48 (d:Nat) (l1 l2:List t1):Sk (d+1) l1 l2 =
 aa ((l1.length:Int) != (l2.length:Int)) (
 some false) (
 Q8 (wV d l1 l2 (DG d)) Qd (false,0)):=by kernel_rfl
theorem e45 (d:Nat) (x1 x2:t0):Sl (d+1) x1 x2 =
 aa (!(x1.1.toList==x2.1.toList)) (
 some false) (
 Q1 (Sk d x1.2.1 x2.2.1) fun r3 =>
 aa (!r3) (
 some false) (
 Q1 (g14 d x1.2.2.1 x2.2.2.1) fun r4 =>
 aa (!r4) (
 some false) (
 Q1 (g14 d x1.2.2.2.1 x2.2.2.2.1) fun r5 =>
 aa (!r5) (
 some false) (
 Q1 (g14 d x1.2.2.2.2.1 x2.2.2.2.2.1) fun r6 =>
 aa (!r6) (
 some false) (
 Q1 (g14 d x1.2.2.2.2.2.1 x2.2.2.2.2.2.1) fun r7 =>
 aa (!r7) (
 some false) (
 Q1 (Kp d x1.2.2.2.2.2.2.1 x2.2.2.2.2.2.2.1) fun r8 =>
 aa (!r8) (
 some false) (
 Q1 (g14 d x1.2.2.2.2.2.2.2.1 x2.2.2.2.2.2.2.2.1) fun r9 =>
 aa (!r9) (
 some false) (
 aa (x1.2.2.2.2.2.2.2.2 != x2.2.2.2.2.2.2.2.2) (
 some false) (
 some true))))))))):=by kernel_rfl
theorem e46 (d:Nat) (x1 x2:t7):Sm (d+1) x1 x2 =
 Q1 (g14 d x1.1 x2.1) fun r3 =>
 aa (!r3) (
 some false) (
 Q1 (g14 d x1.2 x2.2) fun r4 =>
 aa (!r4) (
 some false) (
 some true)):=by kernel_rfl
theorem Sn (d:Nat) (x1 x2:t4):Ku (d+1) x1 x2 =
 aa (x1.1 != x2.1) (
 some false) (
 aa (x1.2.1 != x2.2.1) (
 some false) (
 aa (x1.2.2.1 != x2.2.2.1) (
 some false) (
 aa (x1.2.2.2.1 != x2.2.2.2.1) (
 some false) (
 aa (x1.2.2.2.2.1 != x2.2.2.2.2.1) (
 some false) (
 aa (x1.2.2.2.2.2 != x2.2.2.2.2.2) (
 some false) (
 some true)))))):=by kernel_rfl
noncomputable def wX (d:Nat) (b4:Bool):Option Bool :=
 some true
noncomputable def oR (d:Nat) (l1 l2:List t4) (sU:Bool->Option Bool) (bM:t9->Option Bool) (s:t9):Option Bool :=
(fun (b4:Bool) n5 =>
 aa (decide (n5 < (l1.length:Int))) (
 aa (decide (0<=n5)) (
 Q1 (l1[n5.toNat]?) fun x6 =>
 aa (decide (0<=n5)) (
 Q1 (l2[n5.toNat]?) fun x7 =>
 Q1 (Ku d x6 x7) fun r8 =>
 aa (!r8) (
 some false) (
 bM (b4,(i64.wrap (n5+1))))) none) none) (
 sU b4)) s.1 s.2
theorem So (d:Nat) (l1 l2:List t4):Fk (d+1) l1 l2 =
 aa ((l1.length:Int) != (l2.length:Int)) (
 some false) (
 Q8 (oR d l1 l2 (wX d)) Qd (false,0)):=by kernel_rfl
noncomputable def DH (d:Nat) (b4:Bool):Option Bool :=
 some true
noncomputable def wY (d:Nat) (l1 l2:List (List t4)) (wZ:Bool->Option Bool) (bM:t9->Option Bool) (s:t9):Option Bool :=
(fun (b4:Bool) n5 =>
 aa (decide (n5 < (l1.length:Int))) (
 aa (decide (0<=n5)) (
 Q1 (l1[n5.toNat]?) fun l6 =>
 aa (decide (0<=n5)) (
 Q1 (l2[n5.toNat]?) fun l7 =>
 Q1 (Fk d l6 l7) fun r8 =>
 aa (!r8) (
 some false) (
 bM (b4,(i64.wrap (n5+1))))) none) none) (
 wZ b4)) s.1 s.2
theorem e47 (d:Nat) (l1 l2:List (List t4)):Sp (d+1) l1 l2 =
 aa ((l1.length:Int) != (l2.length:Int)) (
 some false) (
 Q8 (wY d l1 l2 (DH d)) Qd (false,0)):=by kernel_rfl
theorem e13 (d:Nat) (x1 x2:t2):g13 (d+1) x1 x2 =
 Q1 (Sl d x1.1 x2.1) fun r3 =>
 aa (!r3) (
 some false) (
 Q1 (Sm d x1.2.1 x2.2.1) fun r4 =>
 aa (!r4) (
 some false) (
 Q1 (Sp d x1.2.2.1 x2.2.2.1) fun r5 =>
 aa (!r5) (
 some false) (
 aa (x1.2.2.2.1 != x2.2.2.2.1) (
 some false) (
 aa (x1.2.2.2.2 != x2.2.2.2.2) (
 some false) (
 some true))))):=by kernel_rfl
noncomputable def w4 (d:Nat) (n4:Int) (l5:List Int):Option t11 :=
 some (n4,l5)
noncomputable def rD (d:Nat) (w5:Int->(List Int)->Option t11) (bM:(Int×Int×(List Int))->Option t11) (s:(Int×Int×(List Int))):Option t11 :=
(fun n4 n5 (l6:List Int) =>
 aa (decide (n5 < (l6.length:Int))) (
 aa (decide (0<=n5)) (
 aa (Nat.blt (n5.toNat) l6.length) (
 Q1 (l6[n5.toNat]?) fun n7 =>
 bM ((i64.wrap (n4+1)),(i64.wrap (n5+1)),(l6.set (n5.toNat) n4))) none) none) (
 w5 n4 l6)) s.1 s.2.1 s.2.2
theorem e18 (d:Nat) (l1:List Int) (n2:Int):g18 (d+1) l1 n2 =
 Q8 (rD d (w4 d)) Qd (n2,0,l1):=by kernel_rfl
noncomputable def w6 (d:Nat) (n4 n5:Int):Option Int :=
 some n4
noncomputable def rE (d:Nat) (l1:List Int) (w7:Int->Int->Option Int) (bM:(Int×Int×Int)->Option Int) (s:(Int×Int×Int)):Option Int :=
(fun n4 n5 n6 =>
 aa (decide (n6 < (l1.length:Int))) (
 aa (decide (0<=n6)) (
 Q1 (l1[n6.toNat]?) fun n7 =>
 aa (n7 != n4) (
 some (-1)) (
 bM ((i64.wrap (n4+1)),n5,(i64.wrap (n6+1))))) none) (
 w7 n4 n5)) s.1 s.2.1 s.2.2
theorem e20 (d:Nat) (l1:List Int) (n2:Int):g20 (d+1) l1 n2 =
 Q8 (rE d l1 (w6 d)) Qd (n2,0,0):=by kernel_rfl
noncomputable def oS (d:Nat) (n4 n5:Int):Option Int :=
 some n4
noncomputable def kM (d:Nat) (l1:List t1) (sV:Int->Int->Option Int) (bM:(Int×Int×Int)->Option Int) (s:(Int×Int×Int)):Option Int :=
(fun n4 n5 n6 =>
 aa (decide (n6 < (l1.length:Int))) (
 aa (decide (0<=n6)) (
 Q1 (l1[n6.toNat]?) fun x7 =>
 aa (x7.1 != n4) (
 some (-1)) (
 aa (decide (0<=n6)) (
 Q1 (l1[n6.toNat]?) fun x8 =>
 aa (x8.2.1 != (i64.wrap (n4+1))) (
 some (-1)) (
 aa (decide (0<=n6)) (
 Q1 (l1[n6.toNat]?) fun x9 =>
 aa (x9.2.2.1 != (i64.wrap ((i64.wrap (n4+1))+1))) (
 some (-1)) (
 aa (decide (0<=n6)) (
 Q1 (l1[n6.toNat]?) fun aR =>
 aa (aR.2.2.2.1 != (i64.wrap ((i64.wrap ((i64.wrap (n4+1))+1))+1))) (
 some (-1)) (
 aa (decide (0<=n6)) (
 Q1 (l1[n6.toNat]?) fun bP =>
 aa (bP.2.2.2.2.1 != (i64.wrap ((i64.wrap ((i64.wrap ((i64.wrap (n4+1))+1))+1))+1))) (
 some (-1)) (
 aa (decide (0<=n6)) (
 Q1 (l1[n6.toNat]?) fun dB =>
 aa (dB.2.2.2.2.2.1 != (i64.wrap ((i64.wrap ((i64.wrap ((i64.wrap ((i64.wrap (n4+1))+1))+1))+1))+1))) (
 some (-1)) (
 aa (decide (0<=n6)) (
 Q1 (l1[n6.toNat]?) fun gD =>
 aa (gD.2.2.2.2.2.2.1 != (i64.wrap ((i64.wrap ((i64.wrap ((i64.wrap ((i64.wrap ((i64.wrap (n4+1))+1))+1))+1))+1))+1))) (
 some (-1)) (
 aa (decide (0<=n6)) (
 Q1 (l1[n6.toNat]?) fun mG =>
 aa (mG.2.2.2.2.2.2.2 != (i64.wrap ((i64.wrap ((i64.wrap ((i64.wrap ((i64.wrap ((i64.wrap ((i64.wrap (n4+1))+1))+1))+1))+1))+1))+1))) (
 some (-1)) (
 bM ((i64.wrap ((i64.wrap ((i64.wrap ((i64.wrap ((i64.wrap ((i64.wrap ((i64.wrap ((i64.wrap (n4+1))+1))+1))+1))+1))+1))+1))+1)),n5,(i64.wrap (n6+1))))) none)) none)) none)) none)) none)) none)) none)) none) (
 sV n4 n5)) s.1 s.2.1 s.2.2
theorem Sq (d:Nat) (l1:List t1) (n2:Int):Fl (d+1) l1 n2 =
 Q8 (kM d l1 (oS d)) Qd (n2,0,0):=by kernel_rfl
noncomputable def oT (d:Nat) (n4 n5:Int):Option Int :=
 some n4
noncomputable def kN (d:Nat) (l1:List t5) (sW:Int->Int->Option Int) (bM:(Int×Int×Int)->Option Int) (s:(Int×Int×Int)):Option Int :=
(fun n4 n5 n6 =>
 aa (decide (n6 < (l1.length:Int))) (
 aa (decide (0<=n6)) (
 Q1 (l1[n6.toNat]?) fun x7 =>
 aa (x7.1 != n4) (
 some (-1)) (
 aa (decide (0<=n6)) (
 Q1 (l1[n6.toNat]?) fun x8 =>
 aa (x8.2.1 != (i64.wrap (n4+1))) (
 some (-1)) (
 aa (decide (0<=n6)) (
 Q1 (l1[n6.toNat]?) fun x9 =>
 aa (x9.2.2.1 != (i64.wrap ((i64.wrap (n4+1))+1))) (
 some (-1)) (
 aa (decide (0<=n6)) (
 Q1 (l1[n6.toNat]?) fun aR =>
 aa (aR.2.2.2.1 != (i64.wrap ((i64.wrap ((i64.wrap (n4+1))+1))+1))) (
 some (-1)) (
 aa (decide (0<=n6)) (
 Q1 (l1[n6.toNat]?) fun bP =>
 aa (bP.2.2.2.2 != (i64.wrap ((i64.wrap ((i64.wrap ((i64.wrap (n4+1))+1))+1))+1))) (
 some (-1)) (
 bM ((i64.wrap ((i64.wrap ((i64.wrap ((i64.wrap ((i64.wrap (n4+1))+1))+1))+1))+1)),n5,(i64.wrap (n6+1))))) none)) none)) none)) none)) none) (
 sW n4 n5)) s.1 s.2.1 s.2.2
theorem Sr (d:Nat) (l1:List t5) (n2:Int):Fm (d+1) l1 n2 =
 Q8 (kN d l1 (oT d)) Qd (n2,0,0):=by kernel_rfl
theorem e53 (d:Nat) (x1:t0) (n2:Int):Ss (d+1) x1 n2 =
 Q1 (Fl d x1.2.1 n2) fun r3 =>
 aa (decide (r3 < 0)) (
 some (-1)) (
 Q1 (g20 d x1.2.2.1 r3) fun r4 =>
 aa (decide (r4 < 0)) (
 some (-1)) (
 Q1 (g20 d x1.2.2.2.1 r4) fun r5 =>
 aa (decide (r5 < 0)) (
 some (-1)) (
 Q1 (g20 d x1.2.2.2.2.1 r5) fun r6 =>
 aa (decide (r6 < 0)) (
 some (-1)) (
 Q1 (g20 d x1.2.2.2.2.2.1 r6) fun r7 =>
 aa (decide (r7 < 0)) (
 some (-1)) (
 Q1 (Fm d x1.2.2.2.2.2.2.1 r7) fun r8 =>
 aa (decide (r8 < 0)) (
 some (-1)) (
 Q1 (g20 d x1.2.2.2.2.2.2.2.1 r8) fun r9 =>
 aa (decide (r9 < 0)) (
 some (-1)) (
 some r9))))))):=by kernel_rfl
theorem e54 (d:Nat) (x1:t7) (n2:Int):Su (d+1) x1 n2 =
 Q1 (g20 d x1.1 n2) fun r3 =>
 aa (decide (r3 < 0)) (
 some (-1)) (
 Q1 (g20 d x1.2 r3) fun r4 =>
 aa (decide (r4 < 0)) (
 some (-1)) (
 some r4)):=by kernel_rfl
noncomputable def oU (d:Nat) (n4 n5:Int):Option Int :=
 some n4
noncomputable def kO (d:Nat) (l1:List t4) (sY:Int->Int->Option Int) (bM:(Int×Int×Int)->Option Int) (s:(Int×Int×Int)):Option Int :=
(fun n4 n5 n6 =>
 aa (decide (n6 < (l1.length:Int))) (
 aa (decide (0<=n6)) (
 Q1 (l1[n6.toNat]?) fun x7 =>
 aa (x7.1 != n4) (
 some (-1)) (
 aa (decide (0<=n6)) (
 Q1 (l1[n6.toNat]?) fun x8 =>
 aa (x8.2.1 != (i64.wrap (n4+1))) (
 some (-1)) (
 aa (decide (0<=n6)) (
 Q1 (l1[n6.toNat]?) fun x9 =>
 aa (x9.2.2.1 != (i64.wrap ((i64.wrap (n4+1))+1))) (
 some (-1)) (
 aa (decide (0<=n6)) (
 Q1 (l1[n6.toNat]?) fun aR =>
 aa (aR.2.2.2.1 != (i64.wrap ((i64.wrap ((i64.wrap (n4+1))+1))+1))) (
 some (-1)) (
 aa (decide (0<=n6)) (
 Q1 (l1[n6.toNat]?) fun bP =>
 aa (bP.2.2.2.2.1 != (i64.wrap ((i64.wrap ((i64.wrap ((i64.wrap (n4+1))+1))+1))+1))) (
 some (-1)) (
 aa (decide (0<=n6)) (
 Q1 (l1[n6.toNat]?) fun dB =>
 aa (dB.2.2.2.2.2 != (i64.wrap ((i64.wrap ((i64.wrap ((i64.wrap ((i64.wrap (n4+1))+1))+1))+1))+1))) (
 some (-1)) (
 bM ((i64.wrap ((i64.wrap ((i64.wrap ((i64.wrap ((i64.wrap ((i64.wrap (n4+1))+1))+1))+1))+1))+1)),n5,(i64.wrap (n6+1))))) none)) none)) none)) none)) none)) none) (
 sY n4 n5)) s.1 s.2.1 s.2.2
theorem Sv (d:Nat) (l1:List t4) (n2:Int):Kv (d+1) l1 n2 =
 Q8 (kO d l1 (oU d)) Qd (n2,0,0):=by kernel_rfl
noncomputable def w8 (d:Nat) (n4 n5:Int):Option Int :=
 some n4
noncomputable def rF (d:Nat) (l1:List (List t4)) (w9:Int->Int->Option Int) (bM:(Int×Int×Int)->Option Int) (s:(Int×Int×Int)):Option Int :=
(fun n4 n5 n6 =>
 aa (decide (n6 < (l1.length:Int))) (
 aa (decide (0<=n6)) (
 Q1 (l1[n6.toNat]?) fun l7 =>
 Q1 (Kv d l7 n4) fun r8 =>
 aa (decide (r8 < 0)) (
 some (-1)) (
 bM (r8,n5,(i64.wrap (n6+1))))) none) (
 w9 n4 n5)) s.1 s.2.1 s.2.2
theorem e55 (d:Nat) (l1:List (List t4)) (n2:Int):Y4 (d+1) l1 n2 =
 Q8 (rF d l1 (w8 d)) Qd (n2,0,0):=by kernel_rfl
theorem e19 (d:Nat) (x1:t2) (n2:Int):g19 (d+1) x1 n2 =
 Q1 (Ss d x1.1 n2) fun r3 =>
 aa (decide (r3 < 0)) (
 some (-1)) (
 Q1 (Su d x1.2.1 r3) fun r4 =>
 aa (decide (r4 < 0)) (
 some (-1)) (
 Q1 (Y4 d x1.2.2.1 r4) fun r5 =>
 aa (decide (r5 < 0)) (
 some (-1)) (
 some r5))):=by kernel_rfl
theorem e72 (d:Nat) (n1 n2 n3:Int):i_ (d+1) n1 n2 n3 =
 aa (decide (n1>=n2)) (
 some (decide (n1<=n3))) (
 some false):=by kernel_rfl
noncomputable def Fo (d:Nat) (b4:Bool):Option Bool :=
 some false
noncomputable def oV (d:Nat) (l1:List ByteArray) (s2:ByteArray) (sZ:Bool->Option Bool) (bM:t9->Option Bool) (s:t9):Option Bool :=
(fun (b4:Bool) n5 =>
 aa (decide (n5 < (l1.length:Int))) (
 aa (decide (0<=n5)) (
 Q1 (l1[n5.toNat]?) fun s6 =>
 aa (s6.toList==s2.toList) (
 some true) (
 bM (b4,(i64.wrap (n5+1))))) none) (
 sZ b4)) s.1 s.2
theorem Sw (d:Nat) (l1:List ByteArray) (s2:ByteArray):Kw (d+1) l1 s2 =
 Q8 (oV d l1 s2 (Fo d)) Qd (false,0):=by kernel_rfl
theorem Sx (d:Nat):Kx (d+1) =
 some [(⟨#[113,100,105,115,99]⟩:ByteArray),(⟨#[100,101,102,97,117,108,116]⟩:ByteArray),(⟨#[99,108,97,115,115]⟩:ByteArray),(⟨#[114,97,116,101]⟩:ByteArray),(⟨#[99,101,105,108]⟩:ByteArray),(⟨#[98,117,114,115,116]⟩:ByteArray),(⟨#[99,98,117,114,115,116]⟩:ByteArray),(⟨#[112,114,105,111]⟩:ByteArray),(⟨#[108,105,109,105,116]⟩:ByteArray),(⟨#[102,105,108,116,101,114]⟩:ByteArray),(⟨#[115,111,117,114,99,101]⟩:ByteArray),(⟨#[100,101,115,116]⟩:ByteArray),(⟨#[112,111,114,116]⟩:ByteArray),(⟨#[109,97,114,107]⟩:ByteArray)]:=by kernel_rfl
theorem Sy (d:Nat) (s1:ByteArray):Fp (d+1) s1 =
 Q1 (Kx d) fun r2 =>
 Q1 (Kw d r2 s1) fun r3 =>
 some r3:=by kernel_rfl
noncomputable def w_ (d:Nat) (s1:ByteArray) (b3:Bool):Option Bool :=
 Q1 (i_ d (s1.size:Int) 1 8) fun r4 =>
 aa r4 (
 Q1 (Fp d s1) fun r5 =>
 some (!r5)) (
 some false)
noncomputable def xd (d:Nat) (s1:ByteArray) (xe:Bool->Option Bool) (bV:t9->Option Bool) (s:t9):Option Bool :=
(fun (b3:Bool) n4 =>
 aa (decide (n4 < (s1.size:Int))) (
 aa (decide (0<=n4)) (
 Q1 (s1.data.toList[n4.toNat]?) fun c5 =>
 aa (decide ((c5.toNat:Int) < 97)) (
 some false) (
 aa (decide (0<=n4)) (
 Q1 (s1.data.toList[n4.toNat]?) fun c6 =>
 aa (decide ((c6.toNat:Int) > 122)) (
 some false) (
 bV (b3,(i64.wrap (n4+1))))) none)) none) (
 xe b3)) s.1 s.2
theorem e76 (d:Nat) (s1:ByteArray):Sz (d+1) s1 =
 Q8 (xd d s1 (w_ d s1)) Qd (false,0):=by kernel_rfl
theorem SA (d:Nat) (x1:t1):Fq (d+1) x1 =
 Q1 (i_ d x1.1 1 999) fun r2 =>
 aa r2 (
 Q1 (i_ d x1.2.2.1 1 100000) fun r3 =>
 aa r3 (
 Q1 (i_ d x1.2.2.2.1 x1.2.2.1 100000) fun r4 =>
 aa r4 (
 Q1 (i_ d x1.2.2.2.2.1 1500 1000000) fun r5 =>
 aa r5 (
 Q1 (i_ d x1.2.2.2.2.2.1 1500 1000000) fun r6 =>
 aa r6 (
 Q1 (i_ d x1.2.2.2.2.2.2.1 0 7) fun r7 =>
 some r7) (
 some false)) (
 some false)) (
 some false)) (
 some false)) (
 some false):=by kernel_rfl
noncomputable def Ky (d:Nat) (n4:Int):Option Int :=
 some (-1)
noncomputable def xg (d:Nat) (x1:t3) (n2:Int) (xh:Int->Option Int) (bM:t10->Option Int) (s:t10):Option Int :=
(fun n4 n5 =>
 aa (decide (n5 < (x1.2.1.length:Int))) (
 aa (decide (0<=n5)) (
 Q1 (x1.2.1[n5.toNat]?) fun x6 =>
 aa (x6.1==n2) (
 some n5) (
 bM (n4,(i64.wrap (n5+1))))) none) (
 xh n4)) s.1 s.2
theorem e58 (d:Nat) (x1:t3) (n2:Int):Fs (d+1) x1 n2 =
 Q8 (xg d x1 n2 (Ky d)) Qd (0,0):=by kernel_rfl
noncomputable def kP (d:Nat) (l4:List Int):Option (List Int) :=
 some l4
noncomputable def kQ (d:Nat) (fA:(List Int)->Option (List Int)) (x1:t3) (bM:t11->Option (List Int)) (n4:Int) (l5:List Int) (b6 b7:Bool):Option (List Int) :=
 aa b7 (
 aa (Nat.ble ((l5.length+[n4].length)*8) Q7) (
 aa (decide (0<=n4)) (
 Q1 (x1.2.1[n4.toNat]?) fun x8 =>
 Q1 (Fs d x1 x8.2.1) fun r9 =>
 bM (r9,(l5++[n4]))) none) none) (
 fA l5)
noncomputable def kR (d:Nat) (x1:t3) (fA:(List Int)->Option (List Int)) (bM:t11->Option (List Int)) (s:t11):Option (List Int) :=
(fun n4 (l5:List Int) =>
 aa (decide (n4>=0)) (
 kQ d fA x1 bM n4 l5 true (decide ((l5.length:Int)<=8))) (
 kQ d fA x1 bM n4 l5 false false)) s.1 s.2
theorem SB (d:Nat) (x1:t3) (n2:Int):Ft (d+1) x1 n2 =
 Q8 (kR d x1 (kP d)) Qd (n2,[]):=by kernel_rfl
noncomputable def Fu (d:Nat) (l4:List Int):Option (List Int) :=
 some l4
noncomputable def oW (d:Nat) (x1:t3) (n2:Int) (s_:(List Int)->Option (List Int)) (bM:t15->Option (List Int)) (s:t15):Option (List Int) :=
(fun (l4:List Int) n5 =>
 aa (decide (n5 < (x1.2.1.length:Int))) (
 aa (decide (0<=n5)) (
 Q1 (x1.2.1[n5.toNat]?) fun x6 =>
 aa (decide (0<=n2)) (
 Q1 (x1.2.1[n2.toNat]?) fun x7 =>
 aa (x6.2.1==x7.1) (
 aa (Nat.ble ((l4.length+[n5].length)*8) Q7) (
 bM ((l4++[n5]),(i64.wrap (n5+1)))) none) (
 bM (l4,(i64.wrap (n5+1))))) none) none) (
 s_ l4)) s.1 s.2
theorem SC (d:Nat) (x1:t3) (n2:Int):kS (d+1) x1 n2 =
 Q8 (oW d x1 n2 (Fu d)) Qd ([],0):=by kernel_rfl
noncomputable def Fv (d:Nat) (n6:Int):Option Int :=
 some n6
noncomputable def oX (d:Nat) (x1:t3) (r4:List Int) (tc:Int->Option Int) (gS:t10->Option Int) (s:t10):Option Int :=
(fun n6 n7 =>
 aa (decide (n7 < (r4.length:Int))) (
 aa (decide (0<=n7)) (
 aa (Nat.blt (n7.toNat) r4.length) (
 Q1 (r4[n7.toNat]?) fun n8 =>
 aa (decide (0<=n8)) (
 Q1 (x1.2.1[n8.toNat]?) fun x9 =>
 gS ((i64.wrap (n6 - x9.2.2.1)),(i64.wrap (n7+1)))) none) none) none) (
 tc n6)) s.1 s.2
theorem SD (d:Nat) (x1:t3) (n2:Int):Fw (d+1) x1 n2 =
 aa (decide (0<=n2)) (
 Q1 (x1.2.1[n2.toNat]?) fun x3 =>
 Q1 (kS d x1 n2) fun r4 =>
 Q8 (oX d x1 r4 (Fv d)) Qd (x3.2.2.1,0)) none:=by kernel_rfl
theorem SE (d:Nat) (x1:t3) (n2:Int):td (d+1) x1 n2 =
 Q1 (kS d x1 n2) fun r3 =>
 some ((r3.length:Int)==0):=by kernel_rfl
noncomputable def Kz (d:Nat) (b6:Bool):Option Bool :=
 some true
noncomputable def j4 (d:Nat) (gS:t9->Option Bool) (b6:Bool) (n7:Int) (b14 Y5 Y6 b17 Y7:Bool):Option Bool :=
 aa Y7 (
 some false) (
 gS (b6,(i64.wrap (n7+1))))
noncomputable def j5 (d:Nat) (x1:t3) (gS:t9->Option Bool) (b6:Bool) (n7:Int) (x8:t1) (KA AL Oe vt:Bool):Option Bool :=
 aa vt (
 some false) (
 Q1 (td d x1 n7) fun jA =>
 aa jA (
 Q1 (i_ d x8.2.2.2.2.2.2.2 1 60) fun vu =>
 aa (!vu) (
 j4 d gS b6 n7 jA true (!vu) true true) (
 Q1 (td d x1 n7) fun oY =>
 aa (!oY) (
 j4 d gS b6 n7 jA true (!vu) false (x8.2.2.2.2.2.2.2 != 0)) (
 j4 d gS b6 n7 jA true (!vu) false false))) (
 Q1 (td d x1 n7) fun Fx =>
 aa (!Fx) (
 j4 d gS b6 n7 jA false false false (x8.2.2.2.2.2.2.2 != 0)) (
 j4 d gS b6 n7 jA false false false false)))
noncomputable def xj (d:Nat) (x1:t3) (xk:Bool->Option Bool) (gS:t9->Option Bool) (s:t9):Option Bool :=
(fun (b6:Bool) n7 =>
 aa (decide (n7 < (x1.2.1.length:Int))) (
 aa (decide (0<=n7)) (
 Q1 (x1.2.1[n7.toNat]?) fun x8 =>
 Q1 (Ft d x1 n7) fun r9 =>
 aa (decide ((r9.length:Int) > 8)) (
 j5 d x1 gS b6 n7 x8 true true true true) (
 aa (decide (0<=((i64.wrap ((r9.length:Int) - 1)):Int))) (
 aa (Nat.blt (((i64.wrap ((r9.length:Int) - 1)):Int).toNat) r9.length) (
 Q1 (r9[((i64.wrap ((r9.length:Int) - 1)):Int).toNat]?) fun dV =>
 aa (decide (0<=dV)) (
 Q1 (x1.2.1[dV.toNat]?) fun bP =>
 aa (bP.2.1 != 0) (
 j5 d x1 gS b6 n7 x8 false (bP.2.1 != 0) true true) (
 Q1 (Fw d x1 n7) fun j6 =>
 j5 d x1 gS b6 n7 x8 false (bP.2.1 != 0) false (decide (j6 < 0)))) none) none) none)) none) (
 xk b6)) s.1 s.2
noncomputable def xl (d:Nat) (x1:t3) (b3:Bool) (n4:Int):Option Bool :=
 aa (n4 != 1) (
 some false) (
 Q8 (xj d x1 (Kz d)) Qd (b3,0))
noncomputable def rG (d:Nat) (bV:(Bool×Int×Int)->Option Bool) (b3:Bool) (n4 n5:Int) (x6:t1) (b7 b8 b9 KA:Bool):Option Bool :=
 aa KA (
 some false) (
 aa (x6.2.1==0) (
 bV (b3,(i64.wrap (n4+1)),(i64.wrap (n5+1)))) (
 bV (b3,n4,(i64.wrap (n5+1)))))
noncomputable def xm (d:Nat) (x1:t3) (xq:Bool->Int->Option Bool) (bV:(Bool×Int×Int)->Option Bool) (s:(Bool×Int×Int)):Option Bool :=
(fun (b3:Bool) n4 n5 =>
 aa (decide (n5 < (x1.2.1.length:Int))) (
 aa (decide (0<=n5)) (
 Q1 (x1.2.1[n5.toNat]?) fun x6 =>
 Q1 (Fq d x6) fun r7 =>
 aa (!r7) (
 rG d bV b3 n4 n5 x6 r7 (!r7) true true) (
 aa (decide (n5 > 0)) (
 aa (decide (0<=((i64.wrap (n5 - 1)):Int))) (
 Q1 (x1.2.1[((i64.wrap (n5 - 1)):Int).toNat]?) fun x8 =>
 rG d bV b3 n4 n5 x6 r7 (!r7) false (decide (x8.1>=x6.1))) none) (
 rG d bV b3 n4 n5 x6 r7 (!r7) false false))) none) (
 xq b3 n4)) s.1 s.2.1 s.2.2
theorem e77 (d:Nat) (x1:t3):SF (d+1) x1 =
 Q8 (xm d x1 (xl d x1)) Qd (false,0,0):=by kernel_rfl
theorem e79 (d:Nat) (x1:t3) (n2:Int):KB (d+1) x1 n2 =
 Q1 (Fs d x1 n2) fun r3 =>
 aa (decide (r3>=0)) (
 Q1 (td d x1 r3) fun r4 =>
 some r4) (
 some false):=by kernel_rfl
theorem SG (d:Nat) (x1:t5):Fy (d+1) x1 =
 Q1 (i_ d x1.1 1 99) fun r2 =>
 aa r2 (
 Q1 (i_ d x1.2.1 0 3) fun r3 =>
 aa r3 (
 Q1 (i_ d x1.2.2.1 0 65535) fun r4 =>
 aa r4 (
 Q1 (i_ d x1.2.2.2.1 0 65535) fun r5 =>
 aa r5 (
 some (((i64.wrap ((BitVec.ofInt i64.bits x1.2.2.2.1 &&& BitVec.ofInt i64.bits x1.2.2.1).toNat:Int)):Int)==x1.2.2.2.1)) (
 some false)) (
 some false)) (
 some false)) (
 some false):=by kernel_rfl
noncomputable def DI (d:Nat) (x1:t3) (b3:Bool):Option Bool :=
 some (decide ((x1.2.2.1.length:Int)<=16))
noncomputable def nj (d:Nat) (bV:t9->Option Bool) (b3:Bool) (n4:Int) (b6 b7 b8 b9 KA AL:Bool):Option Bool :=
 aa AL (
 some false) (
 bV (b3,(i64.wrap (n4+1))))
noncomputable def xu (d:Nat) (x1:t3) (xw:Bool->Option Bool) (bV:t9->Option Bool) (s:t9):Option Bool :=
(fun (b3:Bool) n4 =>
 aa (decide (n4 < (x1.2.2.1.length:Int))) (
 aa (decide (0<=n4)) (
 Q1 (x1.2.2.1[n4.toNat]?) fun x5 =>
 Q1 (Fy d x5) fun r6 =>
 aa (!r6) (
 nj d bV b3 n4 r6 (!r6) true true true true) (
 aa (decide (n4 > 0)) (
 aa (decide (0<=((i64.wrap (n4 - 1)):Int))) (
 Q1 (x1.2.2.1[((i64.wrap (n4 - 1)):Int).toNat]?) fun x7 =>
 aa (decide (x7.1>=x5.1)) (
 nj d bV b3 n4 r6 (!r6) false (decide (x7.1>=x5.1)) true true) (
 Q1 (KB d x1 x5.2.2.2.2) fun r8 =>
 nj d bV b3 n4 r6 (!r6) false (decide (x7.1>=x5.1)) false (!r8))) none) (
 Q1 (KB d x1 x5.2.2.2.2) fun r9 =>
 nj d bV b3 n4 r6 (!r6) false false false (!r9)))) none) (
 xw b3)) s.1 s.2
theorem e78 (d:Nat) (x1:t3):SH (d+1) x1 =
 Q8 (xu d x1 (DI d x1)) Qd (false,0):=by kernel_rfl
theorem e36 (d:Nat) (x1:t3):Of (d+1) x1 =
 Q1 (Sz d x1.1) fun r2 =>
 aa r2 (
 Q1 (i_ d (x1.2.1.length:Int) 1 24) fun r3 =>
 aa r3 (
 Q1 (SF d x1) fun r4 =>
 aa r4 (
 Q1 (SH d x1) fun r5 =>
 aa r5 (
 aa (x1.2.2.2==0) (
 some true) (
 Q1 (KB d x1 x1.2.2.2) fun r6 =>
 some r6)) (
 some false)) (
 some false)) (
 some false)) (
 some false):=by kernel_rfl
noncomputable def kT (d:Nat) (l1:List t1) (x2:t1) (n4:Int):Option (List t1) :=
 aa (decide (0<=n4)) (
 aa (Nat.ble (n4.toNat) l1.length) (
 aa (Nat.ble ((([]:List t1).length+(l1.take (n4.toNat)).length)*64) Q7) (
 aa (Nat.ble (((([]:List t1)++(l1.take (n4.toNat))).length+[x2].length)*64) Q7) (
 aa (decide (0<=n4)) (
 aa (Nat.ble (n4.toNat) l1.length) (
 aa (Nat.ble ((((([]:List t1)++(l1.take (n4.toNat)))++[x2]).length+(l1.drop (n4.toNat)).length)*64) Q7) (
 some (((([]:List t1)++(l1.take (n4.toNat)))++[x2])++(l1.drop (n4.toNat)))) none) none) none) none) none) none) none
noncomputable def kU (d:Nat) (l1:List t1) (x2:t1) (j7 bM:Int->Option (List t1)) (s:Int):Option (List t1) :=
(fun n4 =>
 aa (decide (n4 < (l1.length:Int))) (
 aa (decide (0<=n4)) (
 Q1 (l1[n4.toNat]?) fun x5 =>
 aa (decide (x5.1 < x2.1)) (
 bM (i64.wrap (n4+1))) (
 j7 n4)) none) (
 j7 n4)) s
theorem SI (d:Nat) (l1:List t1) (x2:t1):BI (d+1) l1 x2 =
 Q8 (kU d l1 x2 (kT d l1 x2)) Qd 0:=by kernel_rfl
noncomputable def xx (d:Nat) (x1:t0) (s3:ByteArray) (n4:Int) (l5:List t1) (l6:List t5):Option t3 :=
 Q1 (i_ d x1.2.2.2.2.2.2.2.2 0 (i64.wrap ((x1.2.1.length:Int) - 1))) fun r7 =>
 aa r7 (
 aa (decide (0<=x1.2.2.2.2.2.2.2.2)) (
 Q1 (x1.2.1[x1.2.2.2.2.2.2.2.2.toNat]?) fun x8 =>
 some (s3,l5,l6,x8.1)) none) (
 some (s3,l5,l6,n4))
noncomputable def xy (d:Nat) (x1:t0) (xz:ByteArray->Int->(List t1)->(List t5)->Option t3) (bV:(Int×t3)->Option t3) (s:(Int×t3)):Option t3 :=
(fun n3 (x4:t3) =>
 aa (decide (n3 < (x1.2.1.length:Int))) (
 aa (decide (0<=n3)) (
 Q1 (x1.2.1[n3.toNat]?) fun x5 =>
 Q1 (BI d x4.2.1 x5) fun r6 =>
 bV ((i64.wrap (n3+1)),(x4.1,r6,x4.2.2))) none) (
 xz x4.1 x4.2.2.2 x4.2.1 x4.2.2.1)) s.1 s.2
theorem e57 (d:Nat) (x1:t0):Og (d+1) x1 =
 aa (Nat.ble ((([]:List t5).length+x1.2.2.2.2.2.2.1.length)*40) Q7) (
 Q8 (xy d x1 (xx d x1)) Qd (0,(x1.1,[],(([]:List t5)++x1.2.2.2.2.2.2.1),0))) none:=by kernel_rfl
noncomputable def Fz (d:Nat) (l5:List Int):Option (List Int) :=
 some l5
noncomputable def oZ (d:Nat) (x1:t3) (r3:List Int) (th:(List Int)->Option (List Int)) (ja:t15->Option (List Int)) (s:t15):Option (List Int) :=
(fun (l5:List Int) n6 =>
 aa (decide (n6 < (r3.length:Int))) (
 aa (decide (0<=n6)) (
 aa (Nat.blt (n6.toNat) r3.length) (
 Q1 (r3[n6.toNat]?) fun n7 =>
 Q1 (o5 d x1 n7) fun r8 =>
 aa (Nat.ble ((l5.length+r8.length)*8) Q7) (
 ja ((l5++r8),(i64.wrap (n6+1)))) none) none) none) (
 th l5)) s.1 s.2
theorem SJ (d:Nat) (x1:t3) (n2:Int):o5 (d+1) x1 n2 =
 Q1 (kS d x1 n2) fun r3 =>
 Q8 (oZ d x1 r3 (Fz d)) Qd ([n2],0):=by kernel_rfl
noncomputable def xA (d:Nat) (n3:Int):Option Int :=
 some n3
noncomputable def kV (d:Nat) (x1:t3) (tj bV:Int->Option Int) (s:Int):Option Int :=
(fun n3 =>
 aa (decide (0<=n3)) (
 Q1 (x1.2.1[n3.toNat]?) fun x4 =>
 aa (x4.2.1 != 0) (
 bV (i64.wrap (n3+1))) (
 tj n3)) none) s
theorem SK (d:Nat) (x1:t3):FA (d+1) x1 =
 Q8 (kV d x1 (xA d)) Qd 0:=by kernel_rfl
noncomputable def o6 (d:Nat) (x1:t3) (l5:List Int) (Y8:ByteArray) (eK:Int) (gT:List t1) (dW eS FB KC:List Int) (xB:List t5) (IB:List Int):Option t0 :=
 aa (x1.2.2.2 != 0) (
 Q1 (Fs d x1 x1.2.2.2) fun SL =>
 aa (decide (0<=SL)) (
 aa (Nat.blt (SL.toNat) l5.length) (
 Q1 (l5[SL.toNat]?) fun dL =>
 some (Y8,gT,dW,eS,FB,KC,xB,IB,dL)) none) none) (
 some (Y8,gT,dW,eS,FB,KC,xB,IB,eK))
noncomputable def kW (d:Nat) (x1:t3) (l5:List Int) (tn:ByteArray->Int->(List t1)->(List Int)->(List Int)->(List Int)->(List Int)->(List t5)->(List Int)->Option t0) (FC:(Int×t0)->Option t0) (s:(Int×t0)):Option t0 :=
(fun eD (fR:t0) =>
 aa (decide (eD < (x1.2.2.1.length:Int))) (
 aa (decide (0<=eD)) (
 Q1 (x1.2.2.1[eD.toNat]?) fun nk =>
 Q1 (Fs d x1 nk.2.2.2.2) fun BJ =>
 aa (decide (0<=BJ)) (
 aa (Nat.blt (BJ.toNat) l5.length) (
 Q1 (l5[BJ.toNat]?) fun o7 =>
 aa (Nat.ble ((fR.2.2.2.2.2.2.2.1.length+[o7].length)*8) Q7) (
 FC ((i64.wrap (eD+1)),(fR.1,fR.2.1,fR.2.2.1,fR.2.2.2.1,fR.2.2.2.2.1,fR.2.2.2.2.2.1,fR.2.2.2.2.2.2.1,(fR.2.2.2.2.2.2.2.1++[o7]),fR.2.2.2.2.2.2.2.2))) none) none) none) none) (
 tn fR.1 fR.2.2.2.2.2.2.2.2 fR.2.1 fR.2.2.1 fR.2.2.2.1 fR.2.2.2.2.1 fR.2.2.2.2.2.1 fR.2.2.2.2.2.2.1 fR.2.2.2.2.2.2.2.1)) s.1 s.2
noncomputable def kX (d:Nat) (x1:t3) (l5:List Int) (s7:ByteArray) (n8:Int) (l9:List t1) (l10 kY DJ fS:List Int) (j8:List t5) (ig:List Int):Option t0 :=
 Q8 (kW d x1 l5 (o6 d x1 l5)) Qd (0,(s7,l9,l10,kY,DJ,fS,j8,ig,n8))
noncomputable def kZ (d:Nat) (x1:t3) (gd:(Int×t0)->Option t0) (n7:Int) (x8:t0) (n9:Int) (aR:t1) (jM nq eD:Int) (Y7:Bool):Option t0 :=
 aa (Nat.ble ((x8.2.2.1.length+[jM].length)*8) Q7) (
 aa (Nat.ble ((x8.2.2.2.1.length+[eD].length)*8) Q7) (
 aa (Nat.ble ((x8.2.2.2.2.1.length+[nq].length)*8) Q7) (
 Q1 (o5 d x1 n9) fun vw =>
 aa (Nat.ble ((x8.2.2.2.2.2.1.length+[(i64.wrap (n7+(vw.length:Int)))].length)*8) Q7) (
 gd ((i64.wrap (n7+1)),(x8.1,(x8.2.1++[aR]),(x8.2.2.1++[jM]),(x8.2.2.2.1++[eD]),(x8.2.2.2.2.1++[nq]),(x8.2.2.2.2.2.1++[(i64.wrap (n7+(vw.length:Int)))]),x8.2.2.2.2.2.2))) none) none) none) none
noncomputable def k_ (d:Nat) (x1:t3) (l5:List Int) (gd:(Int×t0)->Option t0) (n7:Int) (x8:t0) (n9:Int) (aR:t1) (jM nq:Int) (Y5:Bool):Option t0 :=
 Q1 (kS d x1 n9) fun oY =>
 aa (decide ((oY.length:Int) > 0)) (
 aa (Nat.blt 0 oY.length) (
 Q1 (oY[0]?) fun eD =>
 aa (decide (0<=eD)) (
 aa (Nat.blt (eD.toNat) l5.length) (
 Q1 (l5[eD.toNat]?) fun eK =>
 kZ d x1 gd n7 x8 n9 aR jM nq eK true) none) none) none) (
 kZ d x1 gd n7 x8 n9 aR jM nq (-1) false)
noncomputable def xC (d:Nat) (x1:t3) (l5:List Int) (gd:(Int×t0)->Option t0) (n7:Int) (x8:t0) (n9:Int) (aR:t1) (jM dM eD:Int):Option t0 :=
 k_ d x1 l5 gd n7 x8 n9 aR jM dM true
noncomputable def o8 (d:Nat) (l5 jA:List Int) (nr:t10->Option t0) (dM eD:Int) (b19 KD:Bool):Option t0 :=
 aa KD (
 aa (decide (0<=((i64.wrap (eD+1)):Int))) (
 aa (Nat.blt (((i64.wrap (eD+1)):Int).toNat) jA.length) (
 Q1 (jA[((i64.wrap (eD+1)):Int).toNat]?) fun o7 =>
 aa (decide (0<=o7)) (
 aa (Nat.blt (o7.toNat) l5.length) (
 Q1 (l5[o7.toNat]?) fun n22 =>
 nr (n22,(i64.wrap (eD+1)))) none) none) none) none) (
 nr (dM,(i64.wrap (eD+1))))
noncomputable def ld (d:Nat) (l5:List Int) (n9:Int) (jA:List Int) (tq:Int->Int->Option t0) (nr:t10->Option t0) (s:t10):Option t0 :=
(fun dM eD =>
 aa (decide (eD < (jA.length:Int))) (
 aa (decide (0<=eD)) (
 aa (Nat.blt (eD.toNat) jA.length) (
 Q1 (jA[eD.toNat]?) fun eK =>
 aa (eK==n9) (
 o8 d l5 jA nr dM eD true (decide (((i64.wrap (eD+1)):Int) < (jA.length:Int)))) (
 o8 d l5 jA nr dM eD false false)) none) none) (
 tq dM eD)) s.1 s.2
noncomputable def jb (d:Nat) (x1:t3) (r3 l5:List Int) (tu:ByteArray->Int->(List t1)->(List Int)->(List Int)->(List Int)->(List Int)->(List t5)->(List Int)->Option t0) (gd:(Int×t0)->Option t0) (s:(Int×t0)):Option t0 :=
(fun n7 (x8:t0) =>
 aa (decide (n7 < (r3.length:Int))) (
 aa (decide (0<=n7)) (
 aa (Nat.blt (n7.toNat) r3.length) (
 Q1 (r3[n7.toNat]?) fun n9 =>
 aa (decide (0<=n9)) (
 Q1 (x1.2.1[n9.toNat]?) fun aR =>
 aa (Nat.ble ((x8.2.1.length+[aR].length)*64) Q7) (
 aa (decide (0<=n9)) (
 Q1 (x1.2.1[n9.toNat]?) fun bP =>
 Q1 (Fs d x1 bP.2.1) fun j6 =>
 aa (decide (j6>=0)) (
 aa (decide (0<=j6)) (
 aa (Nat.blt (j6.toNat) l5.length) (
 Q1 (l5[j6.toNat]?) fun jM =>
 Q1 (kS d x1 j6) fun jA =>
 Q8 (ld d l5 n9 jA (xC d x1 l5 gd n7 x8 n9 aR jM)) Qd ((-1),0)) none) none) (
 k_ d x1 l5 gd n7 x8 n9 aR (-1) (-1) false)) none) none) none) none) none) (
 tu x8.1 x8.2.2.2.2.2.2.2.2 x8.2.1 x8.2.2.1 x8.2.2.2.1 x8.2.2.2.2.1 x8.2.2.2.2.2.1 x8.2.2.2.2.2.2.1 x8.2.2.2.2.2.2.2.1)) s.1 s.2
noncomputable def o9 (d:Nat) (x1:t3) (r3 l5:List Int):Option t0 :=
 aa (Nat.ble ((([]:List t5).length+x1.2.2.1.length)*40) Q7) (
 Q8 (jb d x1 r3 l5 (kX d x1 l5)) Qd (0,(x1.1,[],[],[],[],[],(([]:List t5)++x1.2.2.1),[],(-1)))) none
noncomputable def o_ (d:Nat) (r3:List Int) (tv:(List Int)->Option t0) (ja:t11->Option t0) (s:t11):Option t0 :=
(fun n5 (l6:List Int) =>
 aa (decide (n5 < (r3.length:Int))) (
 aa (decide (0<=n5)) (
 aa (Nat.blt (n5.toNat) r3.length) (
 Q1 (r3[n5.toNat]?) fun n7 =>
 aa (decide (0<=n7)) (
 aa (Nat.blt (n7.toNat) l6.length) (
 Q1 (l6[n7.toNat]?) fun n8 =>
 ja ((i64.wrap (n5+1)),(l6.set (n7.toNat) n5))) none) none) none) none) (
 tv l6)) s.1 s.2
theorem SM (d:Nat) (x1:t3):BK (d+1) x1 =
 Q1 (FA d x1) fun r2 =>
 Q1 (o5 d x1 r2) fun r3 =>
 aa (decide (0<=(r3.length:Int))) (
 aa (decide (0<=(r3.length:Int))) (
 aa (Nat.ble ((r3.length:Int).toNat) ((r3.length:Int).toNat)&&Nat.ble (((r3.length:Int).toNat)*8) Q7) (
 Q8 (o_ d r3 (o9 d x1 r3)) Qd (0,(List.replicate ((r3.length:Int).toNat) (0:Int)))) none) none) none:=by kernel_rfl
noncomputable def FD (d:Nat) (b4:Bool):Option Bool :=
 some true
noncomputable def pe (d:Nat) (l1 l2:List Int) (tw:Bool->Option Bool) (bM:t9->Option Bool) (s:t9):Option Bool :=
(fun (b4:Bool) n5 =>
 aa (decide (n5 < (l1.length:Int))) (
 aa (decide (0<=n5)) (
 Q1 (l1[n5.toNat]?) fun n6 =>
 aa (decide (0<=n5)) (
 Q1 (l2[n5.toNat]?) fun n7 =>
 aa (n6 != n7) (
 some false) (
 bM (b4,(i64.wrap (n5+1))))) none) none) (
 tw b4)) s.1 s.2
theorem SN (d:Nat) (l1 l2:List Int):pg (d+1) l1 l2 =
 aa ((l1.length:Int) != (l2.length:Int)) (
 some false) (
 Q8 (pe d l1 l2 (FD d)) Qd (false,0)):=by kernel_rfl
noncomputable def pn (d:Nat) (x1 x2:t0) (b7:Bool):Option Bool :=
 Q1 (pg d x1.2.2.1 x2.2.2.1) fun r8 =>
 aa r8 (
 Q1 (pg d x1.2.2.2.1 x2.2.2.2.1) fun r9 =>
 aa r9 (
 Q1 (pg d x1.2.2.2.2.1 x2.2.2.2.2.1) fun de =>
 aa de (
 Q1 (pg d x1.2.2.2.2.2.1 x2.2.2.2.2.2.1) fun gU =>
 aa gU (
 Q1 (pg d x1.2.2.2.2.2.2.2.1 x2.2.2.2.2.2.2.2.1) fun j6 =>
 some j6) (
 some false)) (
 some false)) (
 some false)) (
 some false)
noncomputable def pq (d:Nat) (x1 x2:t0) (tA:Bool->Option Bool) (gd:t9->Option Bool) (s:t9):Option Bool :=
(fun (b7:Bool) n8 =>
 aa (decide (n8 < (x1.2.2.2.2.2.2.1.length:Int))) (
 aa (decide (0<=n8)) (
 Q1 (x1.2.2.2.2.2.2.1[n8.toNat]?) fun x9 =>
 aa (decide (0<=n8)) (
 Q1 (x2.2.2.2.2.2.2.1[n8.toNat]?) fun aR =>
 aa (!((x9.1==aR.1)&&((x9.2.1==aR.2.1)&&((x9.2.2.1==aR.2.2.1)&&((x9.2.2.2.1==aR.2.2.2.1)&&((x9.2.2.2.2==aR.2.2.2.2)&&true)))))) (
 some false) (
 gd (b7,(i64.wrap (n8+1))))) none) none) (
 tA b7)) s.1 s.2
noncomputable def pz (d:Nat) (x1 x2:t0) (b5:Bool):Option Bool :=
 Q8 (pq d x1 x2 (pn d x1 x2)) Qd (b5,0)
noncomputable def pE (d:Nat) (x1 x2:t0) (tB:Bool->Option Bool) (ja:t9->Option Bool) (s:t9):Option Bool :=
(fun (b5:Bool) n6 =>
 aa (decide (n6 < (x1.2.1.length:Int))) (
 aa (decide (0<=n6)) (
 Q1 (x1.2.1[n6.toNat]?) fun x7 =>
 aa (decide (0<=n6)) (
 Q1 (x2.2.1[n6.toNat]?) fun x8 =>
 aa (!((x7.1==x8.1)&&((x7.2.1==x8.2.1)&&((x7.2.2.1==x8.2.2.1)&&((x7.2.2.2.1==x8.2.2.2.1)&&((x7.2.2.2.2.1==x8.2.2.2.2.1)&&((x7.2.2.2.2.2.1==x8.2.2.2.2.2.1)&&((x7.2.2.2.2.2.2.1==x8.2.2.2.2.2.2.1)&&((x7.2.2.2.2.2.2.2==x8.2.2.2.2.2.2.2)&&true))))))))) (
 some false) (
 ja (b5,(i64.wrap (n6+1))))) none) none) (
 tB b5)) s.1 s.2
noncomputable def jc (d:Nat) (x1 x2:t0) (b3:Bool):Option Bool :=
 aa b3 (
 some false) (
 Q8 (pE d x1 x2 (pz d x1 x2)) Qd (false,0))
theorem SO (d:Nat) (x1 x2:t0):FE (d+1) x1 x2 =
 aa (!(x1.1.toList==x2.1.toList)) (
 jc d x1 x2 true) (
 aa ((x1.2.1.length:Int) != (x2.2.1.length:Int)) (
 jc d x1 x2 true) (
 aa ((x1.2.2.2.2.2.2.1.length:Int) != (x2.2.2.2.2.2.2.1.length:Int)) (
 jc d x1 x2 true) (
 jc d x1 x2 (x1.2.2.2.2.2.2.2.2 != x2.2.2.2.2.2.2.2.2)))):=by kernel_rfl
noncomputable def pG (d:Nat) (x1:t0) (b2:Bool):Option Bool :=
 aa b2 (
 some false) (
 Q1 (Og d x1) fun r3 =>
 Q1 (Of d r3) fun r4 =>
 aa r4 (
 Q1 (BK d r3) fun r5 =>
 Q1 (FE d x1 r5) fun r6 =>
 some r6) (
 some false))
theorem SP (d:Nat) (x1:t0):FF (d+1) x1 =
 aa (decide ((x1.2.1.length:Int) > 24)) (
 pG d x1 true) (
 pG d x1 (decide ((x1.2.2.2.2.2.2.1.length:Int) > 16))):=by kernel_rfl
noncomputable def FG (d:Nat) (b5:Bool):Option Bool :=
 some true
noncomputable def pH (d:Nat) (x1:t0) (x2:t7) (tC:Bool->Option Bool) (ja:t9->Option Bool) (s:t9):Option Bool :=
(fun (b5:Bool) n6 =>
 aa (decide (n6 < (x1.2.1.length:Int))) (
 aa (decide (0<=n6)) (
 Q1 (x1.2.1[n6.toNat]?) fun x7 =>
 aa (decide (0<=n6)) (
 Q1 (x2.1[n6.toNat]?) fun n8 =>
 Q1 (i_ d n8 0 x7.2.2.2.2.1) fun r9 =>
 aa (!r9) (
 some false) (
 aa (decide (0<=n6)) (
 Q1 (x2.2[n6.toNat]?) fun dV =>
 Q1 (i_ d dV 0 x7.2.2.2.2.2.1) fun gU =>
 aa (!gU) (
 some false) (
 ja (b5,(i64.wrap (n6+1))))) none)) none) none) (
 tC b5)) s.1 s.2
noncomputable def pI (d:Nat) (x1:t0) (x2:t7) (b3:Bool):Option Bool :=
 aa b3 (
 some false) (
 Q8 (pH d x1 x2 (FG d)) Qd (false,0))
theorem SQ (d:Nat) (x1:t0) (x2:t7):FH (d+1) x1 x2 =
 aa ((x2.1.length:Int) != (x1.2.1.length:Int)) (
 pI d x1 x2 true) (
 pI d x1 x2 ((x2.2.length:Int) != (x1.2.1.length:Int))):=by kernel_rfl
theorem e70 (d:Nat) (x1:t0) (x2:t7):SS (d+1) x1 x2 =
 Q1 (FF d x1) fun r3 =>
 aa r3 (
 Q1 (FH d x1 x2) fun r4 =>
 some r4) (
 some false):=by kernel_rfl
theorem SU (d:Nat) (x1:t0) (n2:Int):FI (d+1) x1 n2 =
 aa (decide (0<=n2)) (
 Q1 (x1.2.2.2.1[n2.toNat]?) fun n3 =>
 some (decide (n3 < 0))) none:=by kernel_rfl
noncomputable def KF (d:Nat) (l3:List Int):Option (List Int) :=
 some l3
noncomputable def xD (d:Nat) (x1:t0) (xE:(List Int)->Option (List Int)) (bV:t15->Option (List Int)) (s:t15):Option (List Int) :=
(fun (l3:List Int) n4 =>
 aa (decide (n4 < (x1.2.1.length:Int))) (
 Q1 (FI d x1 n4) fun r5 =>
 aa r5 (
 aa (Nat.ble ((l3.length+[n4].length)*8) Q7) (
 bV ((l3++[n4]),(i64.wrap (n4+1)))) none) (
 bV (l3,(i64.wrap (n4+1))))) (
 xE l3)) s.1 s.2
theorem e71 (d:Nat) (x1:t0):DK (d+1) x1 =
 Q8 (xD d x1 (KF d)) Qd ([],0):=by kernel_rfl
theorem SV (d:Nat) (n1:Int):tD (d+1) n1 =
 Q1 (i_ d n1 0 65535) fun r2 =>
 some r2:=by kernel_rfl
theorem e73 (d:Nat) (x1:t4):SW (d+1) x1 =
 Q1 (i_ d x1.1 1 100000) fun r2 =>
 aa r2 (
 Q1 (tD d x1.2.1) fun r3 =>
 aa r3 (
 Q1 (tD d x1.2.2.1) fun r4 =>
 aa r4 (
 Q1 (tD d x1.2.2.2.1) fun r5 =>
 aa r5 (
 Q1 (tD d x1.2.2.2.2.1) fun r6 =>
 aa r6 (
 Q1 (i_ d x1.2.2.2.2.2 1 1500) fun r7 =>
 some r7) (
 some false)) (
 some false)) (
 some false)) (
 some false)) (
 some false):=by kernel_rfl
theorem SX (d:Nat) (x1:t4) (n2:Int):KG (d+1) x1 n2 =
 aa (decide (0<=n2)) (
 aa (Nat.blt (n2.toNat) ([x1.2.1,x1.2.2.1,x1.2.2.2.1,x1.2.2.2.2.1].length)) (
 Q1 ([x1.2.1,x1.2.2.1,x1.2.2.2.1,x1.2.2.2.2.1][n2.toNat]?) fun n3 =>
 some n3) none) none:=by kernel_rfl
theorem SY (d:Nat) (x1:t5) (x2:t4):FJ (d+1) x1 x2 =
 Q1 (KG d x2 x1.2.1) fun r3 =>
 some (((i64.wrap ((BitVec.ofInt i64.bits r3 &&& BitVec.ofInt i64.bits x1.2.2.1).toNat:Int)):Int)==x1.2.2.2.1):=by kernel_rfl
noncomputable def FK (d:Nat) (n4:Int):Option Int :=
 some (-1)
noncomputable def pJ (d:Nat) (l1:List t5) (x2:t4) (tG:Int->Option Int) (bM:t10->Option Int) (s:t10):Option Int :=
(fun n4 n5 =>
 aa (decide (n5 < (l1.length:Int))) (
 aa (decide (0<=n5)) (
 Q1 (l1[n5.toNat]?) fun x6 =>
 Q1 (FJ d x6 x2) fun r7 =>
 aa r7 (
 some n5) (
 bM (n4,(i64.wrap (n5+1))))) none) (
 tG n4)) s.1 s.2
theorem SZ (d:Nat) (l1:List t5) (x2:t4):FL (d+1) l1 x2 =
 Q8 (pJ d l1 x2 (FK d)) Qd (0,0):=by kernel_rfl
theorem e74 (d:Nat) (x1:t0) (x2:t4):Oh (d+1) x1 x2 =
 Q1 (FL d x1.2.2.2.2.2.2.1 x2) fun r3 =>
 aa (decide (r3>=0)) (
 aa (decide (0<=r3)) (
 Q1 (x1.2.2.2.2.2.2.2.1[r3.toNat]?) fun n4 =>
 some n4) none) (
 some x1.2.2.2.2.2.2.2.2):=by kernel_rfl
noncomputable def KH (d:Nat) (b4:Bool):Option Bool :=
 some false
noncomputable def xF (d:Nat) (l1:List Int) (n2:Int) (xG:Bool->Option Bool) (bM:t9->Option Bool) (s:t9):Option Bool :=
(fun (b4:Bool) n5 =>
 aa (decide (n5 < (l1.length:Int))) (
 aa (decide (0<=n5)) (
 Q1 (l1[n5.toNat]?) fun n6 =>
 aa (n6==n2) (
 some true) (
 bM (b4,(i64.wrap (n5+1))))) none) (
 xG b4)) s.1 s.2
theorem e75 (d:Nat) (l1:List Int) (n2:Int):Oi (d+1) l1 n2 =
 Q8 (xF d l1 n2 (KH d)) Qd (false,0):=by kernel_rfl
noncomputable def KI (d:Nat) (b6:Bool):Option Bool :=
 some true
noncomputable def xH (d:Nat) (gS:(Bool×(List Int)×Int)->Option Bool) (n8:Int) (vt:Bool) (nq:Int) (ig:List Int):Option Bool :=
 gS (vt,ig,(i64.wrap (n8+1)))
noncomputable def nu (d:Nat) (x1:t2) (r3:List Int) (n8:Int) (l9:List t4) (xI:Bool->Int->(List Int)->Option Bool) (FM:(Bool×(List Int)×Int)->Option Bool) (s:(Bool×(List Int)×Int)):Option Bool :=
(fun (vt:Bool) (j8:List Int) gE =>
 aa (decide (gE < (l9.length:Int))) (
 aa (decide (0<=gE)) (
 Q1 (l9[gE.toNat]?) fun ou =>
 Q1 (SW d ou) fun Fx =>
 aa (!Fx) (
 some false) (
 Q1 (Oh d x1.1 ou) fun BL =>
 aa (decide (0<=n8)) (
 aa (Nat.blt (n8.toNat) r3.length) (
 Q1 (r3[n8.toNat]?) fun tH =>
 aa (BL != tH) (
 some false) (
 Q1 (Oi d j8 ou.1) fun BJ =>
 aa BJ (
 some false) (
 aa (Nat.ble ((j8.length+[ou.1].length)*8) Q7) (
 FM (vt,(j8++[ou.1]),(i64.wrap (gE+1)))) none))) none) none)) none) (
 xI vt gE j8)) s.1 s.2.1 s.2.2
noncomputable def xJ (d:Nat) (x1:t2) (r3:List Int) (xK:Bool->Option Bool) (gS:(Bool×(List Int)×Int)->Option Bool) (s:(Bool×(List Int)×Int)):Option Bool :=
(fun (b6:Bool) (l7:List Int) n8 =>
 aa (decide (n8 < (x1.2.2.1.length:Int))) (
 aa (decide (0<=n8)) (
 Q1 (x1.2.2.1[n8.toNat]?) fun l9 =>
 aa (decide (0<=n8)) (
 aa (Nat.blt (n8.toNat) r3.length) (
 Q1 (r3[n8.toNat]?) fun dV =>
 aa (decide (0<=dV)) (
 Q1 (x1.1.2.1[dV.toNat]?) fun bP =>
 aa (decide ((l9.length:Int) > bP.2.2.2.2.2.2.2)) (
 some false) (
 Q8 (nu d x1 r3 n8 l9 (xH d gS n8)) Qd (b6,l7,0))) none) none) none) none) (
 xK b6)) s.1 s.2.1 s.2.2
noncomputable def rH (d:Nat) (x1:t2) (r3:List Int) (b4:Bool):Option Bool :=
 aa b4 (
 some false) (
 Q8 (xJ d x1 r3 (KI d)) Qd (false,[],0))
theorem e35 (d:Nat) (x1:t2):S0 (d+1) x1 =
 Q1 (SS d x1.1 x1.2.1) fun r2 =>
 aa (!r2) (
 some false) (
 Q1 (DK d x1.1) fun r3 =>
 aa ((x1.2.2.1.length:Int) != (r3.length:Int)) (
 rH d x1 r3 true) (
 Q1 (i_ d x1.2.2.2.1 (-1) (i64.wrap ((r3.length:Int) - 1))) fun r4 =>
 aa (!r4) (
 rH d x1 r3 true) (
 Q1 (i_ d x1.2.2.2.2 0 1000000) fun r5 =>
 rH d x1 r3 (!r5)))):=by kernel_rfl
noncomputable def KJ (d:Nat) (n4:Int):Option Int :=
 some (-1)
noncomputable def xL (d:Nat) (x1:t0) (n2:Int) (xM:Int->Option Int) (bM:t10->Option Int) (s:t10):Option Int :=
(fun n4 n5 =>
 aa (decide (n5 < (x1.2.1.length:Int))) (
 aa (decide (0<=n5)) (
 Q1 (x1.2.1[n5.toNat]?) fun x6 =>
 aa (x6.1==n2) (
 some n5) (
 bM (n4,(i64.wrap (n5+1))))) none) (
 xM n4)) s.1 s.2
theorem e56 (d:Nat) (x1:t0) (n2:Int):S3 (d+1) x1 n2 =
 Q8 (xL d x1 n2 (KJ d)) Qd (0,0):=by kernel_rfl
noncomputable def FN (d:Nat) (l3 l4:List Int):Option t7 :=
 some (l3,l4)
noncomputable def pK (d:Nat) (x1:t0) (tI:(List Int)->(List Int)->Option t7) (bV:(Int×t7)->Option t7) (s:(Int×t7)):Option t7 :=
(fun n3 (x4:t7) =>
 aa (decide (n3 < (x1.2.1.length:Int))) (
 aa (decide (0<=n3)) (
 Q1 (x1.2.1[n3.toNat]?) fun x5 =>
 aa (Nat.ble ((x4.1.length+[x5.2.2.2.2.1].length)*8) Q7) (
 aa (Nat.ble ((x4.2.length+[x5.2.2.2.2.2.1].length)*8) Q7) (
 bV ((i64.wrap (n3+1)),((x4.1++[x5.2.2.2.2.1]),(x4.2++[x5.2.2.2.2.2.1])))) none) none) none) (
 tI x4.1 x4.2)) s.1 s.2
theorem S4 (d:Nat) (x1:t0):FO (d+1) x1 =
 Q8 (pK d x1 (FN d)) Qd (0,([],[])):=by kernel_rfl
theorem e80 (d:Nat) (x1:t3):RP (d+1) x1 =
 Q1 (BK d x1) fun r2 =>
 Q1 (FO d r2) fun r3 =>
 Q1 (DK d r2) fun r4 =>
 aa (decide (0<=(r4.length:Int))) (
 aa (decide (0<=(r4.length:Int))) (
 aa (Nat.ble ((r4.length:Int).toNat) ((r4.length:Int).toNat)&&Nat.ble (((r4.length:Int).toNat)*24) Q7) (
 some (r2,r3,(List.replicate ((r4.length:Int).toNat) ([]:List t4)),(-1),0)) none) none) none:=by kernel_rfl
theorem e81 (d:Nat) (n1 n2:Int):Oj (d+1) n1 n2 =
 aa (decide (n1 < n2)) (
 some n1) (
 some n2):=by kernel_rfl
theorem e82 (d:Nat) (x1:t2):RU (d+1) x1 =
 aa (decide (x1.2.2.2.1 < 0)) (
 some 0) (
 Q1 (DK d x1.1) fun r2 =>
 aa (decide (0<=x1.2.2.2.1)) (
 aa (Nat.blt (x1.2.2.2.1.toNat) r2.length) (
 Q1 (r2[x1.2.2.2.1.toNat]?) fun n3 =>
 aa (decide (0<=n3)) (
 Q1 (x1.1.2.1[n3.toNat]?) fun x4 =>
 some x4.1) none) none) none):=by kernel_rfl
noncomputable def KK (d:Nat) (s9:ByteArray) (dV iz tJ:Int) (fS:List t1) (j8 ig pL gh:List Int) (ow:List t5) (gT dW eS xB:List Int) (IB:List (List t4)):Option t8 :=
 some (((s9,fS,j8,ig,pL,gh,ow,gT,dV),(dW,eS),IB,iz,tJ),xB)
noncomputable def Dn (d:Nat) (FP:t12->Option t8) (DL n29:Int) (S5:List Int) (j9:List (List t4)):Option t8 :=
 FP (S5,(i64.wrap (DL+1)),j9)
noncomputable def dK (d:Nat) (nv:t12->Option t8) (lg:List Int) (vz:Int) (xN:t4) (n33 n34:Int) (nx:List (List t4)):Option t8 :=
 aa (n33 != 1) (
 aa (Nat.ble ((lg.length+[xN.1].length)*8) Q7) (
 nv ((lg++[xN.1]),(i64.wrap (vz+1)),nx)) none) (
 nv (lg,(i64.wrap (vz+1)),nx))
noncomputable def iX (d:Nat) (nv:t12->Option t8) (lg:List Int) (vz:Int) (j9:List (List t4)) (xN:t4) (KL:t1) (mH:Int):Option t8 :=
 aa (decide (0<=mH)) (
 aa (Nat.blt (mH.toNat) j9.length) (
 Q1 (j9[mH.toNat]?) fun S6 =>
 aa (decide ((S6.length:Int)>=KL.2.2.2.2.2.2.2)) (
 dK d nv lg vz xN 2 KL.1 j9) (
 aa (decide (0<=mH)) (
 aa (Nat.blt (mH.toNat) j9.length) (
 Q1 (j9[mH.toNat]?) fun vA =>
 aa (Nat.ble ((vA.length+[xN].length)*48) Q7) (
 aa (decide (0<=mH)) (
 aa (Nat.blt (mH.toNat) j9.length) (
 aa (Nat.beq (mH.toNat) (mH.toNat)) (
 Q1 (j9[mH.toNat]?) fun l39 =>
 dK d nv lg vz xN 1 KL.1 (j9.set (mH.toNat) (vA++[xN]))) none) none) none) none) none) none)) none) none
noncomputable def ni (d:Nat) (s9:ByteArray) (dV:Int) (fS:List t1) (j8 ig pL gh:List Int) (ow:List t5) (gT:List Int) (lp:Int) (ny S7:Int->Option t8) (s:Int):Option t8 :=
(fun mH =>
 Q1 (DK d (s9,fS,j8,ig,pL,gh,ow,gT,dV)) fun vB =>
 aa (decide (0<=mH)) (
 aa (Nat.blt (mH.toNat) vB.length) (
 Q1 (vB[mH.toNat]?) fun Y9 =>
 aa (Y9 != lp) (
 S7 (i64.wrap (mH+1))) (
 ny mH)) none) none) s
noncomputable def rB (d:Nat) (s9:ByteArray) (dV:Int) (fS:List t1) (j8 ig pL gh:List Int) (ow:List t5) (gT:List Int) (xO:List t4) (xP:Int->(List Int)->(List (List t4))->Option t8) (nv:t12->Option t8) (s:t12):Option t8 :=
(fun (lg:List Int) vz (j9:List (List t4)) =>
 aa (decide (vz < (xO.length:Int))) (
 aa (decide (0<=vz)) (
 Q1 (xO[vz.toNat]?) fun xN =>
 Q1 (Oh d (s9,fS,j8,ig,pL,gh,ow,gT,dV) xN) fun lp =>
 aa (decide (lp < 0)) (
 dK d nv lg vz xN 3 0 j9) (
 aa (decide (0<=lp)) (
 aa (Nat.blt (lp.toNat) fS.length) (
 Q1 (fS[lp.toNat]?) fun KL =>
 Q8 (ni d s9 dV fS j8 ig pL gh ow gT lp (iX d nv lg vz j9 xN KL)) Qd 0) none) none)) none) (
 xP vz lg j9)) s.1 s.2.1 s.2.2
noncomputable def rC (d:Nat) (x1:t2) (s9:ByteArray) (dV:Int) (fS:List t1) (j8 ig pL gh:List Int) (ow:List t5) (gT:List Int) (xQ:(List Int)->(List (List t4))->Option t8) (FP:t12->Option t8) (s:t12):Option t8 :=
(fun (xB:List Int) DL (DM:List (List t4)) =>
 aa (decide (DL < (x1.2.2.1.length:Int))) (
 aa (decide (0<=DL)) (
 Q1 (x1.2.2.1[DL.toNat]?) fun xO =>
 Q8 (rB d s9 dV fS j8 ig pL gh ow gT xO (Dn d FP DL)) Qd (xB,0,DM)) none) (
 xQ xB DM)) s.1 s.2.1 s.2.2
noncomputable def wF (d:Nat) (x1:t2) (s9:ByteArray) (dV iz tJ:Int) (fS:List t1) (j8 ig pL gh:List Int) (ow:List t5) (gT dW eS:List Int) (FB:List (List t4)):Option t8 :=
 Q8 (rC d x1 s9 dV fS j8 ig pL gh ow gT (KK d s9 dV iz tJ fS j8 ig pL gh ow gT dW eS)) Qd ([],0,FB)
noncomputable def wG (d:Nat) (x1:t2) (r7:List Int) (xR:ByteArray->Int->Int->Int->(List t1)->(List Int)->(List Int)->(List Int)->(List Int)->(List t5)->(List Int)->(List Int)->(List Int)->(List (List t4))->Option t8) (xS:(Int×t2)->Option t8) (s:(Int×t2)):Option t8 :=
(fun n9 (aR:t2) =>
 aa (decide (n9 < (r7.length:Int))) (
 aa (decide (0<=n9)) (
 aa (Nat.blt (n9.toNat) r7.length) (
 Q1 (r7[n9.toNat]?) fun iz =>
 aa (decide (0<=iz)) (
 aa (Nat.blt (iz.toNat) aR.1.2.1.length) (
 Q1 (aR.1.2.1[iz.toNat]?) fun dB =>
 Q1 (RU (d+1) x1) fun tK =>
 aa (dB.1==tK) (
 xS ((i64.wrap (n9+1)),(aR.1,aR.2.1,aR.2.2.1,n9,aR.2.2.2.2))) (
 xS ((i64.wrap (n9+1)),aR))) none) none) none) none) (
 xR aR.1.1 aR.1.2.2.2.2.2.2.2.2 aR.2.2.2.1 aR.2.2.2.2 aR.1.2.1 aR.1.2.2.1 aR.1.2.2.2.1 aR.1.2.2.2.2.1 aR.1.2.2.2.2.2.1 aR.1.2.2.2.2.2.2.1 aR.1.2.2.2.2.2.2.2.1 aR.2.1.1 aR.2.1.2 aR.2.2.1)) s.1 s.2
noncomputable def wz (d:Nat) (x1 r3:t2) (l5 l6:List Int):Option t8 :=
 Q1 (DK (d+1) r3.1) fun r7 =>
 Q8 (wG d x1 r7 (wF d x1)) Qd (0,(r3.1,(l5,l6),r3.2.2.1,r3.2.2.2.1,x1.2.2.2.2))
noncomputable def rA (d:Nat) (x1 r3:t2) (xT:(List Int)->(List Int)->Option t8) (ja:t16->Option t8) (s:t16):Option t8 :=
(fun n5 (l6:List Int) (l7:List Int) =>
 aa (decide (n5 < (r3.1.2.1.length:Int))) (
 aa (decide (0<=n5)) (
 aa (Nat.blt (n5.toNat) r3.1.2.1.length) (
 Q1 (r3.1.2.1[n5.toNat]?) fun x8 =>
 Q1 (S3 (d+1) x1.1 x8.1) fun r9 =>
 aa (decide (r9>=0)) (
 aa (decide (0<=r9)) (
 Q1 (x1.2.1.1[r9.toNat]?) fun dV =>
 Q1 (Oj (d+1) dV x8.2.2.2.2.1) fun gU =>
 aa (decide (0<=n5)) (
 aa (Nat.blt (n5.toNat) l6.length) (
 Q1 (l6[n5.toNat]?) fun tJ =>
 aa (decide (0<=r9)) (
 Q1 (x1.2.1.2[r9.toNat]?) fun jM =>
 Q1 (Oj (d+1) jM x8.2.2.2.2.2.1) fun jA =>
 aa (decide (0<=n5)) (
 aa (Nat.blt (n5.toNat) l7.length) (
 Q1 (l7[n5.toNat]?) fun gE =>
 ja ((i64.wrap (n5+1)),(l6.set (n5.toNat) gU),(l7.set (n5.toNat) jA))) none) none) none) none) none) none) (
 ja ((i64.wrap (n5+1)),l6,l7))) none) none) (
 xT l6 l7)) s.1 s.2.1 s.2.2
theorem e37 (d:Nat) (x1:t2) (x2:t3):RW (d+2) x1 x2 =
 Q1 (RP (d+1) x2) fun r3 =>
 Q8 (rA d x1 r3 (wz d x1 r3)) Qd (0,r3.2.1.1,r3.2.1.2):=by kernel_rfl
theorem e59 (d:Nat) (x1:t2) (x2:t3) (b3:Bool):Oa (d+1) x1 x2 b3 =
 aa (!b3) (
 some ((((⟨#[]⟩:ByteArray),[],[],[],[],[],[],[],0),([],[]),[],0,0),[],false)) (
 Q1 (Of d x2) fun r4 =>
 aa (!r4) (
 some ((((⟨#[]⟩:ByteArray),[],[],[],[],[],[],[],0),([],[]),[],0,0),[],false)) (
 Q1 (RW d x1 x2) fun r5 =>
 some (r5.1,r5.2,true))):=by kernel_rfl
theorem e26 (d:Nat) (x1:t2) (l2:List t5):Oc (d+1) x1 l2 =
 Q1 (S0 d x1) fun r3 =>
 aa (!r3) (
 some ((((⟨#[]⟩:ByteArray),[],[],[],[],[],[],[],0),([],[]),[],0,0),[],false)) (
 Q1 (Og d x1.1) fun r4 =>
 aa (Nat.ble ((([]:List t5).length+l2.length)*40) Q7) (
 Q1 (Oa d x1 (r4.1,r4.2.1,(([]:List t5)++l2),r4.2.2.2) true) fun r5 =>
 some (r5.1,r5.2.1,r5.2.2)) none):=by kernel_rfl
theorem S8 (d:Nat) (n1:Int):FQ (d+1) n1 =
 aa (decide (n1>=97)) (
 some (decide (n1<=122))) (
 some false):=by kernel_rfl
noncomputable def FR (d:Nat) (b3:Bool):Option Bool :=
 some false
noncomputable def pM (d:Nat) (s1:ByteArray) (tL:Bool->Option Bool) (bV:t9->Option Bool) (s:t9):Option Bool :=
(fun (b3:Bool) n4 =>
 aa (decide (n4 < 14)) (
 aa (decide (0<=n4)) (
 Q1 (([(⟨#[113,100,105,115,99]⟩:ByteArray),(⟨#[100,101,102,97,117,108,116]⟩:ByteArray),(⟨#[99,108,97,115,115]⟩:ByteArray),(⟨#[114,97,116,101]⟩:ByteArray),(⟨#[99,101,105,108]⟩:ByteArray),(⟨#[98,117,114,115,116]⟩:ByteArray),(⟨#[99,98,117,114,115,116]⟩:ByteArray),(⟨#[112,114,105,111]⟩:ByteArray),(⟨#[108,105,109,105,116]⟩:ByteArray),(⟨#[102,105,108,116,101,114]⟩:ByteArray),(⟨#[115,111,117,114,99,101]⟩:ByteArray),(⟨#[100,101,115,116]⟩:ByteArray),(⟨#[112,111,114,116]⟩:ByteArray),(⟨#[109,97,114,107]⟩:ByteArray)]:List ByteArray)[n4.toNat]?) fun s5 =>
 aa (s5.toList==s1.toList) (
 some true) (
 bV (b3,(i64.wrap (n4+1))))) none) (
 tL b3)) s.1 s.2
theorem S9 (d:Nat) (s1:ByteArray):FT (d+1) s1 =
 Q8 (pM d s1 (FR d)) Qd (false,0):=by kernel_rfl
noncomputable def pN (d:Nat) (s1:ByteArray) (b4:Bool):Option Bool :=
 Q1 (FT d s1) fun r5 =>
 some (!r5)
noncomputable def pO (d:Nat) (s1:ByteArray) (tM:Bool->Option Bool) (bM:t9->Option Bool) (s:t9):Option Bool :=
(fun (b4:Bool) n5 =>
 aa (decide (n5 < (s1.size:Int))) (
 aa (decide (0<=n5)) (
 Q1 (s1.data.toList[n5.toNat]?) fun c6 =>
 Q1 (FQ d (c6.toNat:Int)) fun r7 =>
 aa (!r7) (
 some false) (
 bM (b4,(i64.wrap (n5+1))))) none) (
 tM b4)) s.1 s.2
noncomputable def pP (d:Nat) (s1:ByteArray) (b2:Bool):Option Bool :=
 aa b2 (
 some false) (
 Q8 (pO d s1 (pN d s1)) Qd (false,0))
theorem S_ (d:Nat) (s1:ByteArray):FU (d+1) s1 =
 aa (decide (((s1.size:Int):Int) < 1)) (
 pP d s1 true) (
 pP d s1 (decide (((s1.size:Int):Int) > 8))):=by kernel_rfl
theorem Ta (d:Nat) (n1:Int):FV (d+1) n1 =
 aa (decide (n1>=1)) (
 some (decide (n1<=999))) (
 some false):=by kernel_rfl
noncomputable def xU (d:Nat) (x1:t3) (b3:Bool):Option Bool :=
 aa (decide ((x1.2.1.length:Int)>=1)) (
 some (decide ((x1.2.1.length:Int)<=24))) (
 some false)
noncomputable def pQ (d:Nat) (x1:t3) (tN:Bool->Option Bool) (bV:t9->Option Bool) (s:t9):Option Bool :=
(fun (b3:Bool) n4 =>
 aa (decide (n4 < (x1.2.1.length:Int))) (
 aa (decide (0<=n4)) (
 Q1 (x1.2.1[n4.toNat]?) fun x5 =>
 Q1 (FV d x5.1) fun r6 =>
 aa (!r6) (
 some false) (
 aa (decide (n4 > 0)) (
 aa (decide (0<=((i64.wrap (n4 - 1)):Int))) (
 Q1 (x1.2.1[((i64.wrap (n4 - 1)):Int).toNat]?) fun x7 =>
 aa (decide (x5.1<=x7.1)) (
 some false) (
 bV (b3,(i64.wrap (n4+1))))) none) (
 bV (b3,(i64.wrap (n4+1)))))) none) (
 tN b3)) s.1 s.2
theorem Tb (d:Nat) (x1:t3):FW (d+1) x1 =
 Q8 (pQ d x1 (xU d x1)) Qd (false,0):=by kernel_rfl
noncomputable def xV (d:Nat) (n4:Int):Option Int :=
 some (-1)
noncomputable def jd (d:Nat) (x1:t3) (n2:Int) (nA:Int->Option Int) (bM:t10->Option Int) (s:t10):Option Int :=
(fun n4 n5 =>
 aa (decide (n5 < (x1.2.1.length:Int))) (
 aa (decide (0<=n5)) (
 Q1 (x1.2.1[n5.toNat]?) fun x6 =>
 aa (x6.1==n2) (
 some n5) (
 bM (n4,(i64.wrap (n5+1))))) none) (
 nA n4)) s.1 s.2
theorem e61 (d:Nat) (x1:t3) (n2:Int):KM (d+3) x1 n2 =
 Q8 (jd d x1 n2 (xV d)) Qd (0,0):=by kernel_rfl
noncomputable def FX (d:Nat) (l3:List Int):Option (List Int) :=
 some l3
noncomputable def pR (d:Nat) (bV:t15->Option (List Int)) (l3:List Int) (n4:Int) (b6 b7:Bool):Option (List Int) :=
 aa b7 (
 aa (Nat.ble ((l3.length+[n4].length)*8) Q7) (
 bV ((l3++[n4]),(i64.wrap (n4+1)))) none) (
 bV (l3,(i64.wrap (n4+1))))
noncomputable def pS (d:Nat) (x1:t3) (tO:(List Int)->Option (List Int)) (bV:t15->Option (List Int)) (s:t15):Option (List Int) :=
(fun (l3:List Int) n4 =>
 aa (decide (n4 < (x1.2.1.length:Int))) (
 aa (decide (0<=n4)) (
 Q1 (x1.2.1[n4.toNat]?) fun x5 =>
 aa (x5.2.1 != 0) (
 Q1 (KM d x1 x5.2.1) fun r6 =>
 pR d bV l3 n4 true (decide (r6 < 0))) (
 pR d bV l3 n4 false false)) none) (
 tO l3)) s.1 s.2
theorem Tc (d:Nat) (x1:t3):FY (d+1) x1 =
 Q8 (pS d x1 (FX d)) Qd (([]:List Int),0):=by kernel_rfl
noncomputable def pT (d:Nat) (x1:t3) (n3:Int):Option Bool :=
 aa (n3==1) (
 Q1 (FY d x1) fun r4 =>
 some ((r4.length:Int)==0)) (
 some false)
noncomputable def pU (d:Nat) (x1:t3) (tP:Int->Option Bool) (bV:t10->Option Bool) (s:t10):Option Bool :=
(fun n3 n4 =>
 aa (decide (n4 < (x1.2.1.length:Int))) (
 aa (decide (0<=n4)) (
 Q1 (x1.2.1[n4.toNat]?) fun x5 =>
 aa (x5.2.1==0) (
 bV ((i64.wrap (n3+1)),(i64.wrap (n4+1)))) (
 bV (n3,(i64.wrap (n4+1))))) none) (
 tP n3)) s.1 s.2
theorem Td (d:Nat) (x1:t3):FZ (d+1) x1 =
 Q8 (pU d x1 (pT d x1)) Qd (0,0):=by kernel_rfl
noncomputable def F0 (d:Nat) (n4:Int):Option Int :=
 some (-1)
noncomputable def pV (d:Nat) (l1:List Int) (n2:Int) (tQ:Int->Option Int) (bM:t10->Option Int) (s:t10):Option Int :=
(fun n4 n5 =>
 aa (decide (n5 < (l1.length:Int))) (
 aa (decide (0<=n5)) (
 Q1 (l1[n5.toNat]?) fun n6 =>
 aa (n2==n6) (
 some n5) (
 bM (n4,(i64.wrap (n5+1))))) none) (
 tQ n4)) s.1 s.2
theorem Te (d:Nat) (l1:List Int) (n2:Int):xW (d+1) l1 n2 =
 Q8 (pV d l1 n2 (F0 d)) Qd (0,0):=by kernel_rfl
theorem Tf (d:Nat) (l1:List Int) (n2:Int):F1 (d+1) l1 n2 =
 Q1 (xW d l1 n2) fun r3 =>
 some (decide (r3>=0)):=by kernel_rfl
noncomputable def xX (d:Nat) (b4:Bool) (l5 l6:List Int):Option ((List Int)×Bool) :=
 some (l6,true)
noncomputable def xY (d:Nat) (x1:t3) (tR:Bool->(List Int)->(List Int)->Option ((List Int)×Bool)) (bM:(Int×(List Int)×Bool×(List Int))->Option ((List Int)×Bool)) (s:(Int×(List Int)×Bool×(List Int))):Option ((List Int)×Bool) :=
(fun n4 (l5:List Int) (b6:Bool) (l7:List Int) =>
 aa (decide (n4>=0)) (
 Q1 (F1 d l7 n4) fun r8 =>
 aa r8 (
 some (l7,false)) (
 aa (Nat.ble ((l7.length+[n4].length)*8) Q7) (
 aa (decide (0<=n4)) (
 Q1 (x1.2.1[n4.toNat]?) fun x9 =>
 Q1 (KM d x1 x9.2.1) fun de =>
 bM (de,l5,b6,(l7++[n4]))) none) none)) (
 tR b6 l5 l7)) s.1 s.2.1 s.2.2.1 s.2.2.2
theorem Tg (d:Nat) (x1:t3) (n2:Int):F2 (d+1) x1 n2 =
 Q8 (xY d x1 (xX d)) Qd (n2,[],false,([]:List Int)):=by kernel_rfl
noncomputable def F3 (d:Nat) (b3:Bool):Option Bool :=
 some true
noncomputable def pX (d:Nat) (x1:t3) (tS:Bool->Option Bool) (bV:t9->Option Bool) (s:t9):Option Bool :=
(fun (b3:Bool) n4 =>
 aa (decide (n4 < (x1.2.1.length:Int))) (
 Q1 (F2 d x1 n4) fun r5 =>
 aa (!r5.2) (
 some false) (
 aa (decide ((r5.1.length:Int) > 8)) (
 some false) (
 aa (decide (0<=((i64.wrap ((r5.1.length:Int) - 1)):Int))) (
 aa (Nat.blt (((i64.wrap ((r5.1.length:Int) - 1)):Int).toNat) r5.1.length) (
 Q1 (r5.1[((i64.wrap ((r5.1.length:Int) - 1)):Int).toNat]?) fun n6 =>
 aa (decide (0<=n6)) (
 Q1 (x1.2.1[n6.toNat]?) fun x7 =>
 aa (x7.2.1 != 0) (
 some false) (
 bV (b3,(i64.wrap (n4+1))))) none) none) none))) (
 tS b3)) s.1 s.2
theorem Th (d:Nat) (x1:t3):F4 (d+1) x1 =
 Q8 (pX d x1 (F3 d)) Qd (false,0):=by kernel_rfl
theorem Ti (d:Nat) (x1:t1):F5 (d+1) x1 =
 aa (decide (x1.2.2.1>=1)) (
 aa (decide (x1.2.2.1<=100000)) (
 aa (decide (x1.2.2.2.1>=x1.2.2.1)) (
 some (decide (x1.2.2.2.1<=100000))) (
 some false)) (
 some false)) (
 some false):=by kernel_rfl
noncomputable def jN (d:Nat) (n3:Int):Option Bool :=
 some (!(decide (((-1):Int)>=0)))
noncomputable def ef (d:Nat) (x1:t3) (gV:Int->Option Bool) (bV:t10->Option Bool) (s:t10):Option Bool :=
(fun n3 n4 =>
 aa (decide (n4 < (x1.2.1.length:Int))) (
 aa (decide (0<=n4)) (
 Q1 (x1.2.1[n4.toNat]?) fun x5 =>
 aa (decide (x5.2.2.1 < 0)) (
 some (!(decide (n4>=0)))) (
 aa (decide (x5.2.2.1 > 1000000000)) (
 some (!(decide (n4>=0)))) (
 bV (n3,(i64.wrap (n4+1)))))) none) (
 gV n3)) s.1 s.2
theorem Tj (d:Nat) (x1:t3):F6 (d+4) x1 =
 Q8 (ef d x1 (jN d)) Qd (0,0):=by kernel_rfl
noncomputable def F7 (d:Nat) (l4:List Int):Option (List Int) :=
 some l4
noncomputable def pY (d:Nat) (x1:t3) (n2:Int) (tT:(List Int)->Option (List Int)) (bM:t15->Option (List Int)) (s:t15):Option (List Int) :=
(fun (l4:List Int) n5 =>
 aa (decide (n5 < (x1.2.1.length:Int))) (
 aa (decide (0<=n5)) (
 Q1 (x1.2.1[n5.toNat]?) fun x6 =>
 aa (decide (0<=n2)) (
 Q1 (x1.2.1[n2.toNat]?) fun x7 =>
 aa (x6.2.1==x7.1) (
 aa (Nat.ble ((l4.length+[n5].length)*8) Q7) (
 bM ((l4++[n5]),(i64.wrap (n5+1)))) none) (
 bM (l4,(i64.wrap (n5+1))))) none) none) (
 tT l4)) s.1 s.2
theorem Tl (d:Nat) (x1:t3) (n2:Int):xZ (d+1) x1 n2 =
 Q8 (pY d x1 n2 (F7 d)) Qd (([]:List Int),0):=by kernel_rfl
noncomputable def F8 (d:Nat) (n5:Int):Option Int :=
 some n5
noncomputable def pZ (d:Nat) (x1:t3) (r3:List Int) (tU:Int->Option Int) (ja:t10->Option Int) (s:t10):Option Int :=
(fun n5 n6 =>
 aa (decide (n6 < (r3.length:Int))) (
 aa (decide (0<=n6)) (
 aa (Nat.blt (n6.toNat) r3.length) (
 Q1 (r3[n6.toNat]?) fun n7 =>
 aa (decide (0<=n7)) (
 Q1 (x1.2.1[n7.toNat]?) fun x8 =>
 ja ((i64.wrap (n5+x8.2.2.1)),(i64.wrap (n6+1)))) none) none) none) (
 tU n5)) s.1 s.2
theorem Tm (d:Nat) (x1:t3) (n2:Int):F9 (d+1) x1 n2 =
 Q1 (xZ d x1 n2) fun r3 =>
 Q8 (pZ d x1 r3 (F8 d)) Qd (0,0):=by kernel_rfl
noncomputable def F_ (d:Nat) (l3:List Int):Option (List Int) :=
 some l3
noncomputable def p5 (d:Nat) (x1:t3) (tV:(List Int)->Option (List Int)) (bV:t15->Option (List Int)) (s:t15):Option (List Int) :=
(fun (l3:List Int) n4 =>
 aa (decide (n4 < (x1.2.1.length:Int))) (
 aa (decide (0<=n4)) (
 Q1 (x1.2.1[n4.toNat]?) fun x5 =>
 Q1 (F9 d x1 n4) fun r6 =>
 aa (decide (r6 > x5.2.2.1)) (
 aa (Nat.ble ((l3.length+[n4].length)*8) Q7) (
 bV ((l3++[n4]),(i64.wrap (n4+1)))) none) (
 bV (l3,(i64.wrap (n4+1))))) none) (
 tV l3)) s.1 s.2
theorem Tn (d:Nat) (x1:t3):Ga (d+1) x1 =
 Q8 (p5 d x1 (F_ d)) Qd (([]:List Int),0):=by kernel_rfl
theorem To (d:Nat) (x1:t1):Gb (d+1) x1 =
 aa (decide (x1.2.2.2.2.1>=1500)) (
 aa (decide (x1.2.2.2.2.1<=1000000)) (
 aa (decide (x1.2.2.2.2.2.1>=1500)) (
 aa (decide (x1.2.2.2.2.2.1<=1000000)) (
 aa (decide (x1.2.2.2.2.2.2.1>=0)) (
 some (decide (x1.2.2.2.2.2.2.1<=7))) (
 some false)) (
 some false)) (
 some false)) (
 some false)) (
 some false):=by kernel_rfl
noncomputable def jO (d:Nat) (n4:Int):Option Bool :=
 some (!(decide (((-1):Int)>=0)))
noncomputable def eg (d:Nat) (x1:t3) (n2:Int) (gW:Int->Option Bool) (bM:t10->Option Bool) (s:t10):Option Bool :=
(fun n4 n5 =>
 aa (decide (n5 < (x1.2.1.length:Int))) (
 aa (decide (0<=n5)) (
 Q1 (x1.2.1[n5.toNat]?) fun x6 =>
 aa (decide (0<=n2)) (
 Q1 (x1.2.1[n2.toNat]?) fun x7 =>
 aa (x6.2.1==x7.1) (
 some (!(decide (n5>=0)))) (
 bM (n4,(i64.wrap (n5+1))))) none) none) (
 gW n4)) s.1 s.2
theorem Tp (d:Nat) (x1:t3) (n2:Int):tW (d+4) x1 n2 =
 Q8 (eg d x1 n2 (jO d)) Qd (0,0):=by kernel_rfl
theorem Tq (d:Nat) (x1:t3) (n2:Int):Gc (d+1) x1 n2 =
 aa (decide (0<=n2)) (
 Q1 (x1.2.1[n2.toNat]?) fun x3 =>
 Q1 (tW d x1 n2) fun r4 =>
 aa r4 (
 aa (decide (x3.2.2.2.2.2.2.2>=1)) (
 some (decide (x3.2.2.2.2.2.2.2<=60))) (
 some false)) (
 some (x3.2.2.2.2.2.2.2==0))) none:=by kernel_rfl
theorem Tt (d:Nat) (x1:t3) (n2:Int):x_ (d+1) x1 n2 =
 Q1 (KM d x1 n2) fun r3 =>
 aa (decide (r3>=0)) (
 Q1 (tW d x1 r3) fun r4 =>
 some r4) (
 some false):=by kernel_rfl
theorem Tu (d:Nat) (x1:t5):Ge (d+1) x1 =
 aa (decide (x1.1>=1)) (
 aa (decide (x1.1<=99)) (
 aa (decide (x1.2.1>=0)) (
 aa (decide (x1.2.1<=3)) (
 aa (decide (x1.2.2.1>=0)) (
 aa (decide (x1.2.2.1<=65535)) (
 aa (decide (x1.2.2.2.1>=0)) (
 aa (decide (x1.2.2.2.1<=65535)) (
 some (((i64.wrap ((BitVec.ofInt i64.bits x1.2.2.2.1 &&& ~~~BitVec.ofInt i64.bits x1.2.2.1).toNat:Int)):Int)==0)) (
 some false)) (
 some false)) (
 some false)) (
 some false)) (
 some false)) (
 some false)) (
 some false)) (
 some false):=by kernel_rfl
noncomputable def ya (d:Nat) (x1:t3) (b3:Bool):Option Bool :=
 some (decide ((x1.2.2.1.length:Int)<=16))
noncomputable def je (d:Nat) (bV:t9->Option Bool) (b3:Bool) (n4:Int) (b6 b7 b8 b9 KA AL:Bool):Option Bool :=
 aa AL (
 some false) (
 bV (b3,(i64.wrap (n4+1))))
noncomputable def p6 (d:Nat) (x1:t3) (tX:Bool->Option Bool) (bV:t9->Option Bool) (s:t9):Option Bool :=
(fun (b3:Bool) n4 =>
 aa (decide (n4 < (x1.2.2.1.length:Int))) (
 aa (decide (0<=n4)) (
 Q1 (x1.2.2.1[n4.toNat]?) fun x5 =>
 Q1 (Ge d x5) fun r6 =>
 aa (!r6) (
 je d bV b3 n4 r6 (!r6) true true true true) (
 aa (decide (n4 > 0)) (
 aa (decide (0<=((i64.wrap (n4 - 1)):Int))) (
 Q1 (x1.2.2.1[((i64.wrap (n4 - 1)):Int).toNat]?) fun x7 =>
 aa (decide (x5.1<=x7.1)) (
 je d bV b3 n4 r6 (!r6) false (decide (x5.1<=x7.1)) true true) (
 Q1 (x_ d x1 x5.2.2.2.2) fun r8 =>
 je d bV b3 n4 r6 (!r6) false (decide (x5.1<=x7.1)) false (!r8))) none) (
 Q1 (x_ d x1 x5.2.2.2.2) fun r9 =>
 je d bV b3 n4 r6 (!r6) false false false (!r9)))) none) (
 tX b3)) s.1 s.2
theorem Tv (d:Nat) (x1:t3):Gf (d+1) x1 =
 Q8 (p6 d x1 (ya d x1)) Qd (false,0):=by kernel_rfl
noncomputable def lq (d:Nat) (n8:Int):Option Bool :=
 some (!(decide (((-1):Int)>=0)))
noncomputable def eM (d:Nat) (x1:t3) (dm:Int->Option Bool) (Tw:t10->Option Bool) (s:t10):Option Bool :=
(fun n8 n9 =>
 aa (decide (n9 < (x1.2.1.length:Int))) (
 aa (decide (0<=n9)) (
 Q1 (x1.2.1[n9.toNat]?) fun aR =>
 Q1 (F5 d aR) fun gU =>
 aa (!gU) (
 some (!(decide (n9>=0)))) (
 Tw (n8,(i64.wrap (n9+1))))) none) (
 dm n8)) s.1 s.2
noncomputable def lu (d:Nat) (gE:Int):Option Bool :=
 some (!(decide (((-1):Int)>=0)))
noncomputable def eo (d:Nat) (x1:t3) (dm:Int->Option Bool) (iA:t10->Option Bool) (s:t10):Option Bool :=
(fun gE dM =>
 aa (decide (dM < (x1.2.1.length:Int))) (
 aa (decide (0<=dM)) (
 Q1 (x1.2.1[dM.toNat]?) fun x17 =>
 Q1 (Gb d x17) fun BL =>
 aa (!BL) (
 some (!(decide (dM>=0)))) (
 iA (gE,(i64.wrap (dM+1))))) none) (
 dm gE)) s.1 s.2
noncomputable def KN (d:Nat) (KD:Bool):Option Bool :=
 some true
noncomputable def yb (d:Nat) (x1:t3) (yd:Bool->Option Bool) (Tx:t9->Option Bool) (s:t9):Option Bool :=
(fun (KD:Bool) o7 =>
 aa (decide (o7 < (x1.2.1.length:Int))) (
 Q1 (Gc (d+3) x1 o7) fun ox =>
 aa (!ox) (
 some false) (
 Tx (KD,(i64.wrap (o7+1))))) (
 yd KD)) s.1 s.2
theorem AM (d:Nat) (x1:t3) (n2:Int):tY (d+4) x1 n2 =
 aa (n2==1) (
 Q1 (FU (d+3) x1.1) fun r3 =>
 some r3) (
 aa (n2==2) (
 Q1 (FW (d+3) x1) fun r4 =>
 some r4) (
 aa (n2==3) (
 Q1 (FZ (d+3) x1) fun r5 =>
 some r5) (
 aa (n2==4) (
 Q1 (F4 (d+3) x1) fun r6 =>
 some r6) (
 aa (n2==5) (
 Q8 (eM d x1 (lq d)) Qd (0,0)) (
 aa (n2==6) (
 Q1 (F6 (d+3) x1) fun j6 =>
 aa j6 (
 Q1 (Ga (d+3) x1) fun tK =>
 some ((tK.length:Int)==0)) (
 some false)) (
 aa (n2==7) (
 Q8 (eo d x1 (lu d)) Qd (0,0)) (
 aa (n2==8) (
 Q8 (yb d x1 (KN d)) Qd (false,0)) (
 aa (n2==9) (
 Q1 (Gf (d+3) x1) fun vC =>
 some vC) (
 aa (x1.2.2.2==0) (
 some true) (
 Q1 (x_ (d+3) x1 x1.2.2.2) fun Kh =>
 some Kh)))))))))):=by kernel_rfl
noncomputable def gk (d:Nat) (b4:Bool):Option Bool :=
 some true
noncomputable def fj (d:Nat) (x1:t3) (ye:Bool->Option Bool) (bM:t9->Option Bool) (s:t9):Option Bool :=
(fun (b4:Bool) n5 =>
 aa (decide (n5<=10)) (
 Q1 (tY d x1 n5) fun r6 =>
 aa (!r6) (
 some false) (
 bM (b4,(i64.wrap (n5+1))))) (
 ye b4)) s.1 s.2
noncomputable def yg (d:Nat) (x1:t3) (b2:Bool):Option Bool :=
 aa b2 (
 some false) (
 Q8 (fj d x1 (gk d)) Qd (false,1))
theorem e43 (d:Nat) (x1:t3):Ol (d+1) x1 =
 aa (decide ((x1.2.1.length:Int) > 24)) (
 yg d x1 true) (
 yg d x1 (decide ((x1.2.2.1.length:Int) > 16))):=by kernel_rfl
theorem e66 (d:Nat) (l1:List t5):KO (d+1) l1 =
 IC l1.length (
 some []) (
 aa (Nat.ble ((([]:List t5).length+l1.length)*40) Q7) (
 some (([]:List t5)++l1)) none):=by kernel_rfl
theorem Tz (d:Nat) (l1:List t1):Gg (d+1) l1 =
 IC l1.length (
 some []) (
 aa (Nat.ble ((([]:List t1).length+l1.length)*64) Q7) (
 some (([]:List t1)++l1)) none):=by kernel_rfl
theorem TA (d:Nat) (n1 n2:Int):tZ (d+1) n1 n2 =
 aa (decide (n1 < n2)) (
 some (-1)) (
 aa (decide (n1 > n2)) (
 some 1) (
 some 0)):=by kernel_rfl
noncomputable def p7 (d:Nat) (l6:List t1):Option (List t1) :=
 some l6
noncomputable def p8 (d:Nat) (gS:t13->Option (List t1)) (n6 n9 dV:Int) (AL Oe:Bool) (fS:List t1):Option (List t1) :=
 gS ((i64.wrap (n6+1)),fS)
noncomputable def lz (d:Nat) (fB:Int->Int->Bool->Bool->(List t1)->Option (List t1)) (n2:Int) (xS:t13->Option (List t1)) (n9:Int) (l10:List t1) (AL Oe:Bool):Option (List t1) :=
 aa Oe (
 aa (decide (0<=((i64.wrap (n9 - 1)):Int))) (
 aa (Nat.blt (((i64.wrap (n9 - 1)):Int).toNat) l10.length) (
 Q1 (l10[((i64.wrap (n9 - 1)):Int).toNat]?) fun gD =>
 aa (decide (0<=n9)) (
 aa (Nat.blt (n9.toNat) l10.length) (
 Q1 (l10[n9.toNat]?) fun mG =>
 aa (decide (0<=n9)) (
 aa (Nat.blt (n9.toNat) l10.length) (
 Q1 (l10[n9.toNat]?) fun TB =>
 aa (decide (0<=((i64.wrap (n9 - 1)):Int))) (
 aa (Nat.blt (((i64.wrap (n9 - 1)):Int).toNat) ((l10.set (n9.toNat) gD).length)) (
 Q1 ((l10.set (n9.toNat) gD)[((i64.wrap (n9 - 1)):Int).toNat]?) fun ou =>
 xS ((i64.wrap (n9 - 1)),((l10.set (n9.toNat) gD).set (((i64.wrap (n9 - 1)):Int).toNat) mG))) none) none) none) none) none) none) none) none) (
 fB n9 n9 (decide (n9 > n2)) AL l10)
noncomputable def yh (d:Nat) (n2:Int) (fB:Int->Int->Bool->Bool->(List t1)->Option (List t1)) (xS:t13->Option (List t1)) (s:t13):Option (List t1) :=
(fun n9 (l10:List t1) =>
 aa (decide (n9 > n2)) (
 aa (decide (0<=n9)) (
 aa (Nat.blt (n9.toNat) l10.length) (
 Q1 (l10[n9.toNat]?) fun bP =>
 aa (decide (0<=((i64.wrap (n9 - 1)):Int))) (
 aa (Nat.blt (((i64.wrap (n9 - 1)):Int).toNat) l10.length) (
 Q1 (l10[((i64.wrap (n9 - 1)):Int).toNat]?) fun dB =>
 Q1 (tZ d bP.1 dB.1) fun tK =>
 lz d fB n2 xS n9 l10 true (decide (tK < 0))) none) none) none) none) (
 lz d fB n2 xS n9 l10 false false)) s.1 s.2
noncomputable def p9 (d:Nat) (n2 n3:Int) (t_:(List t1)->Option (List t1)) (gS:t13->Option (List t1)) (s:t13):Option (List t1) :=
(fun n6 (l7:List t1) =>
 aa (decide (n6 < n3)) (
 Q8 (yh d n2 (p8 d gS n6)) Qd (n6,l7)) (
 t_ l7)) s.1 s.2
theorem TC (d:Nat) (l1:List t1) (n2 n3:Int) (b4:Bool):BM (d+2) l1 n2 n3 b4 =
 Q8 (p9 d n2 n3 (p7 d)) Qd ((i64.wrap (n2+1)),l1):=by kernel_rfl
noncomputable def yj (d:Nat) (l7:List t1):Option (List t1) :=
 some l7
noncomputable def ym (d:Nat) (n2 n3 n4:Int) (ua:(List t1)->Option (List t1)) (gd:t13->Option (List t1)) (s:t13):Option (List t1) :=
(fun n7 (l8:List t1) =>
 aa (decide (n7 < n4)) (
 aa (decide (0<=((i64.wrap (n3+n7)):Int))) (
 aa (Nat.blt (((i64.wrap (n3+n7)):Int).toNat) l8.length) (
 Q1 (l8[((i64.wrap (n3+n7)):Int).toNat]?) fun x9 =>
 aa (decide (0<=((i64.wrap (n2+n7)):Int))) (
 aa (Nat.blt (((i64.wrap (n2+n7)):Int).toNat) l8.length) (
 Q1 (l8[((i64.wrap (n2+n7)):Int).toNat]?) fun aR =>
 aa (decide (0<=((i64.wrap (n2+n7)):Int))) (
 aa (Nat.blt (((i64.wrap (n2+n7)):Int).toNat) l8.length) (
 Q1 (l8[((i64.wrap (n2+n7)):Int).toNat]?) fun bP =>
 aa (decide (0<=((i64.wrap (n3+n7)):Int))) (
 aa (Nat.blt (((i64.wrap (n3+n7)):Int).toNat) ((l8.set (((i64.wrap (n2+n7)):Int).toNat) x9).length)) (
 Q1 ((l8.set (((i64.wrap (n2+n7)):Int).toNat) x9)[((i64.wrap (n3+n7)):Int).toNat]?) fun dB =>
 gd ((i64.wrap (n7+1)),((l8.set (((i64.wrap (n2+n7)):Int).toNat) x9).set (((i64.wrap (n3+n7)):Int).toNat) aR))) none) none) none) none) none) none) none) none) (
 ua l8)) s.1 s.2
theorem TD (d:Nat) (l1:List t1) (n2 n3 n4:Int) (b5:Bool):yp (d+1) l1 n2 n3 n4 b5 =
 Q8 (ym d n2 n3 n4 (yj d)) Qd (0,l1):=by kernel_rfl
noncomputable def yq (d:Nat) (n3 n7:Int) (l8:List t1):Option (List t1) :=
 Q1 (yp d l8 (i64.wrap (n3 - n7)) n3 n7 false) fun r9 =>
 some r9
noncomputable def yt (d:Nat) (n3:Int) (uc:Int->(List t1)->Option (List t1)) (gd:(Int×Int×(List t1))->Option (List t1)) (s:(Int×Int×(List t1))):Option (List t1) :=
(fun n7 n8 (l9:List t1) =>
 aa (n7 != n8) (
 aa (decide (n7 > n8)) (
 Q1 (yp d l9 (i64.wrap (n3 - n7)) n3 n8 false) fun de =>
 gd ((i64.wrap (n7 - n8)),n8,de)) (
 Q1 (yp d l9 (i64.wrap (n3 - n7)) (i64.wrap ((i64.wrap (n3+n8)) - n7)) n7 false) fun gU =>
 gd (n7,(i64.wrap (n8 - n7)),gU))) (
 uc n7 l9)) s.1 s.2.1 s.2.2
theorem TE (d:Nat) (l1:List t1) (n2 n3 n4:Int) (b5:Bool):Gh (d+1) l1 n2 n3 n4 b5 =
 Q8 (yt d n3 (yq d n3)) Qd ((i64.wrap (n3 - n2)),(i64.wrap (n4 - n3)),l1):=by kernel_rfl
noncomputable def p_ (d:Nat) (l9:List t1):Option (List t1) :=
 some l9
noncomputable def qa (d:Nat) (n7:Int) (ud:(List t1)->Option (List t1)) (xS:t13->Option (List t1)) (s:t13):Option (List t1) :=
(fun n9 (l10:List t1) =>
 aa (decide (n9 < (i64.wrap (n7 - 1)))) (
 aa (decide (0<=((i64.wrap (n9+1)):Int))) (
 aa (Nat.blt (((i64.wrap (n9+1)):Int).toNat) l10.length) (
 Q1 (l10[((i64.wrap (n9+1)):Int).toNat]?) fun bP =>
 aa (decide (0<=n9)) (
 aa (Nat.blt (n9.toNat) l10.length) (
 Q1 (l10[n9.toNat]?) fun dB =>
 aa (decide (0<=n9)) (
 aa (Nat.blt (n9.toNat) l10.length) (
 Q1 (l10[n9.toNat]?) fun gD =>
 aa (decide (0<=((i64.wrap (n9+1)):Int))) (
 aa (Nat.blt (((i64.wrap (n9+1)):Int).toNat) ((l10.set (n9.toNat) bP).length)) (
 Q1 ((l10.set (n9.toNat) bP)[((i64.wrap (n9+1)):Int).toNat]?) fun mG =>
 xS ((i64.wrap (n9+1)),((l10.set (n9.toNat) bP).set (((i64.wrap (n9+1)):Int).toNat) dB))) none) none) none) none) none) none) none) none) (
 ud l10)) s.1 s.2
noncomputable def lA (d:Nat) (l1:List t1) (n2 n7:Int):Option (List t1) :=
 Q8 (qa d n7 (p_ d)) Qd (n2,l1)
noncomputable def qb (d:Nat) (l1:List t1) (n2:Int) (ue:Int->Option (List t1)) (gd:t10->Option (List t1)) (s:t10):Option (List t1) :=
(fun n7 n8 =>
 aa (decide (n7 < n8)) (
 aa (decide (0<=((i64.wrap ((u64.wrap (i64.wrap (n7+n8))).fdiv (2 ^ (min (1:Int).toNat u64.bits)))):Int))) (
 aa (Nat.blt (((i64.wrap ((u64.wrap (i64.wrap (n7+n8))).fdiv (2 ^ (min (1:Int).toNat u64.bits)))):Int).toNat) l1.length) (
 Q1 (l1[((i64.wrap ((u64.wrap (i64.wrap (n7+n8))).fdiv (2 ^ (min (1:Int).toNat u64.bits)))):Int).toNat]?) fun x9 =>
 aa (decide (0<=n2)) (
 aa (Nat.blt (n2.toNat) l1.length) (
 Q1 (l1[n2.toNat]?) fun aR =>
 Q1 (tZ d x9.1 aR.1) fun gU =>
 aa (decide (gU < 0)) (
 gd ((i64.wrap ((i64.wrap ((u64.wrap (i64.wrap (n7+n8))).fdiv (2 ^ (min (1:Int).toNat u64.bits))))+1)),n8)) (
 gd (n7,(i64.wrap ((u64.wrap (i64.wrap (n7+n8))).fdiv (2 ^ (min (1:Int).toNat u64.bits))))))) none) none) none) none) (
 ue n7)) s.1 s.2
noncomputable def qc (d:Nat) (ow:List t1):Option (List t1) :=
 some ow
noncomputable def qd (d:Nat) (dM:Int) (ug:(List t1)->Option (List t1)) (Gi:t13->Option (List t1)) (s:t13):Option (List t1) :=
(fun eK (gT:List t1) =>
 aa (decide (eK > dM)) (
 aa (decide (0<=((i64.wrap (eK - 1)):Int))) (
 aa (Nat.blt (((i64.wrap (eK - 1)):Int).toNat) gT.length) (
 Q1 (gT[((i64.wrap (eK - 1)):Int).toNat]?) fun BN =>
 aa (decide (0<=eK)) (
 aa (Nat.blt (eK.toNat) gT.length) (
 Q1 (gT[eK.toNat]?) fun x21 =>
 aa (decide (0<=eK)) (
 aa (Nat.blt (eK.toNat) gT.length) (
 Q1 (gT[eK.toNat]?) fun TF =>
 aa (decide (0<=((i64.wrap (eK - 1)):Int))) (
 aa (Nat.blt (((i64.wrap (eK - 1)):Int).toNat) ((gT.set (eK.toNat) BN).length)) (
 Q1 ((gT.set (eK.toNat) BN)[((i64.wrap (eK - 1)):Int).toNat]?) fun Y_ =>
 Gi ((i64.wrap (eK - 1)),((gT.set (eK.toNat) BN).set (((i64.wrap (eK - 1)):Int).toNat) x21))) none) none) none) none) none) none) none) none) (
 ug gT)) s.1 s.2
noncomputable def lB (d:Nat) (l1:List t1) (n3 dM:Int):Option (List t1) :=
 Q8 (qd d dM (qc d)) Qd (n3,l1)
noncomputable def qe (d:Nat) (l1:List t1) (n3:Int) (uh:Int->Option (List t1)) (nr:t10->Option (List t1)) (s:t10):Option (List t1) :=
(fun dM eD =>
 aa (decide (dM < eD)) (
 aa (decide (0<=n3)) (
 aa (Nat.blt (n3.toNat) l1.length) (
 Q1 (l1[n3.toNat]?) fun fR =>
 aa (decide (0<=((i64.wrap ((u64.wrap (i64.wrap (dM+eD))).fdiv (2 ^ (min (1:Int).toNat u64.bits)))):Int))) (
 aa (Nat.blt (((i64.wrap ((u64.wrap (i64.wrap (dM+eD))).fdiv (2 ^ (min (1:Int).toNat u64.bits)))):Int).toNat) l1.length) (
 Q1 (l1[((i64.wrap ((u64.wrap (i64.wrap (dM+eD))).fdiv (2 ^ (min (1:Int).toNat u64.bits)))):Int).toNat]?) fun nk =>
 Q1 (tZ d fR.1 nk.1) fun BJ =>
 aa (!(decide (BJ < 0))) (
 nr ((i64.wrap ((i64.wrap ((u64.wrap (i64.wrap (dM+eD))).fdiv (2 ^ (min (1:Int).toNat u64.bits))))+1)),eD)) (
 nr (dM,(i64.wrap ((u64.wrap (i64.wrap (dM+eD))).fdiv (2 ^ (min (1:Int).toNat u64.bits))))))) none) none) none) none) (
 uh dM)) s.1 s.2
noncomputable def lC (d:Nat) (n2 n3 n4 dL:Int) (j9:List t1) (b32:Bool):Option (List t1) :=
 aa b32 (
 Q1 (uj (d+1) j9 (i64.wrap ((u64.wrap (i64.wrap (n2+n4))).fdiv (2 ^ (min (1:Int).toNat u64.bits)))) (i64.wrap ((i64.wrap ((i64.wrap ((u64.wrap (i64.wrap (n2+n4))).fdiv (2 ^ (min (1:Int).toNat u64.bits))))+n3)) - dL)) n4 false) fun lp =>
 some lp) (
 some j9)
noncomputable def lD (d:Nat) (n2 n3 n4 dL:Int) (j9:List t1):Option (List t1) :=
 aa (decide (((i64.wrap ((u64.wrap (i64.wrap (n2+n4))).fdiv (2 ^ (min (1:Int).toNat u64.bits)))):Int) < (i64.wrap ((i64.wrap ((i64.wrap ((u64.wrap (i64.wrap (n2+n4))).fdiv (2 ^ (min (1:Int).toNat u64.bits))))+n3)) - dL)))) (
 lC d n2 n3 n4 dL j9 (decide (((i64.wrap ((i64.wrap ((i64.wrap ((u64.wrap (i64.wrap (n2+n4))).fdiv (2 ^ (min (1:Int).toNat u64.bits))))+n3)) - dL)):Int) < n4))) (
 lC d n2 n3 n4 dL j9 false)
noncomputable def lE (d:Nat) (n2 n3 n4 dL:Int) (lg:List t1) (b30:Bool):Option (List t1) :=
 aa b30 (
 Q1 (uj (d+1) lg n2 dL (i64.wrap ((u64.wrap (i64.wrap (n2+n4))).fdiv (2 ^ (min (1:Int).toNat u64.bits)))) false) fun oy =>
 lD d n2 n3 n4 dL oy) (
 lD d n2 n3 n4 dL lg)
noncomputable def lG (d:Nat) (n2 n3 n4 dL:Int) (lg:List t1):Option (List t1) :=
 aa (decide (n2 < dL)) (
 lE d n2 n3 n4 dL lg (decide (dL < (i64.wrap ((u64.wrap (i64.wrap (n2+n4))).fdiv (2 ^ (min (1:Int).toNat u64.bits))))))) (
 lE d n2 n3 n4 dL lg false)
noncomputable def lH (d:Nat) (l1:List t1) (n2 n3 n4 dL:Int) (b28:Bool):Option (List t1) :=
 aa b28 (
 Q1 (Gh (d+1) l1 dL n3 (i64.wrap ((i64.wrap ((i64.wrap ((u64.wrap (i64.wrap (n2+n4))).fdiv (2 ^ (min (1:Int).toNat u64.bits))))+n3)) - dL)) false) fun KP =>
 lG d n2 n3 n4 dL KP) (
 lG d n2 n3 n4 dL l1)
noncomputable def lI (d:Nat) (l1:List t1) (n2 n3 n4 dL:Int):Option (List t1) :=
 aa (decide (dL < n3)) (
 lH d l1 n2 n3 n4 dL (decide (n3 < (i64.wrap ((i64.wrap ((i64.wrap ((u64.wrap (i64.wrap (n2+n4))).fdiv (2 ^ (min (1:Int).toNat u64.bits))))+n3)) - dL))))) (
 lH d l1 n2 n3 n4 dL false)
noncomputable def qf (d:Nat) (l1:List t1) (n2 n3 n4:Int) (uk:Int->Option (List t1)) (KQ:t10->Option (List t1)) (s:t10):Option (List t1) :=
(fun dL AN =>
 aa (decide (dL < AN)) (
 aa (decide (0<=((i64.wrap ((i64.wrap ((i64.wrap ((i64.wrap ((u64.wrap (i64.wrap (n2+n4))).fdiv (2 ^ (min (1:Int).toNat u64.bits))))+n3)) - 1)) - (i64.wrap ((u64.wrap (i64.wrap (dL+AN))).fdiv (2 ^ (min (1:Int).toNat u64.bits)))))):Int))) (
 aa (Nat.blt (((i64.wrap ((i64.wrap ((i64.wrap ((i64.wrap ((u64.wrap (i64.wrap (n2+n4))).fdiv (2 ^ (min (1:Int).toNat u64.bits))))+n3)) - 1)) - (i64.wrap ((u64.wrap (i64.wrap (dL+AN))).fdiv (2 ^ (min (1:Int).toNat u64.bits)))))):Int).toNat) l1.length) (
 Q1 (l1[((i64.wrap ((i64.wrap ((i64.wrap ((i64.wrap ((u64.wrap (i64.wrap (n2+n4))).fdiv (2 ^ (min (1:Int).toNat u64.bits))))+n3)) - 1)) - (i64.wrap ((u64.wrap (i64.wrap (dL+AN))).fdiv (2 ^ (min (1:Int).toNat u64.bits)))))):Int).toNat]?) fun x29 =>
 aa (decide (0<=((i64.wrap ((u64.wrap (i64.wrap (dL+AN))).fdiv (2 ^ (min (1:Int).toNat u64.bits)))):Int))) (
 aa (Nat.blt (((i64.wrap ((u64.wrap (i64.wrap (dL+AN))).fdiv (2 ^ (min (1:Int).toNat u64.bits)))):Int).toNat) l1.length) (
 Q1 (l1[((i64.wrap ((u64.wrap (i64.wrap (dL+AN))).fdiv (2 ^ (min (1:Int).toNat u64.bits)))):Int).toNat]?) fun x30 =>
 Q1 (tZ d x29.1 x30.1) fun oy =>
 aa (!(decide (oy < 0))) (
 KQ ((i64.wrap ((i64.wrap ((u64.wrap (i64.wrap (dL+AN))).fdiv (2 ^ (min (1:Int).toNat u64.bits))))+1)),AN)) (
 KQ (dL,(i64.wrap ((u64.wrap (i64.wrap (dL+AN))).fdiv (2 ^ (min (1:Int).toNat u64.bits))))))) none) none) none) none) (
 uk dL)) s.1 s.2
noncomputable def iJ (d:Nat) (l1:List t1) (n2 n3 n4 fF DL:Int):Option (List t1) :=
 Q8 (qf d l1 n2 n3 n4 (lI d l1 n2 n3 n4)) Qd (fF,DL)
theorem TG (d:Nat) (l1:List t1) (n2 n3 n4:Int) (b5:Bool):uj (d+2) l1 n2 n3 n4 b5 =
 aa (((i64.wrap (n3 - n2)):Int)==1) (
 Q8 (qb d l1 n2 (lA d l1 n2)) Qd (n3,n4)) (
 aa (((i64.wrap (n4 - n3)):Int)==1) (
 Q8 (qe d l1 n3 (lB d l1 n3)) Qd (n2,n3)) (
 aa (decide (n3 > (i64.wrap ((u64.wrap (i64.wrap (n2+n4))).fdiv (2 ^ (min (1:Int).toNat u64.bits)))))) (
 iJ d l1 n2 n3 n4 (i64.wrap ((i64.wrap ((i64.wrap ((u64.wrap (i64.wrap (n2+n4))).fdiv (2 ^ (min (1:Int).toNat u64.bits))))+n3)) - n4)) (i64.wrap ((u64.wrap (i64.wrap (n2+n4))).fdiv (2 ^ (min (1:Int).toNat u64.bits))))) (
 iJ d l1 n2 n3 n4 n2 n3))):=by kernel_rfl
noncomputable def yu (d:Nat) (l10:List t1):Option (List t1) :=
 some l10
noncomputable def yw (d:Nat) (n2:Int) (DN:(Int×Int×Int×(List t1))->Option (List t1)) (dV gE dM eD:Int) (ow:List t1):Option (List t1) :=
 aa (decide (((i64.wrap (gE+dV)):Int) < n2)) (
 Q1 (uj d ow gE (i64.wrap (gE+dV)) n2 false) fun vw =>
 DN ((i64.wrap (dV*2)),gE,dM,vw)) (
 DN ((i64.wrap (dV*2)),gE,dM,ow))
noncomputable def yx (d:Nat) (n2 dV:Int) (um:Int->Int->Int->(List t1)->Option (List t1)) (iA:(Int×Int×(List t1))->Option (List t1)) (s:(Int×Int×(List t1))):Option (List t1) :=
(fun gE dM (gh:List t1) =>
 aa (decide (dM<=n2)) (
 Q1 (uj d gh gE (i64.wrap (gE+dV)) dM false) fun BL =>
 iA (dM,(i64.wrap (dM+(i64.wrap ((2:Int)*dV)))),BL)) (
 um gE dM dM gh)) s.1 s.2.1 s.2.2
noncomputable def yy (d:Nat) (n2:Int) (uo:(List t1)->Option (List t1)) (DN:(Int×Int×Int×(List t1))->Option (List t1)) (s:(Int×Int×Int×(List t1))):Option (List t1) :=
(fun dV iz tJ (fS:List t1) =>
 aa (decide (dV < n2)) (
 Q8 (yx d n2 dV (yw d n2 DN dV)) Qd (0,(i64.wrap ((2:Int)*dV)),fS)) (
 uo fS)) s.1 s.2.1 s.2.2.1 s.2.2.2
noncomputable def yz (d:Nat) (n2 n5 n6:Int) (l7:List t1):Option (List t1) :=
 Q1 (BM d l7 n5 n2 false) fun r8 =>
 Q8 (yy d n2 (yu d)) Qd (20,n5,n6,r8)
noncomputable def yA (d:Nat) (n2:Int) (uq:Int->Int->(List t1)->Option (List t1)) (ja:(Int×Int×(List t1))->Option (List t1)) (s:(Int×Int×(List t1))):Option (List t1) :=
(fun n5 n6 (l7:List t1) =>
 aa (decide (n6<=n2)) (
 Q1 (BM d l7 n5 n6 false) fun r8 =>
 ja (n6,(i64.wrap (n6+20)),r8)) (
 uq n5 n6 l7)) s.1 s.2.1 s.2.2
theorem TH (d:Nat) (l1:List t1) (n2:Int) (b3:Bool):Gj (d+1) l1 n2 b3 =
 Q8 (yA d n2 (yz d n2)) Qd (0,20,l1):=by kernel_rfl
theorem TI (d:Nat) (l1:List t1) (b2:Bool):BO (d+1) l1 b2 =
 Q1 (Gj d l1 (l1.length:Int) false) fun r3 =>
 some r3:=by kernel_rfl
noncomputable def yB (d:Nat) (x1:t0) (r2:List t1) (r3:List t5) (b4:Bool):Option t3 :=
 aa b4 (
 aa (decide (0<=x1.2.2.2.2.2.2.2.2)) (
 Q1 (x1.2.1[x1.2.2.2.2.2.2.2.2.toNat]?) fun x5 =>
 Q1 (BO d r2 false) fun r6 =>
 some (x1.1,r6,r3,x5.1)) none) (
 Q1 (BO d r2 false) fun r7 =>
 some (x1.1,r7,r3,0))
theorem e60 (d:Nat) (x1:t0):KR (d+1) x1 =
 Q1 (Gg d x1.2.1) fun r2 =>
 Q1 (KO d x1.2.2.2.2.2.2.1) fun r3 =>
 aa (decide (x1.2.2.2.2.2.2.2.2>=0)) (
 yB d x1 r2 r3 (decide (x1.2.2.2.2.2.2.2.2 < (x1.2.1.length:Int)))) (
 yB d x1 r2 r3 false):=by kernel_rfl
theorem TJ (d:Nat) (n1 n2:Int):KS (d+1) n1 n2 =
 some ((u64.wrap ((u64.wrap ((u64.wrap ((n1.fdiv (2 ^ (min (32:Int).toNat u64.bits)))*(n2.fdiv (2 ^ (min (32:Int).toNat u64.bits)))))+((u64.wrap ((u64.wrap ((n1.fdiv (2 ^ (min (32:Int).toNat u64.bits)))*(u64.wrap ((BitVec.ofInt u64.bits n2 &&& BitVec.ofInt u64.bits 4294967295).toNat:Int))))+((u64.wrap ((u64.wrap ((BitVec.ofInt u64.bits n1 &&& BitVec.ofInt u64.bits 4294967295).toNat:Int))*(u64.wrap ((BitVec.ofInt u64.bits n2 &&& BitVec.ofInt u64.bits 4294967295).toNat:Int)))).fdiv (2 ^ (min (32:Int).toNat u64.bits))))).fdiv (2 ^ (min (32:Int).toNat u64.bits)))))+((u64.wrap ((u64.wrap ((BitVec.ofInt u64.bits (u64.wrap ((u64.wrap ((n1.fdiv (2 ^ (min (32:Int).toNat u64.bits)))*(u64.wrap ((BitVec.ofInt u64.bits n2 &&& BitVec.ofInt u64.bits 4294967295).toNat:Int))))+((u64.wrap ((u64.wrap ((BitVec.ofInt u64.bits n1 &&& BitVec.ofInt u64.bits 4294967295).toNat:Int))*(u64.wrap ((BitVec.ofInt u64.bits n2 &&& BitVec.ofInt u64.bits 4294967295).toNat:Int)))).fdiv (2 ^ (min (32:Int).toNat u64.bits))))) &&& BitVec.ofInt u64.bits 4294967295).toNat:Int))+(u64.wrap ((u64.wrap ((BitVec.ofInt u64.bits n1 &&& BitVec.ofInt u64.bits 4294967295).toNat:Int))*(n2.fdiv (2 ^ (min (32:Int).toNat u64.bits))))))).fdiv (2 ^ (min (32:Int).toNat u64.bits))))),(u64.wrap (n1*n2))):=by kernel_rfl
theorem TK (d:Nat) (n1 n2:Int):Gk (d+1) n1 n2 =
 Q1 (KS d n1 n2) fun r3 =>
 some (r3.1,r3.2):=by kernel_rfl
noncomputable def yC (d:Nat) (l6:List Int):Option (List Int) :=
 some l6
noncomputable def yD (d:Nat) (ur:(List Int)->Option (List Int)) (gS:t11->Option (List Int)) (s:t11):Option (List Int) :=
(fun n6 (l7:List Int) =>
 aa (decide (n6 < (l7.length:Int))) (
 aa (decide (0<=n6)) (
 aa (Nat.ble (n6.toNat) l7.length) (
 aa (decide (0<=n6)) (
 aa (Nat.ble (n6.toNat) l7.length) (
 gS ((i64.wrap (n6+((min (l7.take (n6.toNat)).length (l7.length - (0+n6.toNat)):Nat):Int))),(mI l7 (0+n6.toNat) (l7.length - (0+n6.toNat)) (l7.take (n6.toNat))))) none) none) none) none) (
 ur l7)) s.1 s.2
noncomputable def qg (d:Nat) (l1:List Int) (r3:t10) (b4:Bool):Option (List Int) :=
 aa b4 (
 none) (
 aa (decide (0<=((i64.wrap r3.2):Int))) (
 aa (decide (0<=((i64.wrap r3.2):Int))) (
 aa (Nat.ble (((i64.wrap r3.2):Int).toNat) (((i64.wrap r3.2):Int).toNat)&&Nat.ble ((((i64.wrap r3.2):Int).toNat)*8) Q7) (
 Q8 (yD d (yC d)) Qd (((min l1.length ((List.replicate (((i64.wrap r3.2):Int).toNat) (0:Int)).length):Nat):Int),(mI (List.replicate (((i64.wrap r3.2):Int).toNat) (0:Int)) 0 ((List.replicate (((i64.wrap r3.2):Int).toNat) (0:Int)).length) l1))) none) none) none)
theorem TL (d:Nat) (l1:List Int) (n2:Int):yE (d+1) l1 n2 =
 aa (decide (n2 < 0)) (
 none) (
 Q1 (Gk d (u64.wrap (l1.length:Int)) (u64.wrap n2)) fun r3 =>
 aa (decide (r3.1 > 0)) (
 qg d l1 r3 true) (
 qg d l1 r3 (decide (r3.2 > 9223372036854775807)))):=by kernel_rfl
theorem TN (d:Nat) (n1:Int):jP (d+1) n1 =
 BP n1:=by kernel_rfl
theorem TO (d:Nat) (s1:ByteArray) (n2:Int):KT (d+1) s1 n2 =
 BQ s1 n2:=by kernel_rfl
theorem TP (d:Nat) (x1:t6) (n2:Int) (s3:ByteArray):nB (d+1) x1 n2 s3 =
 Q1 (KT d (⟨#[32,32]⟩:ByteArray) n2) fun r4 =>
 aa (Nat.ble (r4.size+s3.size) 9223372036854775807) (
 aa (Nat.ble ((x1.2.1.length+[(r4++s3)].length)*16) Q7) (
 some (x1.1,(x1.2.1++[(r4++s3)]),x1.2.2)) none) none:=by kernel_rfl
noncomputable def lJ (d:Nat) (n1:Int) (b4:Bool):Option ByteArray :=
 aa b4 (
 Q1 (jP d (i64.wrap (n1.tdiv 1000))) fun r5 =>
 aa (Nat.ble (r5.size+((⟨#[107]⟩:ByteArray):ByteArray).size) 9223372036854775807) (
 some (r5++((⟨#[107]⟩:ByteArray):ByteArray))) none) (
 Q1 (jP d n1) fun r6 =>
 some r6)
noncomputable def lK (d:Nat) (n1:Int) (b2:Bool):Option ByteArray :=
 aa b2 (
 Q1 (jP d (i64.wrap (n1.tdiv 1000000))) fun r3 =>
 aa (Nat.ble (r3.size+((⟨#[109]⟩:ByteArray):ByteArray).size) 9223372036854775807) (
 some (r3++((⟨#[109]⟩:ByteArray):ByteArray))) none) (
 aa (decide (n1 > 0)) (
 lJ d n1 (((n1.tmod 1000):Int)==0)) (
 lJ d n1 false))
theorem TQ (d:Nat) (n1:Int):qh (d+1) n1 =
 aa (decide (n1 > 0)) (
 lK d n1 (((n1.tmod 1000000):Int)==0)) (
 lK d n1 false):=by kernel_rfl
theorem TS (d:Nat) (x1:t1):BS (d+1) x1 =
 Q1 (jP d x1.1) fun r2 =>
 aa (Nat.ble (((⟨#[99,108,97,115,115,32]⟩:ByteArray):ByteArray).size+r2.size) 9223372036854775807) (
 aa (Nat.ble (((((⟨#[99,108,97,115,115,32]⟩:ByteArray):ByteArray)++r2):ByteArray).size+((⟨#[32,114,97,116,101,32]⟩:ByteArray):ByteArray).size) 9223372036854775807) (
 Q1 (qh d x1.2.2.1) fun r3 =>
 aa (Nat.ble (((((((⟨#[99,108,97,115,115,32]⟩:ByteArray):ByteArray)++r2):ByteArray)++((⟨#[32,114,97,116,101,32]⟩:ByteArray):ByteArray)):ByteArray).size+r3.size) 9223372036854775807) (
 aa (Nat.ble (((((((((⟨#[99,108,97,115,115,32]⟩:ByteArray):ByteArray)++r2):ByteArray)++((⟨#[32,114,97,116,101,32]⟩:ByteArray):ByteArray)):ByteArray)++r3):ByteArray).size+((⟨#[32,99,101,105,108,32]⟩:ByteArray):ByteArray).size) 9223372036854775807) (
 Q1 (qh d x1.2.2.2.1) fun r4 =>
 aa (Nat.ble (((((((((((⟨#[99,108,97,115,115,32]⟩:ByteArray):ByteArray)++r2):ByteArray)++((⟨#[32,114,97,116,101,32]⟩:ByteArray):ByteArray)):ByteArray)++r3):ByteArray)++((⟨#[32,99,101,105,108,32]⟩:ByteArray):ByteArray)):ByteArray).size+r4.size) 9223372036854775807) (
 aa (Nat.ble (((((((((((((⟨#[99,108,97,115,115,32]⟩:ByteArray):ByteArray)++r2):ByteArray)++((⟨#[32,114,97,116,101,32]⟩:ByteArray):ByteArray)):ByteArray)++r3):ByteArray)++((⟨#[32,99,101,105,108,32]⟩:ByteArray):ByteArray)):ByteArray)++r4):ByteArray).size+((⟨#[32,98,117,114,115,116,32]⟩:ByteArray):ByteArray).size) 9223372036854775807) (
 Q1 (qh d x1.2.2.2.2.1) fun r5 =>
 aa (Nat.ble (((((((((((((((⟨#[99,108,97,115,115,32]⟩:ByteArray):ByteArray)++r2):ByteArray)++((⟨#[32,114,97,116,101,32]⟩:ByteArray):ByteArray)):ByteArray)++r3):ByteArray)++((⟨#[32,99,101,105,108,32]⟩:ByteArray):ByteArray)):ByteArray)++r4):ByteArray)++((⟨#[32,98,117,114,115,116,32]⟩:ByteArray):ByteArray)):ByteArray).size+r5.size) 9223372036854775807) (
 aa (Nat.ble (((((((((((((((((⟨#[99,108,97,115,115,32]⟩:ByteArray):ByteArray)++r2):ByteArray)++((⟨#[32,114,97,116,101,32]⟩:ByteArray):ByteArray)):ByteArray)++r3):ByteArray)++((⟨#[32,99,101,105,108,32]⟩:ByteArray):ByteArray)):ByteArray)++r4):ByteArray)++((⟨#[32,98,117,114,115,116,32]⟩:ByteArray):ByteArray)):ByteArray)++r5):ByteArray).size+((⟨#[32,99,98,117,114,115,116,32]⟩:ByteArray):ByteArray).size) 9223372036854775807) (
 Q1 (qh d x1.2.2.2.2.2.1) fun r6 =>
 aa (Nat.ble (((((((((((((((((((⟨#[99,108,97,115,115,32]⟩:ByteArray):ByteArray)++r2):ByteArray)++((⟨#[32,114,97,116,101,32]⟩:ByteArray):ByteArray)):ByteArray)++r3):ByteArray)++((⟨#[32,99,101,105,108,32]⟩:ByteArray):ByteArray)):ByteArray)++r4):ByteArray)++((⟨#[32,98,117,114,115,116,32]⟩:ByteArray):ByteArray)):ByteArray)++r5):ByteArray)++((⟨#[32,99,98,117,114,115,116,32]⟩:ByteArray):ByteArray)):ByteArray).size+r6.size) 9223372036854775807) (
 aa (Nat.ble (((((((((((((((((((((⟨#[99,108,97,115,115,32]⟩:ByteArray):ByteArray)++r2):ByteArray)++((⟨#[32,114,97,116,101,32]⟩:ByteArray):ByteArray)):ByteArray)++r3):ByteArray)++((⟨#[32,99,101,105,108,32]⟩:ByteArray):ByteArray)):ByteArray)++r4):ByteArray)++((⟨#[32,98,117,114,115,116,32]⟩:ByteArray):ByteArray)):ByteArray)++r5):ByteArray)++((⟨#[32,99,98,117,114,115,116,32]⟩:ByteArray):ByteArray)):ByteArray)++r6):ByteArray).size+((⟨#[32,112,114,105,111,32]⟩:ByteArray):ByteArray).size) 9223372036854775807) (
 Q1 (jP d x1.2.2.2.2.2.2.1) fun r7 =>
 aa (Nat.ble (((((((((((((((((((((((⟨#[99,108,97,115,115,32]⟩:ByteArray):ByteArray)++r2):ByteArray)++((⟨#[32,114,97,116,101,32]⟩:ByteArray):ByteArray)):ByteArray)++r3):ByteArray)++((⟨#[32,99,101,105,108,32]⟩:ByteArray):ByteArray)):ByteArray)++r4):ByteArray)++((⟨#[32,98,117,114,115,116,32]⟩:ByteArray):ByteArray)):ByteArray)++r5):ByteArray)++((⟨#[32,99,98,117,114,115,116,32]⟩:ByteArray):ByteArray)):ByteArray)++r6):ByteArray)++((⟨#[32,112,114,105,111,32]⟩:ByteArray):ByteArray)):ByteArray).size+r7.size) 9223372036854775807) (
 some (((((((((((((((((((((((⟨#[99,108,97,115,115,32]⟩:ByteArray):ByteArray)++r2):ByteArray)++((⟨#[32,114,97,116,101,32]⟩:ByteArray):ByteArray)):ByteArray)++r3):ByteArray)++((⟨#[32,99,101,105,108,32]⟩:ByteArray):ByteArray)):ByteArray)++r4):ByteArray)++((⟨#[32,98,117,114,115,116,32]⟩:ByteArray):ByteArray)):ByteArray)++r5):ByteArray)++((⟨#[32,99,98,117,114,115,116,32]⟩:ByteArray):ByteArray)):ByteArray)++r6):ByteArray)++((⟨#[32,112,114,105,111,32]⟩:ByteArray):ByteArray)):ByteArray)++r7)) none) none) none) none) none) none) none) none) none) none) none:=by kernel_rfl
noncomputable def lM (d:Nat) (n2:Int) (s6:ByteArray) (l7:List t1) (l8:List t5) (n9:Int) (l10:List ByteArray) (kY DJ fS:List Int):Option t6 :=
 aa (decide (0<=n2)) (
 aa (Nat.blt (n2.toNat) fS.length) (
 Q1 (fS[n2.toNat]?) fun nq =>
 some ((s6,l7,l8,n9),l10,kY,DJ,(fS.set (n2.toNat) (l10.length:Int)))) none) none
noncomputable def yF (d:Nat) (n2 n3:Int) (s15:ByteArray) (pL:List t1) (gh:List t5) (eK:Int) (gT:List ByteArray) (dW eS FB:List Int):Option t6 :=
 Q1 (nB d ((s15,pL,gh,eK),gT,dW,eS,FB) n3 (⟨#[125]⟩:ByteArray)) fun vC =>
 lM d n2 vC.1.1 vC.1.2.1 vC.1.2.2.1 vC.1.2.2.2 vC.2.1 vC.2.2.1 vC.2.2.2.1 vC.2.2.2.2
noncomputable def qi (d:Nat) (n3:Int) (tK:List Int) (uu:ByteArray->(List t1)->(List t5)->Int->(List ByteArray)->(List Int)->(List Int)->(List Int)->Option t6) (iA:(Int×t6)->Option t6) (s:(Int×t6)):Option t6 :=
(fun gE (ou:t6) =>
 aa (decide (gE < (tK.length:Int))) (
 aa (decide (0<=gE)) (
 aa (Nat.blt (gE.toNat) tK.length) (
 Q1 (tK[gE.toNat]?) fun eD =>
 Q1 (BT d ou eD (i64.wrap (n3+1))) fun BL =>
 iA ((i64.wrap (gE+1)),BL)) none) none) (
 uu ou.1.1 ou.1.2.1 ou.1.2.2.1 ou.1.2.2.2 ou.2.1 ou.2.2.1 ou.2.2.2.1 ou.2.2.2.2)) s.1 s.2
theorem TT (d:Nat) (x1:t6) (n2 n3:Int):BT (d+1) x1 n2 n3 =
 aa (decide (0<=n2)) (
 Q1 (x1.1.2.1[n2.toNat]?) fun x4 =>
 aa (Nat.ble ((x1.2.2.1.length+[n2].length)*8) Q7) (
 Q1 (tW d x1.1 n2) fun r5 =>
 aa r5 (
 Q1 (BS d x4) fun r6 =>
 aa (Nat.ble (r6.size+((⟨#[32,108,105,109,105,116,32]⟩:ByteArray):ByteArray).size) 9223372036854775807) (
 Q1 (qh d x4.2.2.2.2.2.2.2) fun r7 =>
 aa (Nat.ble (((r6++((⟨#[32,108,105,109,105,116,32]⟩:ByteArray):ByteArray)):ByteArray).size+r7.size) 9223372036854775807) (
 aa (Nat.ble (((((r6++((⟨#[32,108,105,109,105,116,32]⟩:ByteArray):ByteArray)):ByteArray)++r7):ByteArray).size+((⟨#[59]⟩:ByteArray):ByteArray).size) 9223372036854775807) (
 Q1 (nB d (x1.1,x1.2.1,(x1.2.2.1++[n2]),x1.2.2.2) n3 (((((r6++((⟨#[32,108,105,109,105,116,32]⟩:ByteArray):ByteArray)):ByteArray)++r7):ByteArray)++((⟨#[59]⟩:ByteArray):ByteArray))) fun r8 =>
 aa (decide (0<=n2)) (
 aa (Nat.blt (n2.toNat) r8.2.2.2.1.length) (
 Q1 (r8.2.2.2.1[n2.toNat]?) fun n9 =>
 lM d n2 r8.1.1 r8.1.2.1 r8.1.2.2.1 r8.1.2.2.2 r8.2.1 r8.2.2.1 (r8.2.2.2.1.set (n2.toNat) (r8.2.1.length:Int)) r8.2.2.2.2) none) none) none) none) none) (
 Q1 (BS d x4) fun de =>
 aa (Nat.ble (de.size+((⟨#[32,123]⟩:ByteArray):ByteArray).size) 9223372036854775807) (
 Q1 (nB d (x1.1,x1.2.1,(x1.2.2.1++[n2]),x1.2.2.2) n3 (de++((⟨#[32,123]⟩:ByteArray):ByteArray))) fun gU =>
 aa (decide (0<=n2)) (
 aa (Nat.blt (n2.toNat) gU.2.2.2.1.length) (
 Q1 (gU.2.2.2.1[n2.toNat]?) fun tJ =>
 Q1 (xZ d gU.1 n2) fun tK =>
 Q8 (qi d n3 tK (yF d n2 n3)) Qd (0,(gU.1,gU.2.1,gU.2.2.1,(gU.2.2.2.1.set (n2.toNat) (gU.2.1.length:Int)),gU.2.2.2.2))) none) none) none)) none) none:=by kernel_rfl
noncomputable def uv (d:Nat) (n3:Int):Option Int :=
 some (-1)
noncomputable def gX (d:Nat) (x1:t3) (lN:Int->Option Int) (bV:t10->Option Int) (s:t10):Option Int :=
(fun n3 n4 =>
 aa (decide (n4 < (x1.2.1.length:Int))) (
 aa (decide (0<=n4)) (
 Q1 (x1.2.1[n4.toNat]?) fun x5 =>
 aa (x5.2.1==0) (
 some n4) (
 bV (n3,(i64.wrap (n4+1))))) none) (
 lN n3)) s.1 s.2
theorem TU (d:Nat) (x1:t3):Gl (d+3) x1 =
 Q8 (gX d x1 (uv d)) Qd (0,0):=by kernel_rfl
noncomputable def lO (d:Nat) (s4:ByteArray):Option (ByteArray×Bool) :=
 aa (Nat.ble (((⟨#[48,120]⟩:ByteArray):ByteArray).size+s4.size) 9223372036854775807) (
 some ((((⟨#[48,120]⟩:ByteArray):ByteArray)++s4),true)) none
noncomputable def jf (d:Nat) (fC:ByteArray->Option (ByteArray×Bool)) (bM:(Int×ByteArray)->Option (ByteArray×Bool)) (n4:Int) (s5:ByteArray) (b6 b7:Bool):Option (ByteArray×Bool) :=
 aa b7 (
 aa (decide (0<=((i64.wrap ((i64.wrap ((BitVec.ofInt i64.bits n4 &&& BitVec.ofInt i64.bits 15).toNat:Int))+1)):Int))) (
 aa (decide (0<=((i64.wrap ((BitVec.ofInt i64.bits n4 &&& BitVec.ofInt i64.bits 15).toNat:Int)):Int))) (
 aa (Nat.ble (((i64.wrap ((BitVec.ofInt i64.bits n4 &&& BitVec.ofInt i64.bits 15).toNat:Int)):Int).toNat) (((i64.wrap ((i64.wrap ((BitVec.ofInt i64.bits n4 &&& BitVec.ofInt i64.bits 15).toNat:Int))+1)):Int).toNat)&&Nat.ble (((i64.wrap ((i64.wrap ((BitVec.ofInt i64.bits n4 &&& BitVec.ofInt i64.bits 15).toNat:Int))+1)):Int).toNat) ((⟨#[48,49,50,51,52,53,54,55,56,57,97,98,99,100,101,102]⟩:ByteArray):ByteArray).size) (
 aa (Nat.ble (((((⟨#[48,49,50,51,52,53,54,55,56,57,97,98,99,100,101,102]⟩:ByteArray):ByteArray).extract (((i64.wrap ((BitVec.ofInt i64.bits n4 &&& BitVec.ofInt i64.bits 15).toNat:Int)):Int).toNat) (((i64.wrap ((i64.wrap ((BitVec.ofInt i64.bits n4 &&& BitVec.ofInt i64.bits 15).toNat:Int))+1)):Int).toNat)):ByteArray).size+s5.size) 9223372036854775807) (
 bM ((n4.fdiv (2 ^ (min (4:Int).toNat i64.bits))),(((((⟨#[48,49,50,51,52,53,54,55,56,57,97,98,99,100,101,102]⟩:ByteArray):ByteArray).extract (((i64.wrap ((BitVec.ofInt i64.bits n4 &&& BitVec.ofInt i64.bits 15).toNat:Int)):Int).toNat) (((i64.wrap ((i64.wrap ((BitVec.ofInt i64.bits n4 &&& BitVec.ofInt i64.bits 15).toNat:Int))+1)):Int).toNat)):ByteArray)++s5))) none) none) none) none) (
 fC s5)
noncomputable def yG (d:Nat) (fC:ByteArray->Option (ByteArray×Bool)) (bM:(Int×ByteArray)->Option (ByteArray×Bool)) (s:(Int×ByteArray)):Option (ByteArray×Bool) :=
(fun n4 s5 =>
 aa (decide (n4 > 0)) (
 jf d fC bM n4 s5 true true) (
 jf d fC bM n4 s5 false (s5.toList==((⟨#[]⟩:ByteArray):ByteArray).toList))) s.1 s.2
noncomputable def qj (d:Nat) (n1:Int) (b2:Bool):Option (ByteArray×Bool) :=
 aa b2 (
 some ((⟨#[]⟩:ByteArray),false)) (
 Q8 (yG d (lO d)) Qd (n1,(⟨#[]⟩:ByteArray)))
theorem TW (d:Nat) (n1:Int):KU (d+1) n1 =
 aa (decide (n1 < 0)) (
 qj d n1 true) (
 qj d n1 (decide (n1 > 4294967295))):=by kernel_rfl
theorem TX (d:Nat) (n1:Int):BU (d+1) n1 =
 aa (decide (n1 < 0)) (
 some ((⟨#[]⟩:ByteArray),false)) (
 aa (decide (n1 > 65535)) (
 some ((⟨#[]⟩:ByteArray),false)) (
 Q1 (KU d n1) fun r2 =>
 some (r2.1,r2.2))):=by kernel_rfl
theorem TY (d:Nat):KY (d+1) =
 some [(⟨#[115,111,117,114,99,101]⟩:ByteArray),(⟨#[100,101,115,116]⟩:ByteArray),(⟨#[112,111,114,116]⟩:ByteArray),(⟨#[109,97,114,107]⟩:ByteArray)]:=by kernel_rfl
theorem TZ (d:Nat) (x1:t5):Gm (d+1) x1 =
 Q1 (BU d x1.2.2.2.1) fun r2 =>
 Q1 (BU d x1.2.2.1) fun r3 =>
 Q1 (jP d x1.1) fun r4 =>
 aa (Nat.ble (((⟨#[102,105,108,116,101,114,32]⟩:ByteArray):ByteArray).size+r4.size) 9223372036854775807) (
 aa (Nat.ble (((((⟨#[102,105,108,116,101,114,32]⟩:ByteArray):ByteArray)++r4):ByteArray).size+((⟨#[32]⟩:ByteArray):ByteArray).size) 9223372036854775807) (
 Q1 (KY d) fun r5 =>
 aa (decide (0<=x1.2.1)) (
 aa (Nat.blt (x1.2.1.toNat) r5.length) (
 Q1 (r5[x1.2.1.toNat]?) fun s6 =>
 aa (Nat.ble (((((((⟨#[102,105,108,116,101,114,32]⟩:ByteArray):ByteArray)++r4):ByteArray)++((⟨#[32]⟩:ByteArray):ByteArray)):ByteArray).size+s6.size) 9223372036854775807) (
 aa (Nat.ble (((((((((⟨#[102,105,108,116,101,114,32]⟩:ByteArray):ByteArray)++r4):ByteArray)++((⟨#[32]⟩:ByteArray):ByteArray)):ByteArray)++s6):ByteArray).size+((⟨#[32]⟩:ByteArray):ByteArray).size) 9223372036854775807) (
 aa (Nat.ble (((((((((((⟨#[102,105,108,116,101,114,32]⟩:ByteArray):ByteArray)++r4):ByteArray)++((⟨#[32]⟩:ByteArray):ByteArray)):ByteArray)++s6):ByteArray)++((⟨#[32]⟩:ByteArray):ByteArray)):ByteArray).size+r2.1.size) 9223372036854775807) (
 aa (Nat.ble (((((((((((((⟨#[102,105,108,116,101,114,32]⟩:ByteArray):ByteArray)++r4):ByteArray)++((⟨#[32]⟩:ByteArray):ByteArray)):ByteArray)++s6):ByteArray)++((⟨#[32]⟩:ByteArray):ByteArray)):ByteArray)++r2.1):ByteArray).size+((⟨#[32,47,32]⟩:ByteArray):ByteArray).size) 9223372036854775807) (
 aa (Nat.ble (((((((((((((((⟨#[102,105,108,116,101,114,32]⟩:ByteArray):ByteArray)++r4):ByteArray)++((⟨#[32]⟩:ByteArray):ByteArray)):ByteArray)++s6):ByteArray)++((⟨#[32]⟩:ByteArray):ByteArray)):ByteArray)++r2.1):ByteArray)++((⟨#[32,47,32]⟩:ByteArray):ByteArray)):ByteArray).size+r3.1.size) 9223372036854775807) (
 aa (Nat.ble (((((((((((((((((⟨#[102,105,108,116,101,114,32]⟩:ByteArray):ByteArray)++r4):ByteArray)++((⟨#[32]⟩:ByteArray):ByteArray)):ByteArray)++s6):ByteArray)++((⟨#[32]⟩:ByteArray):ByteArray)):ByteArray)++r2.1):ByteArray)++((⟨#[32,47,32]⟩:ByteArray):ByteArray)):ByteArray)++r3.1):ByteArray).size+((⟨#[32,45,62,32]⟩:ByteArray):ByteArray).size) 9223372036854775807) (
 Q1 (jP d x1.2.2.2.2) fun r7 =>
 aa (Nat.ble (((((((((((((((((((⟨#[102,105,108,116,101,114,32]⟩:ByteArray):ByteArray)++r4):ByteArray)++((⟨#[32]⟩:ByteArray):ByteArray)):ByteArray)++s6):ByteArray)++((⟨#[32]⟩:ByteArray):ByteArray)):ByteArray)++r2.1):ByteArray)++((⟨#[32,47,32]⟩:ByteArray):ByteArray)):ByteArray)++r3.1):ByteArray)++((⟨#[32,45,62,32]⟩:ByteArray):ByteArray)):ByteArray).size+r7.size) 9223372036854775807) (
 aa (Nat.ble (((((((((((((((((((((⟨#[102,105,108,116,101,114,32]⟩:ByteArray):ByteArray)++r4):ByteArray)++((⟨#[32]⟩:ByteArray):ByteArray)):ByteArray)++s6):ByteArray)++((⟨#[32]⟩:ByteArray):ByteArray)):ByteArray)++r2.1):ByteArray)++((⟨#[32,47,32]⟩:ByteArray):ByteArray)):ByteArray)++r3.1):ByteArray)++((⟨#[32,45,62,32]⟩:ByteArray):ByteArray)):ByteArray)++r7):ByteArray).size+((⟨#[59]⟩:ByteArray):ByteArray).size) 9223372036854775807) (
 some (((((((((((((((((((((⟨#[102,105,108,116,101,114,32]⟩:ByteArray):ByteArray)++r4):ByteArray)++((⟨#[32]⟩:ByteArray):ByteArray)):ByteArray)++s6):ByteArray)++((⟨#[32]⟩:ByteArray):ByteArray)):ByteArray)++r2.1):ByteArray)++((⟨#[32,47,32]⟩:ByteArray):ByteArray)):ByteArray)++r3.1):ByteArray)++((⟨#[32,45,62,32]⟩:ByteArray):ByteArray)):ByteArray)++r7):ByteArray)++((⟨#[59]⟩:ByteArray):ByteArray))) none) none) none) none) none) none) none) none) none) none) none) none:=by kernel_rfl
noncomputable def yH (d:Nat) (x1:t3) (dW:List t10) (Zt:ByteArray) (AO:Int) (BV:List t1) (yI Gn Om Zu:List Int) (Zv:List t5) (Zw:List Int):Option t0 :=
 aa (x1.2.2.2 != 0) (
 some (Zt,BV,yI,Gn,Om,Zu,Zv,Zw,((eC dW x1.2.2.2).getD 0))) (
 some (Zt,BV,yI,Gn,Om,Zu,Zv,Zw,AO))
noncomputable def rI (d:Nat) (x1:t3) (dW:List t10) (yJ:ByteArray->Int->(List t1)->(List Int)->(List Int)->(List Int)->(List Int)->(List t5)->(List Int)->Option t0) (T0:(Int×t0)->Option t0) (s:(Int×t0)):Option t0 :=
(fun ID (lP:t0) =>
 aa (decide (ID < (x1.2.2.1.length:Int))) (
 aa (decide (0<=ID)) (
 Q1 (x1.2.2.1[ID.toNat]?) fun Zx =>
 aa (Nat.ble ((lP.2.2.2.2.2.2.2.1.length+[((eC dW Zx.2.2.2.2).getD 0)].length)*8) Q7) (
 T0 ((i64.wrap (ID+1)),(lP.1,lP.2.1,lP.2.2.1,lP.2.2.2.1,lP.2.2.2.2.1,lP.2.2.2.2.2.1,lP.2.2.2.2.2.2.1,(lP.2.2.2.2.2.2.2.1++[((eC dW Zx.2.2.2.2).getD 0)]),lP.2.2.2.2.2.2.2.2))) none) none) (
 yJ lP.1 lP.2.2.2.2.2.2.2.2 lP.2.1 lP.2.2.1 lP.2.2.2.1 lP.2.2.2.2.1 lP.2.2.2.2.2.1 lP.2.2.2.2.2.2.1 lP.2.2.2.2.2.2.2.1)) s.1 s.2
noncomputable def yK (d:Nat) (x1:t3) (KZ:ByteArray) (tH:Int) (dW:List t10) (eS:List t1) (DM:List t5) (xO AP AQ nx S6:List Int):Option t0 :=
 Q8 (rI d x1 dW (yH d x1 dW)) Qd (0,(KZ,eS,nx,AP,AQ,S6,DM,xO,tH))
noncomputable def rJ (d:Nat) (IE:List Int) (yL:(List Int)->Option t0) (K0:t11->Option t0) (s:t11):Option t0 :=
(fun gG (vA:List Int) =>
 aa (decide (gG>=0)) (
 aa (decide (0<=gG)) (
 aa (Nat.blt (gG.toNat) vA.length) (
 Q1 (vA[gG.toNat]?) fun ID =>
 aa (decide (0<=gG)) (
 aa (Nat.blt (gG.toNat) IE.length) (
 Q1 (IE[gG.toNat]?) fun AO =>
 aa (decide (AO>=0)) (
 aa (decide (0<=gG)) (
 aa (Nat.blt (gG.toNat) IE.length) (
 Q1 (IE[gG.toNat]?) fun vD =>
 aa (decide (0<=vD)) (
 aa (Nat.blt (vD.toNat) ((vA.set (gG.toNat) (i64.wrap (gG+1))).length)) (
 Q1 ((vA.set (gG.toNat) (i64.wrap (gG+1)))[vD.toNat]?) fun IF =>
 aa (decide (0<=gG)) (
 aa (Nat.blt (gG.toNat) ((vA.set (gG.toNat) (i64.wrap (gG+1))).length)) (
 Q1 ((vA.set (gG.toNat) (i64.wrap (gG+1)))[gG.toNat]?) fun n43 =>
 K0 ((i64.wrap (gG - 1)),((vA.set (gG.toNat) (i64.wrap (gG+1))).set (gG.toNat) IF))) none) none) none) none) none) none) (
 K0 ((i64.wrap (gG - 1)),(vA.set (gG.toNat) (i64.wrap (gG+1)))))) none) none) none) none) (
 yL vA)) s.1 s.2
noncomputable def DO (d:Nat) (x1:t3) (KZ:ByteArray) (tH:Int) (dW:List t10) (eS:List t1) (DM:List t5) (xO IE AP AQ nx:List Int):Option t0 :=
 Q8 (rJ d IE (yK d x1 KZ tH dW eS DM xO AP AQ nx)) Qd ((i64.wrap ((eS.length:Int) - 1)),(List.replicate ((eS.length:Int).toNat) (0:Int)))
noncomputable def rK (d:Nat) (dW:List t10) (yM:(Int×(List Int)×(List Int)×(List Int)×(List Int))->Option t0) (j_:Int) (nx vE:List Int) (lQ:t1) (b41:Bool) (yI Gn:List Int):Option t0 :=
 aa (decide (0<=(((eC dW lQ.2.1).getD 0):Int))) (
 aa (Nat.blt ((((eC dW lQ.2.1).getD 0):Int).toNat) vE.length) (
 Q1 (vE[(((eC dW lQ.2.1).getD 0):Int).toNat]?) fun n44 =>
 yM ((i64.wrap (j_+1)),yI,Gn,(nx.set (j_.toNat) ((eC dW lQ.2.1).getD 0)),(vE.set ((((eC dW lQ.2.1).getD 0):Int).toNat) j_))) none) none
noncomputable def ke (d:Nat) (dW:List t10) (eS:List t1) (yN:(List Int)->(List Int)->(List Int)->(List Int)->Option t0) (yM:(Int×(List Int)×(List Int)×(List Int)×(List Int))->Option t0) (s:(Int×(List Int)×(List Int)×(List Int)×(List Int))):Option t0 :=
(fun j_ (AP:List Int) (AQ:List Int) (nx:List Int) (vE:List Int) =>
 aa (decide (j_ < (eS.length:Int))) (
 aa (decide (0<=j_)) (
 aa (Nat.blt (j_.toNat) eS.length) (
 Q1 (eS[j_.toNat]?) fun lQ =>
 aa (!((eC dW lQ.2.1).isSome)) (
 aa (decide (0<=j_)) (
 aa (Nat.blt (j_.toNat) nx.length) (
 Q1 (nx[j_.toNat]?) fun Y9 =>
 yM ((i64.wrap (j_+1)),AP,AQ,(nx.set (j_.toNat) (-1)),vE)) none) none) (
 aa (decide (0<=j_)) (
 aa (Nat.blt (j_.toNat) nx.length) (
 Q1 (nx[j_.toNat]?) fun ID =>
 aa (decide (0<=(((eC dW lQ.2.1).getD 0):Int))) (
 aa (Nat.blt ((((eC dW lQ.2.1).getD 0):Int).toNat) vE.length) (
 Q1 (vE[(((eC dW lQ.2.1).getD 0):Int).toNat]?) fun AO =>
 aa (decide (AO < 0)) (
 aa (decide (0<=(((eC dW lQ.2.1).getD 0):Int))) (
 aa (Nat.blt ((((eC dW lQ.2.1).getD 0):Int).toNat) AP.length) (
 Q1 (AP[(((eC dW lQ.2.1).getD 0):Int).toNat]?) fun vD =>
 rK d dW yM j_ nx vE lQ true (AP.set ((((eC dW lQ.2.1).getD 0):Int).toNat) j_) AQ) none) none) (
 aa (decide (0<=(((eC dW lQ.2.1).getD 0):Int))) (
 aa (Nat.blt ((((eC dW lQ.2.1).getD 0):Int).toNat) vE.length) (
 Q1 (vE[(((eC dW lQ.2.1).getD 0):Int).toNat]?) fun IF =>
 aa (decide (0<=IF)) (
 aa (Nat.blt (IF.toNat) AQ.length) (
 Q1 (AQ[IF.toNat]?) fun n43 =>
 rK d dW yM j_ nx vE lQ false AP (AQ.set (IF.toNat) j_)) none) none) none) none)) none) none) none) none)) none) none) (
 yN vE AP AQ nx)) s.1 s.2.1 s.2.2.1 s.2.2.2.1 s.2.2.2.2
noncomputable def nC (d:Nat) (x1:t3) (KZ:ByteArray) (tH:Int) (dW:List t10) (eS:List t1) (FB KC xB IB:List Int) (DM:List t5) (xO:List Int):Option t0 :=
 Q1 (yE (d+1) [(-1)] (eS.length:Int)) fun T1 =>
 Q1 (yE (d+1) [(-1)] (eS.length:Int)) fun KP =>
 aa (decide (0<=(eS.length:Int))) (
 aa (decide (0<=(eS.length:Int))) (
 aa (Nat.ble ((eS.length:Int).toNat) ((eS.length:Int).toNat)&&Nat.ble (((eS.length:Int).toNat)*8) Q7) (
 aa (decide (0<=(eS.length:Int))) (
 aa (decide (0<=(eS.length:Int))) (
 aa (Nat.ble ((eS.length:Int).toNat) ((eS.length:Int).toNat)&&Nat.ble (((eS.length:Int).toNat)*8) Q7) (
 Q1 (yE (d+1) [(-1)] (eS.length:Int)) fun uw =>
 Q8 (ke d dW eS (DO d x1 KZ tH dW eS DM xO)) Qd (0,T1,KP,(List.replicate ((eS.length:Int).toNat) (0:Int)),uw)) none) none) none) none) none) none
noncomputable def rL (d:Nat) (x1:t3) (oY:t6) (yO:ByteArray->Int->(List t10)->(List t1)->(List Int)->(List Int)->(List Int)->(List Int)->(List t5)->(List Int)->Option t0) (Gi:(Int×t0×(List (List (List t10))))->Option t0) (s:(Int×t0×(List (List (List t10))))):Option t0 :=
(fun eK (nk:t0) (dW:List (List (List t10))) =>
 aa (decide (eK < (oY.2.2.1.length:Int))) (
 aa (decide (0<=eK)) (
 aa (Nat.blt (eK.toNat) oY.2.2.1.length) (
 Q1 (oY.2.2.1[eK.toNat]?) fun o7 =>
 aa (decide (0<=o7)) (
 Q1 (x1.2.1[o7.toNat]?) fun TF =>
 aa (Nat.ble ((nk.2.1.length+[TF].length)*64) Q7) (
 aa (decide (0<=o7)) (
 Q1 (x1.2.1[o7.toNat]?) fun Y_ =>
 Gi ((i64.wrap (eK+1)),(nk.1,(nk.2.1++[TF]),nk.2.2),([[(gO (BW dW) Y_.1 eK)]]:List (List (List t10))))) none) none) none) none) none) (
 yO nk.1 nk.2.2.2.2.2.2.2.2 (BW dW) nk.2.1 nk.2.2.1 nk.2.2.2.1 nk.2.2.2.2.1 nk.2.2.2.2.2.1 nk.2.2.2.2.2.2.1 nk.2.2.2.2.2.2.2.1)) s.1 s.2.1 s.2.2
noncomputable def kg (d:Nat) (x1:t3) (r2:List t5) (s8:ByteArray) (l9:List t1) (l10:List t5) (iz:Int) (DJ:List ByteArray) (fS j8 ig:List Int):Option t0 :=
 Q1 (nB d ((s8,l9,l10,iz),DJ,fS,j8,ig) 0 (⟨#[125]⟩:ByteArray)) fun oY =>
 Q8 (rL d x1 oY (nC d x1)) Qd (0,(x1.1,[],[],[],[],[],r2,[],(-1)),([[([]:List t10)]]:List (List (List t10))))
noncomputable def gY (d:Nat) (x1:t3) (lR:ByteArray->(List t1)->(List t5)->Int->(List ByteArray)->(List Int)->(List Int)->(List Int)->Option t0) (Tw:(Int×t6)->Option t0) (s:(Int×t6)):Option t0 :=
(fun n8 (x9:t6) =>
 aa (decide (n8 < (x1.2.2.1.length:Int))) (
 aa (decide (0<=n8)) (
 Q1 (x1.2.2.1[n8.toNat]?) fun aR =>
 Q1 (Gm d aR) fun gU =>
 Q1 (nB d x9 1 gU) fun j6 =>
 Tw ((i64.wrap (n8+1)),j6)) none) (
 lR x9.1.1 x9.1.2.1 x9.1.2.2.1 x9.1.2.2.2 x9.2.1 x9.2.2.1 x9.2.2.2.1 x9.2.2.2.2)) s.1 s.2
noncomputable def fD (d:Nat) (x1:t3) (r2:List t5) (s3:ByteArray):Option t0 :=
 aa (Nat.ble (s3.size+((⟨#[32,123]⟩:ByteArray):ByteArray).size) 9223372036854775807) (
 Q1 (nB d (x1,[],[],(List.replicate ((x1.2.1.length:Int).toNat) (0:Int)),(List.replicate ((x1.2.1.length:Int).toNat) (0:Int))) 0 (s3++((⟨#[32,123]⟩:ByteArray):ByteArray))) fun r4 =>
 Q1 (Gl d x1) fun r5 =>
 Q1 (BT d r4 r5 1) fun r6 =>
 Q8 (gY d x1 (kg d x1 r2)) Qd (0,r6)) none
theorem e95 (d:Nat) (x1:t3):On (d+2) x1 =
 Q1 (KO (d+1) x1.2.2.1) fun r2 =>
 aa (decide (0<=(x1.2.1.length:Int))) (
 aa (decide (0<=(x1.2.1.length:Int))) (
 aa (Nat.ble ((x1.2.1.length:Int).toNat) ((x1.2.1.length:Int).toNat)&&Nat.ble (((x1.2.1.length:Int).toNat)*8) Q7) (
 aa (decide (0<=(x1.2.1.length:Int))) (
 aa (decide (0<=(x1.2.1.length:Int))) (
 aa (Nat.ble ((x1.2.1.length:Int).toNat) ((x1.2.1.length:Int).toNat)&&Nat.ble (((x1.2.1.length:Int).toNat)*8) Q7) (
 aa (Nat.ble (((⟨#[113,100,105,115,99,32]⟩:ByteArray):ByteArray).size+x1.1.size) 9223372036854775807) (
 aa (x1.2.2.2 != 0) (
 Q1 (jP d x1.2.2.2) fun r3 =>
 aa (Nat.ble (((⟨#[32,100,101,102,97,117,108,116,32]⟩:ByteArray):ByteArray).size+r3.size) 9223372036854775807) (
 aa (Nat.ble (((((⟨#[113,100,105,115,99,32]⟩:ByteArray):ByteArray)++x1.1):ByteArray).size+((((⟨#[32,100,101,102,97,117,108,116,32]⟩:ByteArray):ByteArray)++r3):ByteArray).size) 9223372036854775807) (
 fD d x1 r2 (((((⟨#[113,100,105,115,99,32]⟩:ByteArray):ByteArray)++x1.1):ByteArray)++((((⟨#[32,100,101,102,97,117,108,116,32]⟩:ByteArray):ByteArray)++r3):ByteArray))) none) none) (
 fD d x1 r2 (((⟨#[113,100,105,115,99,32]⟩:ByteArray):ByteArray)++x1.1))) none) none) none) none) none) none) none:=by kernel_rfl
noncomputable def Gp (d:Nat) (b4:Bool):Option Bool :=
 some true
noncomputable def qk (d:Nat) (l1 l2:List t1) (ux:Bool->Option Bool) (bM:t9->Option Bool) (s:t9):Option Bool :=
(fun (b4:Bool) n5 =>
 aa (decide (n5 < (l1.length:Int))) (
 aa (decide (0<=n5)) (
 Q1 (l1[n5.toNat]?) fun x6 =>
 aa (decide (0<=n5)) (
 Q1 (l2[n5.toNat]?) fun x7 =>
 aa (!((x6.1==x7.1)&&((x6.2.1==x7.2.1)&&((x6.2.2.1==x7.2.2.1)&&((x6.2.2.2.1==x7.2.2.2.1)&&((x6.2.2.2.2.1==x7.2.2.2.2.1)&&((x6.2.2.2.2.2.1==x7.2.2.2.2.2.1)&&((x6.2.2.2.2.2.2.1==x7.2.2.2.2.2.2.1)&&((x6.2.2.2.2.2.2.2==x7.2.2.2.2.2.2.2)&&true))))))))) (
 some false) (
 bM (b4,(i64.wrap (n5+1))))) none) none) (
 ux b4)) s.1 s.2
theorem T2 (d:Nat) (l1 l2:List t1):Gq (d+1) l1 l2 =
 aa ((l1.length:Int) != (l2.length:Int)) (
 some false) (
 Q8 (qk d l1 l2 (Gp d)) Qd (false,0)):=by kernel_rfl
noncomputable def Gr (d:Nat) (b4:Bool):Option Bool :=
 some true
noncomputable def ql (d:Nat) (l1 l2:List Int) (uy:Bool->Option Bool) (bM:t9->Option Bool) (s:t9):Option Bool :=
(fun (b4:Bool) n5 =>
 aa (decide (n5 < (l1.length:Int))) (
 aa (decide (0<=n5)) (
 Q1 (l1[n5.toNat]?) fun n6 =>
 aa (decide (0<=n5)) (
 Q1 (l2[n5.toNat]?) fun n7 =>
 aa (n6 != n7) (
 some false) (
 bM (b4,(i64.wrap (n5+1))))) none) none) (
 uy b4)) s.1 s.2
theorem T3 (d:Nat) (l1 l2:List Int):qm (d+1) l1 l2 =
 aa ((l1.length:Int) != (l2.length:Int)) (
 some false) (
 Q8 (ql d l1 l2 (Gr d)) Qd (false,0)):=by kernel_rfl
noncomputable def yP (d:Nat) (x1:t0) (b2:Bool):Option Bool :=
 aa b2 (
 some false) (
 Q1 (KR d x1) fun r3 =>
 Q1 (Ol d r3) fun r4 =>
 aa (!r4) (
 some false) (
 Q1 (On d r3) fun r5 =>
 Q1 (Gq d x1.2.1 r5.2.1) fun r6 =>
 aa r6 (
 Q1 (qm d x1.2.2.1 r5.2.2.1) fun r7 =>
 aa r7 (
 Q1 (qm d x1.2.2.2.1 r5.2.2.2.1) fun r8 =>
 aa r8 (
 Q1 (qm d x1.2.2.2.2.1 r5.2.2.2.2.1) fun r9 =>
 aa r9 (
 Q1 (qm d x1.2.2.2.2.2.1 r5.2.2.2.2.2.1) fun de =>
 aa de (
 Q1 (qm d x1.2.2.2.2.2.2.2.1 r5.2.2.2.2.2.2.2.1) fun gU =>
 aa gU (
 some (x1.2.2.2.2.2.2.2.2==r5.2.2.2.2.2.2.2.2)) (
 some false)) (
 some false)) (
 some false)) (
 some false)) (
 some false)) (
 some false)))
theorem e87 (d:Nat) (x1:t0):T4 (d+1) x1 =
 aa (decide ((x1.2.1.length:Int) > 24)) (
 yP d x1 true) (
 yP d x1 (decide ((x1.2.2.2.2.2.2.1.length:Int) > 16))):=by kernel_rfl
noncomputable def K4 (d:Nat) (b5:Bool):Option Bool :=
 some true
noncomputable def nD (d:Nat) (ja:t9->Option Bool) (b5:Bool) (n6 n8 n9:Int) (KA AL Oe vt b14 Y5 Y6:Bool):Option Bool :=
 aa Y6 (
 some false) (
 ja (b5,(i64.wrap (n6+1))))
noncomputable def yR (d:Nat) (x1:t0) (x2:t7) (yS:Bool->Option Bool) (ja:t9->Option Bool) (s:t9):Option Bool :=
(fun (b5:Bool) n6 =>
 aa (decide (n6 < (x1.2.1.length:Int))) (
 aa (decide (0<=n6)) (
 Q1 (x1.2.1[n6.toNat]?) fun x7 =>
 aa (decide (0<=n6)) (
 Q1 (x2.1[n6.toNat]?) fun n8 =>
 aa (decide (n8 < 0)) (
 nD d ja b5 n6 n8 n8 (decide (n8 < 0)) true true true true true true) (
 aa (decide (0<=n6)) (
 Q1 (x2.1[n6.toNat]?) fun n9 =>
 aa (decide (n9 > x7.2.2.2.2.1)) (
 nD d ja b5 n6 n8 n8 (decide (n8 < 0)) false (decide (n9 > x7.2.2.2.2.1)) true true true true) (
 aa (decide (0<=n6)) (
 Q1 (x2.2[n6.toNat]?) fun dV =>
 aa (decide (dV < 0)) (
 nD d ja b5 n6 n8 n8 (decide (n8 < 0)) false (decide (n9 > x7.2.2.2.2.1)) false (decide (dV < 0)) true true) (
 aa (decide (0<=n6)) (
 Q1 (x2.2[n6.toNat]?) fun iz =>
 nD d ja b5 n6 n8 n8 (decide (n8 < 0)) false (decide (n9 > x7.2.2.2.2.1)) false (decide (dV < 0)) false (decide (iz > x7.2.2.2.2.2.1))) none)) none)) none)) none) none) (
 yS b5)) s.1 s.2
noncomputable def yT (d:Nat) (x1:t0) (x2:t7) (b3:Bool):Option Bool :=
 aa b3 (
 some false) (
 Q8 (yR d x1 x2 (K4 d)) Qd (false,0))
theorem e88 (d:Nat) (x1:t0) (x2:t7):T5 (d+1) x1 x2 =
 aa ((x2.1.length:Int) != (x1.2.1.length:Int)) (
 yT d x1 x2 true) (
 yT d x1 x2 ((x2.2.length:Int) != (x1.2.1.length:Int))):=by kernel_rfl
noncomputable def K5 (d:Nat) (l3:List Int):Option (List Int) :=
 some l3
noncomputable def yU (d:Nat) (x1:t0) (yV:(List Int)->Option (List Int)) (bV:t15->Option (List Int)) (s:t15):Option (List Int) :=
(fun (l3:List Int) n4 =>
 aa (decide (n4 < (x1.2.1.length:Int))) (
 aa (decide (0<=n4)) (
 Q1 (x1.2.2.2.1[n4.toNat]?) fun n5 =>
 aa (decide (n5 < 0)) (
 aa (Nat.ble ((l3.length+[n4].length)*8) Q7) (
 bV ((l3++[n4]),(i64.wrap (n4+1)))) none) (
 bV (l3,(i64.wrap (n4+1))))) none) (
 yV l3)) s.1 s.2
theorem e89 (d:Nat) (x1:t0):DP (d+1) x1 =
 Q8 (yU d x1 (K5 d)) Qd (([]:List Int),0):=by kernel_rfl
theorem K6 (d:Nat) (x1:t4):Gs (d+1) x1 =
 some (x1.2.1,x1.2.2.1,x1.2.2.2.1,x1.2.2.2.2.1):=by kernel_rfl
noncomputable def yW (d:Nat) (x1:t4) (b4:Bool):Option Bool :=
 aa (decide (x1.1>=1)) (
 aa (decide (x1.1<=100000)) (
 aa (decide (x1.2.2.2.2.2>=1)) (
 some (decide (x1.2.2.2.2.2<=1500))) (
 some false)) (
 some false)) (
 some false)
noncomputable def DQ (d:Nat) (r2:(Int×Int×Int×Int)) (yX:Bool->Option Bool) (bM:t9->Option Bool) (s:t9):Option Bool :=
(fun (b4:Bool) n5 =>
 aa (decide (n5 < 4)) (
 aa (decide (0<=n5)) (
 Q1 (([r2.1,r2.2.1,r2.2.2.1,r2.2.2.2]:List Int)[n5.toNat]?) fun n6 =>
 aa (decide (n6 < 0)) (
 some false) (
 aa (decide (n6 > 65535)) (
 some false) (
 bM (b4,(i64.wrap (n5+1)))))) none) (
 yX b4)) s.1 s.2
theorem e90 (d:Nat) (x1:t4):Oo (d+1) x1 =
 Q1 (Gs d x1) fun r2 =>
 Q8 (DQ d r2 (yW d x1)) Qd (false,0):=by kernel_rfl
theorem T6 (d:Nat) (x1:t5) (x2:t4):Gt (d+1) x1 x2 =
 Q1 (Gs d x2) fun r3 =>
 aa (decide (0<=x1.2.1)) (
 Q1 (([r3.1,r3.2.1,r3.2.2.1,r3.2.2.2]:List Int)[x1.2.1.toNat]?) fun n4 =>
 some (((i64.wrap ((BitVec.ofInt i64.bits n4 &&& BitVec.ofInt i64.bits x1.2.2.1).toNat:Int)):Int)==x1.2.2.2.1)) none:=by kernel_rfl
noncomputable def Gu (d:Nat) (n4:Int):Option Int :=
 some (-1)
noncomputable def qn (d:Nat) (l1:List t5) (x2:t4) (uz:Int->Option Int) (bM:t10->Option Int) (s:t10):Option Int :=
(fun n4 n5 =>
 aa (decide (n5 < (l1.length:Int))) (
 aa (decide (0<=n5)) (
 Q1 (l1[n5.toNat]?) fun x6 =>
 Q1 (Gt d x6 x2) fun r7 =>
 aa r7 (
 some n5) (
 bM (n4,(i64.wrap (n5+1))))) none) (
 uz n4)) s.1 s.2
theorem T7 (d:Nat) (l1:List t5) (x2:t4):Gv (d+1) l1 x2 =
 Q8 (qn d l1 x2 (Gu d)) Qd (0,0):=by kernel_rfl
theorem e91 (d:Nat) (x1:t0) (x2:t4):Oq (d+1) x1 x2 =
 Q1 (Gv d x1.2.2.2.2.2.2.1 x2) fun r3 =>
 aa (decide (r3>=0)) (
 aa (decide (0<=r3)) (
 Q1 (x1.2.2.2.2.2.2.2.1[r3.toNat]?) fun n4 =>
 some n4) none) (
 some x1.2.2.2.2.2.2.2.2):=by kernel_rfl
noncomputable def jg (d:Nat) (n4:Int):Option Bool :=
 some (decide (((-1):Int)>=0))
noncomputable def dN (d:Nat) (l1:List t4) (n2:Int) (gm:Int->Option Bool) (bM:t10->Option Bool) (s:t10):Option Bool :=
(fun n4 n5 =>
 aa (decide (n5 < (l1.length:Int))) (
 aa (decide (0<=n5)) (
 Q1 (l1[n5.toNat]?) fun x6 =>
 aa (x6.1==n2) (
 some (decide (n5>=0))) (
 bM (n4,(i64.wrap (n5+1))))) none) (
 gm n4)) s.1 s.2
theorem T8 (d:Nat) (l1:List t4) (n2:Int):Gw (d+4) l1 n2 =
 Q8 (dN d l1 n2 (jg d)) Qd (0,0):=by kernel_rfl
noncomputable def K7 (d:Nat) (b3:Bool):Option Bool :=
 some true
noncomputable def yY (d:Nat) (l1:List t4) (yZ:Bool->Option Bool) (bV:t9->Option Bool) (s:t9):Option Bool :=
(fun (b3:Bool) n4 =>
 aa (decide (n4 < (l1.length:Int))) (
 aa (decide (0<=n4)) (
 Q1 (l1[n4.toNat]?) fun x5 =>
 Q1 (Oo d x5) fun r6 =>
 aa (!r6) (
 some false) (
 aa (decide (0<=n4)) (
 aa (Nat.ble (n4.toNat) l1.length) (
 Q1 (Gw d (l1.take (n4.toNat)) x5.1) fun r7 =>
 aa r7 (
 some false) (
 bV (b3,(i64.wrap (n4+1))))) none) none)) none) (
 yZ b3)) s.1 s.2
theorem e92 (d:Nat) (l1:List t4):T9 (d+1) l1 =
 Q8 (yY d l1 (K7 d)) Qd (false,0):=by kernel_rfl
noncomputable def DR (d:Nat) (l5:List t4):Option (List t4) :=
 some l5
noncomputable def rM (d:Nat) (l1:List (List t4)) (jh:(List t4)->Option (List t4)) (ja:((List t4)×Int)->Option (List t4)) (s:((List t4)×Int)):Option (List t4) :=
(fun (l5:List t4) n6 =>
 aa (decide (n6 < (l1.length:Int))) (
 aa (decide (0<=n6)) (
 Q1 (l1[n6.toNat]?) fun l7 =>
 aa (Nat.ble ((l5.length+l7.length)*48) Q7) (
 ja ((l5++l7),(i64.wrap (n6+1)))) none) none) (
 jh l5)) s.1 s.2
noncomputable def DS (d:Nat) (l9:List t4):Option (List t4) :=
 some l9
noncomputable def lS (d:Nat) (l1:List (List t4)) (jh:(List t4)->Option (List t4)) (xS:((List t4)×Int)->Option (List t4)) (s:((List t4)×Int)):Option (List t4) :=
(fun (l9:List t4) dV =>
 aa (decide (dV < (l1.length:Int))) (
 aa (decide (0<=dV)) (
 Q1 (l1[dV.toNat]?) fun kY =>
 aa (Nat.ble ((l9.length+kY.length)*48) Q7) (
 xS ((l9++kY),(i64.wrap (dV+1)))) none) none) (
 jh l9)) s.1 s.2
noncomputable def rN (d:Nat) (l1:List (List t4)) (n3:Int):Option (List t4) :=
 aa (decide (n3 < 0)) (
 none) (
 aa (decide (((i64.wrap (n3 - (i64.wrap ((0:Int) - ((0:Nat):Int))))):Int) > 0)) (
 aa (Nat.ble 0 0) (
 aa (decide (0<=((i64.wrap (n3 - (i64.wrap ((0:Int) - ((0:Nat):Int))))):Int))&&decide (((i64.wrap (n3 - (i64.wrap ((0:Int) - ((0:Nat):Int))))):Int)*((48:Nat):Int)<=(Q7:Int))) (
 aa (Nat.ble ((List.replicate ((i64.wrap (n3 - (i64.wrap ((0:Int) - ((0:Nat):Int))))):Int).toNat ((0,0,0,0,0,0):t4)).length*48) Q7) (
 aa (decide (0<=(((0:Nat):Int):Int))) (
 aa (Nat.ble ((((0:Nat):Int):Int).toNat) ((List.replicate ((i64.wrap (n3 - (i64.wrap ((0:Int) - ((0:Nat):Int))))):Int).toNat ((0,0,0,0,0,0):t4)).length)) (
 Q8 (rM d l1 (DR d)) Qd (((List.replicate ((i64.wrap (n3 - (i64.wrap ((0:Int) - ((0:Nat):Int))))):Int).toNat ((0,0,0,0,0,0):t4)).take ((((0:Nat):Int):Int).toNat)),0)) none) none) none) none) none) (
 Q8 (lS d l1 (DS d)) Qd ([],0)))
noncomputable def rO (d:Nat) (l1:List (List t4)) (y_:Int->Option (List t4)) (bV:t10->Option (List t4)) (s:t10):Option (List t4) :=
(fun n3 n4 =>
 aa (decide (n4 < (l1.length:Int))) (
 aa (decide (0<=n4)) (
 Q1 (l1[n4.toNat]?) fun l5 =>
 aa (decide (((i64.wrap (n3+(l5.length:Int))):Int) < 0)) (
 none) (
 bV ((i64.wrap (n3+(l5.length:Int))),(i64.wrap (n4+1))))) none) (
 y_ n3)) s.1 s.2
theorem e93 (d:Nat) (l1:List (List t4)):T_ (d+2) l1 =
 Q8 (rO d l1 (rN d l1)) Qd (0,0):=by kernel_rfl
noncomputable def za (d:Nat) (x1:t2) (b6:Bool):Option Bool :=
 Q1 (T_ d x1.2.2.1) fun r7 =>
 Q1 (T9 d r7) fun r8 =>
 some r8
noncomputable def DT (d:Nat) (gS:t9->Option Bool) (n7:Int) (vt:Bool) (nq:Int):Option Bool :=
 gS (vt,(i64.wrap (n7+1)))
noncomputable def zb (d:Nat) (x1:t2) (n8:Int) (kY:List t4) (zc:Bool->Int->Option Bool) (FM:t9->Option Bool) (s:t9):Option Bool :=
(fun (vt:Bool) nq =>
 aa (decide (nq < (kY.length:Int))) (
 aa (decide (0<=nq)) (
 Q1 (kY[nq.toNat]?) fun TB =>
 Q1 (Oo d TB) fun oY =>
 aa (!oY) (
 some false) (
 Q1 (Oq d x1.1 TB) fun Fx =>
 aa (Fx != n8) (
 some false) (
 FM (vt,(i64.wrap (nq+1)))))) none) (
 zc vt nq)) s.1 s.2
noncomputable def zd (d:Nat) (x1:t2) (r3:List Int) (ze:Bool->Option Bool) (gS:t9->Option Bool) (s:t9):Option Bool :=
(fun (b6:Bool) n7 =>
 aa (decide (n7 < (r3.length:Int))) (
 aa (decide (0<=n7)) (
 aa (Nat.blt (n7.toNat) r3.length) (
 Q1 (r3[n7.toNat]?) fun n8 =>
 aa (decide (0<=n7)) (
 Q1 (x1.2.2.1[n7.toNat]?) fun l9 =>
 aa (decide (0<=n8)) (
 Q1 (x1.1.2.1[n8.toNat]?) fun aR =>
 aa (decide ((l9.length:Int) > aR.2.2.2.2.2.2.2)) (
 some false) (
 aa (decide (0<=n7)) (
 Q1 (x1.2.2.1[n7.toNat]?) fun kY =>
 Q8 (zb d x1 n8 kY (DT d gS n7)) Qd (b6,0)) none)) none) none) none) none) (
 ze b6)) s.1 s.2
noncomputable def ki (d:Nat) (x1:t2) (r3:List Int) (b4:Bool):Option Bool :=
 aa b4 (
 some false) (
 Q8 (zd d x1 r3 (za d x1)) Qd (false,0))
noncomputable def zf (d:Nat) (x1:t2) (b2:Bool):Option Bool :=
 aa b2 (
 some false) (
 Q1 (DP d x1.1) fun r3 =>
 aa ((x1.2.2.1.length:Int) != (r3.length:Int)) (
 ki d x1 r3 true) (
 aa (decide (x1.2.2.2.1 < (-1))) (
 ki d x1 r3 true) (
 aa (decide (x1.2.2.2.1>=(r3.length:Int))) (
 ki d x1 r3 true) (
 aa (decide (x1.2.2.2.2 < 0)) (
 ki d x1 r3 true) (
 ki d x1 r3 (decide (x1.2.2.2.2 > 1000000)))))))
theorem e42 (d:Nat) (x1:t2):Ot (d+1) x1 =
 Q1 (T4 d x1.1) fun r2 =>
 aa (!r2) (
 zf d x1 true) (
 Q1 (T5 d x1.1 x1.2.1) fun r3 =>
 zf d x1 (!r3)):=by kernel_rfl
noncomputable def K8 (d:Nat) (l3 l4:List Int):Option t7 :=
 some (l3,l4)
noncomputable def zg (d:Nat) (x1:t0) (zh:(List Int)->(List Int)->Option t7) (bV:(Int×t7)->Option t7) (s:(Int×t7)):Option t7 :=
(fun n3 (x4:t7) =>
 aa (decide (n3 < (x1.2.1.length:Int))) (
 aa (decide (0<=n3)) (
 Q1 (x1.2.1[n3.toNat]?) fun x5 =>
 aa (Nat.ble ((x4.1.length+[x5.2.2.2.2.1].length)*8) Q7) (
 aa (Nat.ble ((x4.2.length+[x5.2.2.2.2.2.1].length)*8) Q7) (
 bV ((i64.wrap (n3+1)),((x4.1++[x5.2.2.2.2.1]),(x4.2++[x5.2.2.2.2.2.1])))) none) none) none) (
 zh x4.1 x4.2)) s.1 s.2
theorem e96 (d:Nat) (x1:t0):T' (d+1) x1 =
 Q8 (zg d x1 (K8 d)) Qd (0,([],[])):=by kernel_rfl
noncomputable def uA (d:Nat) (x1:t2) (r3:t0) (l7 l8 l10:List Int) (kY:List (List t4)) (eD:Int):Option t8 :=
 some ((r3,(l7,l8),kY,(-1),x1.2.2.2.2),l10)
noncomputable def gR (d:Nat) (x1:t2) (r3:t0) (l7 l8 l10:List Int) (kY:List (List t4)) (mG:t1) (vu:List Int) (lT:Int->Option t8) (FC:t10->Option t8) (s:t10):Option t8 :=
(fun eD eK =>
 aa (decide (eK < (vu.length:Int))) (
 aa (decide (0<=eK)) (
 aa (Nat.blt (eK.toNat) vu.length) (
 Q1 (vu[eK.toNat]?) fun tH =>
 aa (decide (0<=tH)) (
 aa (Nat.blt (tH.toNat) r3.2.1.length) (
 Q1 (r3.2.1[tH.toNat]?) fun BN =>
 aa (BN.1==mG.1) (
 some ((r3,(l7,l8),kY,eK,x1.2.2.2.2),l10)) (
 FC (eD,(i64.wrap (eK+1))))) none) none) none) none) (
 lT eD)) s.1 s.2
noncomputable def wu (d:Nat) (x1:t2) (r3:t0) (l7 l8 l10:List Int) (kY:List (List t4)):Option t8 :=
 aa (decide (x1.2.2.2.1>=0)) (
 Q1 (DP (d+2) x1.1) fun j6 =>
 aa (decide (0<=x1.2.2.2.1)) (
 aa (Nat.blt (x1.2.2.2.1.toNat) j6.length) (
 Q1 (j6[x1.2.2.2.1.toNat]?) fun jM =>
 aa (decide (0<=jM)) (
 Q1 (x1.1.2.1[jM.toNat]?) fun mG =>
 Q1 (DP (d+2) r3) fun vu =>
 Q8 (gR d x1 r3 l7 l8 l10 kY mG vu (uA d x1 r3 l7 l8 l10 kY)) Qd (0,0)) none) none) none) (
 some ((r3,(l7,l8),kY,(-1),x1.2.2.2.2),l10))
noncomputable def Dl (d:Nat) (DN:t12->Option t8) (iz gE:Int) (pL:List Int) (gh:List (List t4)):Option t8 :=
 DN (pL,(i64.wrap (iz+1)),gh)
noncomputable def dJ (d:Nat) (iA:t12->Option t8) (ig:List Int) (dM:Int) (fR:t4) (tH n20:Int) (eS:List (List t4)):Option t8 :=
 aa (tH != 1) (
 aa (Nat.ble ((ig.length+[fR.1].length)*8) Q7) (
 iA ((ig++[fR.1]),(i64.wrap (dM+1)),eS)) none) (
 iA (ig,(i64.wrap (dM+1)),eS))
noncomputable def ru (d:Nat) (r3:t0) (fS:List t4) (zi:Int->(List Int)->(List (List t4))->Option t8) (iA:t12->Option t8) (s:t12):Option t8 :=
(fun (ig:List Int) dM (gh:List (List t4)) =>
 aa (decide (dM < (fS.length:Int))) (
 aa (decide (0<=dM)) (
 Q1 (fS[dM.toNat]?) fun fR =>
 Q1 (Oq (d+1) r3 fR) fun vw =>
 aa (decide (vw < 0)) (
 dJ d iA ig dM fR 3 0 gh) (
 aa (decide (0<=vw)) (
 aa (Nat.blt (vw.toNat) r3.2.1.length) (
 Q1 (r3.2.1[vw.toNat]?) fun BN =>
 Q1 (DP (d+1) r3) fun Uc =>
 Q1 (xW (d+1) Uc vw) fun ox =>
 aa (decide (0<=ox)) (
 aa (Nat.blt (ox.toNat) gh.length) (
 Q1 (gh[ox.toNat]?) fun KC =>
 aa ((KC.length:Int)==BN.2.2.2.2.2.2.2) (
 dJ d iA ig dM fR 2 BN.1 gh) (
 aa (decide (0<=ox)) (
 aa (Nat.blt (ox.toNat) gh.length) (
 Q1 (gh[ox.toNat]?) fun xB =>
 aa (Nat.ble ((xB.length+[fR].length)*48) Q7) (
 aa (decide (0<=ox)) (
 aa (Nat.blt (ox.toNat) gh.length) (
 aa (Nat.beq (ox.toNat) (ox.toNat)) (
 Q1 (gh[ox.toNat]?) fun IB =>
 dJ d iA ig dM fR 1 BN.1 (gh.set (ox.toNat) (xB++[fR]))) none) none) none) none) none) none)) none) none) none) none)) none) (
 zi dM ig gh)) s.1 s.2.1 s.2.2
noncomputable def rz (d:Nat) (x1:t2) (r3:t0) (zj:(List Int)->(List (List t4))->Option t8) (DN:t12->Option t8) (s:t12):Option t8 :=
(fun (l10:List Int) iz (DJ:List (List t4)) =>
 aa (decide (iz < (x1.2.2.1.length:Int))) (
 aa (decide (0<=iz)) (
 Q1 (x1.2.2.1[iz.toNat]?) fun fS =>
 Q8 (ru d r3 fS (Dl d DN iz)) Qd (l10,0,DJ)) none) (
 zj l10 DJ)) s.1 s.2.1 s.2.2
noncomputable def Dm (d:Nat) (x1:t2) (r3:t0) (r5 l7 l8:List Int):Option t8 :=
 Q8 (rz d x1 r3 (wu d x1 r3 l7 l8)) Qd (([]:List Int),0,(List.replicate ((r5.length:Int).toNat) ([]:List t4)))
noncomputable def dI (d:Nat) (x1:t2) (gd:t16->Option t8) (n7:Int) (l8 l9:List Int) (aR:t1) (iz:Int):Option t8 :=
 aa (decide (iz>=0)) (
 aa (decide (0<=iz)) (
 Q1 (x1.2.1.1[iz.toNat]?) fun tJ =>
 aa (decide (0<=n7)) (
 aa (Nat.blt (n7.toNat) l8.length) (
 Q1 (l8[n7.toNat]?) fun jM =>
 aa (decide (0<=iz)) (
 Q1 (x1.2.1.2[iz.toNat]?) fun nq =>
 aa (decide (0<=n7)) (
 aa (Nat.blt (n7.toNat) l9.length) (
 Q1 (l9[n7.toNat]?) fun gE =>
 gd ((i64.wrap (n7+1)),(l8.set (n7.toNat) (if aR.2.2.2.2.1 < tJ then aR.2.2.2.2.1 else tJ)),(l9.set (n7.toNat) (if aR.2.2.2.2.2.1 < nq then aR.2.2.2.2.2.1 else nq)))) none) none) none) none) none) none) (
 gd ((i64.wrap (n7+1)),l8,l9))
noncomputable def zl (d:Nat) (x1:t2) (gd:t16->Option t8) (n7:Int) (l8 l9:List Int) (aR:t1) (tJ:Int):Option t8 :=
 dI d x1 gd n7 l8 l9 aR (-1)
noncomputable def iW (d:Nat) (x1:t2) (gd:t16->Option t8) (n7:Int) (l8 l9:List Int) (aR:t1) (nE:Int->Option t8) (Ud:t10->Option t8) (s:t10):Option t8 :=
(fun tJ jM =>
 aa (decide (jM < (x1.1.2.1.length:Int))) (
 aa (decide (0<=jM)) (
 Q1 (x1.1.2.1[jM.toNat]?) fun mG =>
 aa (mG.1==aR.1) (
 dI d x1 gd n7 l8 l9 aR jM) (
 Ud (tJ,(i64.wrap (jM+1))))) none) (
 nE tJ)) s.1 s.2
noncomputable def rm (d:Nat) (x1:t2) (r3:t0) (zm:(List Int)->(List Int)->Option t8) (gd:t16->Option t8) (s:t16):Option t8 :=
(fun n7 (l8:List Int) (l9:List Int) =>
 aa (decide (n7 < (r3.2.1.length:Int))) (
 aa (decide (0<=n7)) (
 aa (Nat.blt (n7.toNat) r3.2.1.length) (
 Q1 (r3.2.1[n7.toNat]?) fun aR =>
 Q8 (iW d x1 gd n7 l8 l9 aR (zl d x1 gd n7 l8 l9 aR)) Qd (0,0)) none) none) (
 zm l8 l9)) s.1 s.2.1 s.2.2
theorem e44 (d:Nat) (x1:t2) (x2:t3):RO (d+3) x1 x2 =
 Q1 (On (d+2) x2) fun r3 =>
 Q1 (T' (d+2) r3) fun r4 =>
 Q1 (DP (d+2) r3) fun r5 =>
 aa (decide (0<=(r5.length:Int))) (
 aa (decide (0<=(r5.length:Int))) (
 aa (Nat.ble ((r5.length:Int).toNat) ((r5.length:Int).toNat)&&Nat.ble (((r5.length:Int).toNat)*24) Q7) (
 Q8 (rm d x1 r3 (Dm d x1 r3 r5)) Qd (0,r4.1,r4.2)) none) none) none:=by kernel_rfl
theorem e12 (d:Nat) (x1:t2) (x2:t3):g12 (d+1) x1 x2 =
 Q1 (Ot d x1) fun r3 =>
 aa (!r3) (
 some ((((⟨#[]⟩:ByteArray),[],[],[],[],[],[],[],0),([],[]),[],0,0),[],false)) (
 Q1 (Ol d x2) fun r4 =>
 aa (!r4) (
 some ((((⟨#[]⟩:ByteArray),[],[],[],[],[],[],[],0),([],[]),[],0,0),[],false)) (
 Q1 (RO d x1 x2) fun r5 =>
 some (r5.1,r5.2,true))):=by kernel_rfl
theorem e28 (d:Nat) (x1:t2) (l2:List t5):Kl (d+3) x1 l2 =
 Q1 (Ot (d+1) x1) fun r3 =>
 aa (!r3) (
 some ((((⟨#[]⟩:ByteArray),[],[],[],[],[],[],[],0),([],[]),[],0,0),[],false)) (
 Q1 (KR (d+1) x1.1) fun r4 =>
 Q1 (KO d l2) fun r5 =>
 Q1 (g12 (d+1) x1 (r4.1,r4.2.1,r5,r4.2.2.2)) fun r6 =>
 some (r6.1,r6.2.1,r6.2.2)):=by kernel_rfl
noncomputable def zn (d:Nat) (n4:Int) (l5:List t5):Option (Int×(List t5)) :=
 some (n4,l5)
noncomputable def rP (d:Nat) (zo:Int->(List t5)->Option (Int×(List t5))) (bM:(Int×Int×(List t5))->Option (Int×(List t5))) (s:(Int×Int×(List t5))):Option (Int×(List t5)) :=
(fun n4 n5 (l6:List t5) =>
 aa (decide (n5 < (l6.length:Int))) (
 aa (decide (0<=n5)) (
 aa (Nat.blt (n5.toNat) l6.length) (
 Q1 (l6[n5.toNat]?) fun x7 =>
 aa (decide (0<=n5)) (
 aa (Nat.blt (n5.toNat) ((l6.set (n5.toNat) (n4,x7.2)).length)) (
 Q1 ((l6.set (n5.toNat) (n4,x7.2))[n5.toNat]?) fun x8 =>
 aa (decide (0<=n5)) (
 aa (Nat.blt (n5.toNat) (((l6.set (n5.toNat) (n4,x7.2)).set (n5.toNat) (x8.1,(i64.wrap (n4+1)),x8.2.2)).length)) (
 Q1 (((l6.set (n5.toNat) (n4,x7.2)).set (n5.toNat) (x8.1,(i64.wrap (n4+1)),x8.2.2))[n5.toNat]?) fun x9 =>
 aa (decide (0<=n5)) (
 aa (Nat.blt (n5.toNat) ((((l6.set (n5.toNat) (n4,x7.2)).set (n5.toNat) (x8.1,(i64.wrap (n4+1)),x8.2.2)).set (n5.toNat) (x9.1,x9.2.1,(i64.wrap ((i64.wrap (n4+1))+1)),x9.2.2.2)).length)) (
 Q1 ((((l6.set (n5.toNat) (n4,x7.2)).set (n5.toNat) (x8.1,(i64.wrap (n4+1)),x8.2.2)).set (n5.toNat) (x9.1,x9.2.1,(i64.wrap ((i64.wrap (n4+1))+1)),x9.2.2.2))[n5.toNat]?) fun aR =>
 aa (decide (0<=n5)) (
 aa (Nat.blt (n5.toNat) (((((l6.set (n5.toNat) (n4,x7.2)).set (n5.toNat) (x8.1,(i64.wrap (n4+1)),x8.2.2)).set (n5.toNat) (x9.1,x9.2.1,(i64.wrap ((i64.wrap (n4+1))+1)),x9.2.2.2)).set (n5.toNat) (aR.1,aR.2.1,aR.2.2.1,(i64.wrap ((i64.wrap ((i64.wrap (n4+1))+1))+1)),aR.2.2.2.2)).length)) (
 Q1 (((((l6.set (n5.toNat) (n4,x7.2)).set (n5.toNat) (x8.1,(i64.wrap (n4+1)),x8.2.2)).set (n5.toNat) (x9.1,x9.2.1,(i64.wrap ((i64.wrap (n4+1))+1)),x9.2.2.2)).set (n5.toNat) (aR.1,aR.2.1,aR.2.2.1,(i64.wrap ((i64.wrap ((i64.wrap (n4+1))+1))+1)),aR.2.2.2.2))[n5.toNat]?) fun bP =>
 bM ((i64.wrap ((i64.wrap ((i64.wrap ((i64.wrap ((i64.wrap (n4+1))+1))+1))+1))+1)),(i64.wrap (n5+1)),(((((l6.set (n5.toNat) (n4,x7.2)).set (n5.toNat) (x8.1,(i64.wrap (n4+1)),x8.2.2)).set (n5.toNat) (x9.1,x9.2.1,(i64.wrap ((i64.wrap (n4+1))+1)),x9.2.2.2)).set (n5.toNat) (aR.1,aR.2.1,aR.2.2.1,(i64.wrap ((i64.wrap ((i64.wrap (n4+1))+1))+1)),aR.2.2.2.2)).set (n5.toNat) (bP.1,bP.2.1,bP.2.2.1,bP.2.2.2.1,(i64.wrap ((i64.wrap ((i64.wrap ((i64.wrap (n4+1))+1))+1))+1)))))) none) none) none) none) none) none) none) none) none) none) (
 zo n4 l6)) s.1 s.2.1 s.2.2
theorem e30 (d:Nat) (l1:List t5) (n2:Int):K9 (d+1) l1 n2 =
 Q8 (rP d (zn d)) Qd (n2,0,l1):=by kernel_rfl
noncomputable def zq (d:Nat) (n4:Int) (l5:List t1):Option t13 :=
 some (n4,l5)
noncomputable def rQ (d:Nat) (zu:Int->(List t1)->Option t13) (bM:(Int×Int×(List t1))->Option t13) (s:(Int×Int×(List t1))):Option t13 :=
(fun n4 n5 (l6:List t1) =>
 aa (decide (n5 < (l6.length:Int))) (
 aa (decide (0<=n5)) (
 aa (Nat.blt (n5.toNat) l6.length) (
 Q1 (l6[n5.toNat]?) fun x7 =>
 aa (decide (0<=n5)) (
 aa (Nat.blt (n5.toNat) ((l6.set (n5.toNat) (n4,x7.2)).length)) (
 Q1 ((l6.set (n5.toNat) (n4,x7.2))[n5.toNat]?) fun x8 =>
 aa (decide (0<=n5)) (
 aa (Nat.blt (n5.toNat) (((l6.set (n5.toNat) (n4,x7.2)).set (n5.toNat) (x8.1,(i64.wrap (n4+1)),x8.2.2)).length)) (
 Q1 (((l6.set (n5.toNat) (n4,x7.2)).set (n5.toNat) (x8.1,(i64.wrap (n4+1)),x8.2.2))[n5.toNat]?) fun x9 =>
 aa (decide (0<=n5)) (
 aa (Nat.blt (n5.toNat) ((((l6.set (n5.toNat) (n4,x7.2)).set (n5.toNat) (x8.1,(i64.wrap (n4+1)),x8.2.2)).set (n5.toNat) (x9.1,x9.2.1,(i64.wrap ((i64.wrap (n4+1))+1)),x9.2.2.2)).length)) (
 Q1 ((((l6.set (n5.toNat) (n4,x7.2)).set (n5.toNat) (x8.1,(i64.wrap (n4+1)),x8.2.2)).set (n5.toNat) (x9.1,x9.2.1,(i64.wrap ((i64.wrap (n4+1))+1)),x9.2.2.2))[n5.toNat]?) fun aR =>
 aa (decide (0<=n5)) (
 aa (Nat.blt (n5.toNat) (((((l6.set (n5.toNat) (n4,x7.2)).set (n5.toNat) (x8.1,(i64.wrap (n4+1)),x8.2.2)).set (n5.toNat) (x9.1,x9.2.1,(i64.wrap ((i64.wrap (n4+1))+1)),x9.2.2.2)).set (n5.toNat) (aR.1,aR.2.1,aR.2.2.1,(i64.wrap ((i64.wrap ((i64.wrap (n4+1))+1))+1)),aR.2.2.2.2)).length)) (
 Q1 (((((l6.set (n5.toNat) (n4,x7.2)).set (n5.toNat) (x8.1,(i64.wrap (n4+1)),x8.2.2)).set (n5.toNat) (x9.1,x9.2.1,(i64.wrap ((i64.wrap (n4+1))+1)),x9.2.2.2)).set (n5.toNat) (aR.1,aR.2.1,aR.2.2.1,(i64.wrap ((i64.wrap ((i64.wrap (n4+1))+1))+1)),aR.2.2.2.2))[n5.toNat]?) fun bP =>
 aa (decide (0<=n5)) (
 aa (Nat.blt (n5.toNat) ((((((l6.set (n5.toNat) (n4,x7.2)).set (n5.toNat) (x8.1,(i64.wrap (n4+1)),x8.2.2)).set (n5.toNat) (x9.1,x9.2.1,(i64.wrap ((i64.wrap (n4+1))+1)),x9.2.2.2)).set (n5.toNat) (aR.1,aR.2.1,aR.2.2.1,(i64.wrap ((i64.wrap ((i64.wrap (n4+1))+1))+1)),aR.2.2.2.2)).set (n5.toNat) (bP.1,bP.2.1,bP.2.2.1,bP.2.2.2.1,(i64.wrap ((i64.wrap ((i64.wrap ((i64.wrap (n4+1))+1))+1))+1)),bP.2.2.2.2.2)).length)) (
 Q1 ((((((l6.set (n5.toNat) (n4,x7.2)).set (n5.toNat) (x8.1,(i64.wrap (n4+1)),x8.2.2)).set (n5.toNat) (x9.1,x9.2.1,(i64.wrap ((i64.wrap (n4+1))+1)),x9.2.2.2)).set (n5.toNat) (aR.1,aR.2.1,aR.2.2.1,(i64.wrap ((i64.wrap ((i64.wrap (n4+1))+1))+1)),aR.2.2.2.2)).set (n5.toNat) (bP.1,bP.2.1,bP.2.2.1,bP.2.2.2.1,(i64.wrap ((i64.wrap ((i64.wrap ((i64.wrap (n4+1))+1))+1))+1)),bP.2.2.2.2.2))[n5.toNat]?) fun dB =>
 aa (decide (0<=n5)) (
 aa (Nat.blt (n5.toNat) (((((((l6.set (n5.toNat) (n4,x7.2)).set (n5.toNat) (x8.1,(i64.wrap (n4+1)),x8.2.2)).set (n5.toNat) (x9.1,x9.2.1,(i64.wrap ((i64.wrap (n4+1))+1)),x9.2.2.2)).set (n5.toNat) (aR.1,aR.2.1,aR.2.2.1,(i64.wrap ((i64.wrap ((i64.wrap (n4+1))+1))+1)),aR.2.2.2.2)).set (n5.toNat) (bP.1,bP.2.1,bP.2.2.1,bP.2.2.2.1,(i64.wrap ((i64.wrap ((i64.wrap ((i64.wrap (n4+1))+1))+1))+1)),bP.2.2.2.2.2)).set (n5.toNat) (dB.1,dB.2.1,dB.2.2.1,dB.2.2.2.1,dB.2.2.2.2.1,(i64.wrap ((i64.wrap ((i64.wrap ((i64.wrap ((i64.wrap (n4+1))+1))+1))+1))+1)),dB.2.2.2.2.2.2)).length)) (
 Q1 (((((((l6.set (n5.toNat) (n4,x7.2)).set (n5.toNat) (x8.1,(i64.wrap (n4+1)),x8.2.2)).set (n5.toNat) (x9.1,x9.2.1,(i64.wrap ((i64.wrap (n4+1))+1)),x9.2.2.2)).set (n5.toNat) (aR.1,aR.2.1,aR.2.2.1,(i64.wrap ((i64.wrap ((i64.wrap (n4+1))+1))+1)),aR.2.2.2.2)).set (n5.toNat) (bP.1,bP.2.1,bP.2.2.1,bP.2.2.2.1,(i64.wrap ((i64.wrap ((i64.wrap ((i64.wrap (n4+1))+1))+1))+1)),bP.2.2.2.2.2)).set (n5.toNat) (dB.1,dB.2.1,dB.2.2.1,dB.2.2.2.1,dB.2.2.2.2.1,(i64.wrap ((i64.wrap ((i64.wrap ((i64.wrap ((i64.wrap (n4+1))+1))+1))+1))+1)),dB.2.2.2.2.2.2))[n5.toNat]?) fun gD =>
 aa (decide (0<=n5)) (
 aa (Nat.blt (n5.toNat) ((((((((l6.set (n5.toNat) (n4,x7.2)).set (n5.toNat) (x8.1,(i64.wrap (n4+1)),x8.2.2)).set (n5.toNat) (x9.1,x9.2.1,(i64.wrap ((i64.wrap (n4+1))+1)),x9.2.2.2)).set (n5.toNat) (aR.1,aR.2.1,aR.2.2.1,(i64.wrap ((i64.wrap ((i64.wrap (n4+1))+1))+1)),aR.2.2.2.2)).set (n5.toNat) (bP.1,bP.2.1,bP.2.2.1,bP.2.2.2.1,(i64.wrap ((i64.wrap ((i64.wrap ((i64.wrap (n4+1))+1))+1))+1)),bP.2.2.2.2.2)).set (n5.toNat) (dB.1,dB.2.1,dB.2.2.1,dB.2.2.2.1,dB.2.2.2.2.1,(i64.wrap ((i64.wrap ((i64.wrap ((i64.wrap ((i64.wrap (n4+1))+1))+1))+1))+1)),dB.2.2.2.2.2.2)).set (n5.toNat) (gD.1,gD.2.1,gD.2.2.1,gD.2.2.2.1,gD.2.2.2.2.1,gD.2.2.2.2.2.1,(i64.wrap ((i64.wrap ((i64.wrap ((i64.wrap ((i64.wrap ((i64.wrap (n4+1))+1))+1))+1))+1))+1)),gD.2.2.2.2.2.2.2)).length)) (
 Q1 ((((((((l6.set (n5.toNat) (n4,x7.2)).set (n5.toNat) (x8.1,(i64.wrap (n4+1)),x8.2.2)).set (n5.toNat) (x9.1,x9.2.1,(i64.wrap ((i64.wrap (n4+1))+1)),x9.2.2.2)).set (n5.toNat) (aR.1,aR.2.1,aR.2.2.1,(i64.wrap ((i64.wrap ((i64.wrap (n4+1))+1))+1)),aR.2.2.2.2)).set (n5.toNat) (bP.1,bP.2.1,bP.2.2.1,bP.2.2.2.1,(i64.wrap ((i64.wrap ((i64.wrap ((i64.wrap (n4+1))+1))+1))+1)),bP.2.2.2.2.2)).set (n5.toNat) (dB.1,dB.2.1,dB.2.2.1,dB.2.2.2.1,dB.2.2.2.2.1,(i64.wrap ((i64.wrap ((i64.wrap ((i64.wrap ((i64.wrap (n4+1))+1))+1))+1))+1)),dB.2.2.2.2.2.2)).set (n5.toNat) (gD.1,gD.2.1,gD.2.2.1,gD.2.2.2.1,gD.2.2.2.2.1,gD.2.2.2.2.2.1,(i64.wrap ((i64.wrap ((i64.wrap ((i64.wrap ((i64.wrap ((i64.wrap (n4+1))+1))+1))+1))+1))+1)),gD.2.2.2.2.2.2.2))[n5.toNat]?) fun mG =>
 bM ((i64.wrap ((i64.wrap ((i64.wrap ((i64.wrap ((i64.wrap ((i64.wrap ((i64.wrap ((i64.wrap (n4+1))+1))+1))+1))+1))+1))+1))+1)),(i64.wrap (n5+1)),((((((((l6.set (n5.toNat) (n4,x7.2)).set (n5.toNat) (x8.1,(i64.wrap (n4+1)),x8.2.2)).set (n5.toNat) (x9.1,x9.2.1,(i64.wrap ((i64.wrap (n4+1))+1)),x9.2.2.2)).set (n5.toNat) (aR.1,aR.2.1,aR.2.2.1,(i64.wrap ((i64.wrap ((i64.wrap (n4+1))+1))+1)),aR.2.2.2.2)).set (n5.toNat) (bP.1,bP.2.1,bP.2.2.1,bP.2.2.2.1,(i64.wrap ((i64.wrap ((i64.wrap ((i64.wrap (n4+1))+1))+1))+1)),bP.2.2.2.2.2)).set (n5.toNat) (dB.1,dB.2.1,dB.2.2.1,dB.2.2.2.1,dB.2.2.2.2.1,(i64.wrap ((i64.wrap ((i64.wrap ((i64.wrap ((i64.wrap (n4+1))+1))+1))+1))+1)),dB.2.2.2.2.2.2)).set (n5.toNat) (gD.1,gD.2.1,gD.2.2.1,gD.2.2.2.1,gD.2.2.2.2.1,gD.2.2.2.2.2.1,(i64.wrap ((i64.wrap ((i64.wrap ((i64.wrap ((i64.wrap ((i64.wrap (n4+1))+1))+1))+1))+1))+1)),gD.2.2.2.2.2.2.2)).set (n5.toNat) (mG.1,mG.2.1,mG.2.2.1,mG.2.2.2.1,mG.2.2.2.2.1,mG.2.2.2.2.2.1,mG.2.2.2.2.2.2.1,(i64.wrap ((i64.wrap ((i64.wrap ((i64.wrap ((i64.wrap ((i64.wrap ((i64.wrap (n4+1))+1))+1))+1))+1))+1))+1)))))) none) none) none) none) none) none) none) none) none) none) none) none) none) none) none) none) (
 zu n4 l6)) s.1 s.2.1 s.2.2
theorem e52 (d:Nat) (l1:List t1) (n2:Int):Ou (d+1) l1 n2 =
 Q8 (rQ d (zq d)) Qd (n2,0,l1):=by kernel_rfl
noncomputable def qo (d:Nat) (n4:Int) (l5:List t4):Option (Int×(List t4)) :=
 some (n4,l5)
noncomputable def lU (d:Nat) (uB:Int->(List t4)->Option (Int×(List t4))) (bM:(Int×Int×(List t4))->Option (Int×(List t4))) (s:(Int×Int×(List t4))):Option (Int×(List t4)) :=
(fun n4 n5 (l6:List t4) =>
 aa (decide (n5 < (l6.length:Int))) (
 aa (decide (0<=n5)) (
 aa (Nat.blt (n5.toNat) l6.length) (
 Q1 (l6[n5.toNat]?) fun x7 =>
 aa (decide (0<=n5)) (
 aa (Nat.blt (n5.toNat) ((l6.set (n5.toNat) (n4,x7.2)).length)) (
 Q1 ((l6.set (n5.toNat) (n4,x7.2))[n5.toNat]?) fun x8 =>
 aa (decide (0<=n5)) (
 aa (Nat.blt (n5.toNat) (((l6.set (n5.toNat) (n4,x7.2)).set (n5.toNat) (x8.1,(i64.wrap (n4+1)),x8.2.2)).length)) (
 Q1 (((l6.set (n5.toNat) (n4,x7.2)).set (n5.toNat) (x8.1,(i64.wrap (n4+1)),x8.2.2))[n5.toNat]?) fun x9 =>
 aa (decide (0<=n5)) (
 aa (Nat.blt (n5.toNat) ((((l6.set (n5.toNat) (n4,x7.2)).set (n5.toNat) (x8.1,(i64.wrap (n4+1)),x8.2.2)).set (n5.toNat) (x9.1,x9.2.1,(i64.wrap ((i64.wrap (n4+1))+1)),x9.2.2.2)).length)) (
 Q1 ((((l6.set (n5.toNat) (n4,x7.2)).set (n5.toNat) (x8.1,(i64.wrap (n4+1)),x8.2.2)).set (n5.toNat) (x9.1,x9.2.1,(i64.wrap ((i64.wrap (n4+1))+1)),x9.2.2.2))[n5.toNat]?) fun aR =>
 aa (decide (0<=n5)) (
 aa (Nat.blt (n5.toNat) (((((l6.set (n5.toNat) (n4,x7.2)).set (n5.toNat) (x8.1,(i64.wrap (n4+1)),x8.2.2)).set (n5.toNat) (x9.1,x9.2.1,(i64.wrap ((i64.wrap (n4+1))+1)),x9.2.2.2)).set (n5.toNat) (aR.1,aR.2.1,aR.2.2.1,(i64.wrap ((i64.wrap ((i64.wrap (n4+1))+1))+1)),aR.2.2.2.2)).length)) (
 Q1 (((((l6.set (n5.toNat) (n4,x7.2)).set (n5.toNat) (x8.1,(i64.wrap (n4+1)),x8.2.2)).set (n5.toNat) (x9.1,x9.2.1,(i64.wrap ((i64.wrap (n4+1))+1)),x9.2.2.2)).set (n5.toNat) (aR.1,aR.2.1,aR.2.2.1,(i64.wrap ((i64.wrap ((i64.wrap (n4+1))+1))+1)),aR.2.2.2.2))[n5.toNat]?) fun bP =>
 aa (decide (0<=n5)) (
 aa (Nat.blt (n5.toNat) ((((((l6.set (n5.toNat) (n4,x7.2)).set (n5.toNat) (x8.1,(i64.wrap (n4+1)),x8.2.2)).set (n5.toNat) (x9.1,x9.2.1,(i64.wrap ((i64.wrap (n4+1))+1)),x9.2.2.2)).set (n5.toNat) (aR.1,aR.2.1,aR.2.2.1,(i64.wrap ((i64.wrap ((i64.wrap (n4+1))+1))+1)),aR.2.2.2.2)).set (n5.toNat) (bP.1,bP.2.1,bP.2.2.1,bP.2.2.2.1,(i64.wrap ((i64.wrap ((i64.wrap ((i64.wrap (n4+1))+1))+1))+1)),bP.2.2.2.2.2)).length)) (
 Q1 ((((((l6.set (n5.toNat) (n4,x7.2)).set (n5.toNat) (x8.1,(i64.wrap (n4+1)),x8.2.2)).set (n5.toNat) (x9.1,x9.2.1,(i64.wrap ((i64.wrap (n4+1))+1)),x9.2.2.2)).set (n5.toNat) (aR.1,aR.2.1,aR.2.2.1,(i64.wrap ((i64.wrap ((i64.wrap (n4+1))+1))+1)),aR.2.2.2.2)).set (n5.toNat) (bP.1,bP.2.1,bP.2.2.1,bP.2.2.2.1,(i64.wrap ((i64.wrap ((i64.wrap ((i64.wrap (n4+1))+1))+1))+1)),bP.2.2.2.2.2))[n5.toNat]?) fun dB =>
 bM ((i64.wrap ((i64.wrap ((i64.wrap ((i64.wrap ((i64.wrap ((i64.wrap (n4+1))+1))+1))+1))+1))+1)),(i64.wrap (n5+1)),((((((l6.set (n5.toNat) (n4,x7.2)).set (n5.toNat) (x8.1,(i64.wrap (n4+1)),x8.2.2)).set (n5.toNat) (x9.1,x9.2.1,(i64.wrap ((i64.wrap (n4+1))+1)),x9.2.2.2)).set (n5.toNat) (aR.1,aR.2.1,aR.2.2.1,(i64.wrap ((i64.wrap ((i64.wrap (n4+1))+1))+1)),aR.2.2.2.2)).set (n5.toNat) (bP.1,bP.2.1,bP.2.2.1,bP.2.2.2.1,(i64.wrap ((i64.wrap ((i64.wrap ((i64.wrap (n4+1))+1))+1))+1)),bP.2.2.2.2.2)).set (n5.toNat) (dB.1,dB.2.1,dB.2.2.1,dB.2.2.2.1,dB.2.2.2.2.1,(i64.wrap ((i64.wrap ((i64.wrap ((i64.wrap ((i64.wrap (n4+1))+1))+1))+1))+1)))))) none) none) none) none) none) none) none) none) none) none) none) none) (
 uB n4 l6)) s.1 s.2.1 s.2.2
theorem Ue (d:Nat) (l1:List t4) (n2:Int):zv (d+1) l1 n2 =
 Q8 (lU d (qo d)) Qd (n2,0,l1):=by kernel_rfl
noncomputable def BF (d:Nat) (de:t14) (uw:t13) (oy BX lp BY:t11) (BZ:(Int×(List t5))) (B3 vB B4:t11) (BV:List (List t4)) (DU:t11) (b48:Bool):Option Bool :=
 aa b48 (
 some false) (
 Q1 (g19 (d+2) ((de.1.1.1,uw.2,oy.2,BX.2,lp.2,BY.2,BZ.2,B3.2,de.1.1.2.2.2.2.2.2.2.2),(vB.2,B4.2),BV,de.1.2.2.2) 1) fun Ov =>
 aa (decide (Ov < 0)) (
 some false) (
 Q1 (g20 (d+2) DU.2 Ov) fun Zy =>
 aa (decide (Zy < 0)) (
 some false) (
 aa (Zy != DU.1) (
 some false) (
 some true))))
noncomputable def iZ (d:Nat) (x1:t2) (l2:List t5) (r7 de:t14) (uw:t13) (oy BX lp BY:t11) (BZ:(Int×(List t5))) (B3 vB B4:t11) (AO:Int) (BV:List (List t4)):Option Bool :=
 Q1 (g18 (d+2) de.2.1 AO) fun DU =>
 Q1 (g19 (d+2) ((de.1.1.1,uw.2,oy.2,BX.2,lp.2,BY.2,BZ.2,B3.2,de.1.1.2.2.2.2.2.2.2.2),(vB.2,B4.2),BV,de.1.2.2.2) 1) fun Zz =>
 aa (decide (Zz < 0)) (
 some false) (
 Q1 (g20 (d+2) DU.2 Zz) fun ZA =>
 aa (decide (ZA < 0)) (
 some false) (
 aa (ZA != DU.1) (
 some false) (
 Q1 (g10 (d+2) x1) fun Ow =>
 Q1 (Dr (d+2) l2) fun r46 =>
 Q1 (Kl (d+2) Ow r46) fun Uf =>
 Q1 (g13 (d+2) Uf.1 r7.1) fun r48 =>
 aa (!r48) (
 BF d de uw oy BX lp BY BZ B3 vB B4 BV DU true) (
 Q1 (g14 (d+2) Uf.2.1 r7.2.1) fun Ov =>
 aa (!Ov) (
 BF d de uw oy BX lp BY BZ B3 vB B4 BV DU true) (
 BF d de uw oy BX lp BY BZ B3 vB B4 BV DU (!(Uf.2.2==r7.2.2)))))))
noncomputable def qp (d:Nat) (er:Int->(List (List t4))->Option Bool) (Ug:(Int×Int×(List (List t4)))->Option Bool) (s:(Int×Int×(List (List t4)))):Option Bool :=
(fun AO vD (yI:List (List t4)) =>
 aa (decide (vD < (yI.length:Int))) (
 aa (decide (0<=vD)) (
 aa (Nat.blt (vD.toNat) yI.length) (
 Q1 (yI[vD.toNat]?) fun Gn =>
 Q1 (yI[vD.toNat]?) fun Om =>
 aa (Nat.beq Om.length Gn.length) (
 Q1 (zv d Gn AO) fun Ow =>
 Ug (Ow.1,(i64.wrap (vD+1)),(yI.set (vD.toNat) Ow.2))) none) none) none) (
 er AO yI)) s.1 s.2.1 s.2.2
noncomputable def wJ (d:Nat) (x1:t2) (l2:List t5) (r7 de:t14) (b29:Bool):Option Bool :=
 aa b29 (
 some false) (
 Q1 (Ou d de.1.1.2.1 1) fun uw =>
 Q1 (g18 d de.1.1.2.2.1 uw.1) fun oy =>
 Q1 (g18 d de.1.1.2.2.2.1 oy.1) fun BX =>
 Q1 (g18 d de.1.1.2.2.2.2.1 BX.1) fun lp =>
 Q1 (g18 d de.1.1.2.2.2.2.2.1 lp.1) fun BY =>
 Q1 (K9 d de.1.1.2.2.2.2.2.2.1 BY.1) fun BZ =>
 Q1 (g18 d de.1.1.2.2.2.2.2.2.2.1 BZ.1) fun B3 =>
 Q1 (g18 d de.1.2.1.1 B3.1) fun vB =>
 Q1 (g18 d de.1.2.1.2 vB.1) fun B4 =>
 Q8 (qp d (iZ d x1 l2 r7 de uw oy BX lp BY BZ B3 vB B4)) Qd (B4.1,0,de.1.2.2.1))
noncomputable def iY (d:Nat) (x1:t2) (l2:List t5) (r7:t14) (r9:List t5) (de:t14) (Ox:Int) (xO:List (List t4)):Option Bool :=
 Q1 (K9 (d+2) r9 Ox) fun T1 =>
 aa (decide (T1.1 < 0)) (
 wJ d x1 l2 r7 de true) (
 Q1 (g13 (d+2) de.1 r7.1) fun KP =>
 aa (!KP) (
 wJ d x1 l2 r7 de true) (
 Q1 (g14 (d+2) de.2.1 r7.2.1) fun uw =>
 aa (!uw) (
 wJ d x1 l2 r7 de true) (
 wJ d x1 l2 r7 de (!(de.2.2==r7.2.2)))))
noncomputable def nF (d:Nat) (er:Int->(List (List t4))->Option Bool) (Uh:(Int×Int×(List (List t4)))->Option Bool) (s:(Int×Int×(List (List t4)))):Option Bool :=
(fun Ox dL (IG:List (List t4)) =>
 aa (decide (dL < (IG.length:Int))) (
 aa (decide (0<=dL)) (
 aa (Nat.blt (dL.toNat) IG.length) (
 Q1 (IG[dL.toNat]?) fun lg =>
 Q1 (IG[dL.toNat]?) fun S5 =>
 aa (Nat.beq S5.length lg.length) (
 Q1 (zv d lg Ox) fun oy =>
 Uh (oy.1,(i64.wrap (dL+1)),(IG.set (dL.toNat) oy.2))) none) none) none) (
 er Ox IG)) s.1 s.2.1 s.2.2
noncomputable def BD (d:Nat) (x1:t2) (l2:List t5) (r7:t14) (r8:t2) (r9:List t5) (de:t14) (AL:Bool):Option Bool :=
 aa AL (
 some false) (
 Q1 (g10 (d+2) x1) fun j6 =>
 Q1 (g13 (d+2) r8 j6) fun tK =>
 aa (!tK) (
 some false) (
 Q1 (Dr (d+2) l2) fun jA =>
 Q1 (Kp (d+2) r9 jA) fun vu =>
 aa (!vu) (
 some false) (
 Q1 (Ou d r8.1.2.1 1) fun oY =>
 Q1 (g18 d r8.1.2.2.1 oY.1) fun Fx =>
 Q1 (g18 d r8.1.2.2.2.1 Fx.1) fun BL =>
 Q1 (g18 d r8.1.2.2.2.2.1 BL.1) fun vw =>
 Q1 (g18 d r8.1.2.2.2.2.2.1 vw.1) fun BJ =>
 Q1 (K9 d r8.1.2.2.2.2.2.2.1 BJ.1) fun Uc =>
 Q1 (g18 d r8.1.2.2.2.2.2.2.2.1 Uc.1) fun ox =>
 Q1 (g18 d r8.2.1.1 ox.1) fun vC =>
 Q1 (g18 d r8.2.1.2 vC.1) fun Kh =>
 Q8 (nF d (iY d x1 l2 r7 r9 de)) Qd (Kh.1,0,r8.2.2.1))))
theorem e6 (d:Nat) (x1:t2) (l2:List t5):g6 (d+3) x1 l2 =
 Q1 (g7 (d+2) x1 1048576) fun r3 =>
 aa (decide (r3 < 0)) (
 some true) (
 Q1 (Od (d+2) l2 r3) fun r4 =>
 aa (decide (r4 < 0)) (
 some true) (
 Q1 (g10 (d+2) x1) fun r5 =>
 Q1 (Dr (d+2) l2) fun r6 =>
 Q1 (Oc (d+2) r5 r6) fun r7 =>
 Q1 (g10 (d+2) x1) fun r8 =>
 Q1 (Dr (d+2) l2) fun r9 =>
 Q1 (Kl (d+2) r8 r9) fun de =>
 Q1 (g13 (d+2) de.1 r7.1) fun gU =>
 aa (!gU) (
 BD d x1 l2 r7 r8 r9 de true) (
 Q1 (g14 (d+2) de.2.1 r7.2.1) fun j6 =>
 aa (!j6) (
 BD d x1 l2 r7 r8 r9 de true) (
 BD d x1 l2 r7 r8 r9 de (!(de.2.2==r7.2.2)))))):=by kernel_rfl
end Go.Proofs.YtcoimfbmgjhcjaaGreatDoor
