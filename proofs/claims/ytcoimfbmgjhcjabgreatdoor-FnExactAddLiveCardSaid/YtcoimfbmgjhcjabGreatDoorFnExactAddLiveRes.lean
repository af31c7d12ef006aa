/-
  The residual forms of the program's functions under the interpreter by value, printed by program (wip/pv/gen2.py); each equation is checked by the kernel.
  Conditions: none.
-/
import Derived.Test.YtcoimfbmgjhcjabGreatDoorFnExactAddLiveResA
import Derived.KernelRfl
set_option linter.all false
set_option maxRecDepth 1000000
namespace Go.Proofs.YtcoimfbmgjhcjabGreatDoor
open Go.Ev Go.Pv
open IntKind (i64 u64)
theorem e49 (d:Nat) (l1:List t1) (n2:Int):S_ (d+1) l1 n2 =
 aa (decide (((i64.wrap (n2 - (l1.length:Int))):Int) < 0)) (
 some (-1)) (
 some (i64.wrap (n2 - (l1.length:Int)))):=by kernel_rfl
theorem e50 (d:Nat) (l1:List Int) (n2:Int):Cm (d+1) l1 n2 =
 aa (decide (((i64.wrap (n2 - (l1.length:Int))):Int) < 0)) (
 some (-1)) (
 some (i64.wrap (n2 - (l1.length:Int)))):=by kernel_rfl
theorem e51 (d:Nat) (l1:List t4) (n2:Int):Ta (d+1) l1 n2 =
 aa (decide (((i64.wrap (n2 - (l1.length:Int))):Int) < 0)) (
 some (-1)) (
 some (i64.wrap (n2 - (l1.length:Int)))):=by kernel_rfl
theorem e21 (d:Nat) (x1:t0) (n2:Int):g21 (d+1) x1 n2 =
 aa (decide (((i64.wrap (n2 - (x1.1.size:Int))):Int) < 0)) (
 some (-1)) (
 Q1 (S_ d x1.2.1 (i64.wrap (n2 - (x1.1.size:Int)))) fun r3 =>
 aa (decide (r3 < 0)) (
 some (-1)) (
 Q1 (Cm d x1.2.2.1 r3) fun r4 =>
 aa (decide (r4 < 0)) (
 some (-1)) (
 Q1 (Cm d x1.2.2.2.1 r4) fun r5 =>
 aa (decide (r5 < 0)) (
 some (-1)) (
 Q1 (Cm d x1.2.2.2.2.1 r5) fun r6 =>
 aa (decide (r6 < 0)) (
 some (-1)) (
 Q1 (Cm d x1.2.2.2.2.2.1 r6) fun r7 =>
 aa (decide (r7 < 0)) (
 some (-1)) (
 Q1 (Ta d x1.2.2.2.2.2.2.1 r7) fun r8 =>
 aa (decide (r8 < 0)) (
 some (-1)) (
 Q1 (Cm d x1.2.2.2.2.2.2.2.1 r8) fun r9 =>
 aa (decide (r9 < 0)) (
 some (-1)) (
 some r9)))))))):=by kernel_rfl
theorem e22 (d:Nat) (x1:t7) (n2:Int):g22 (d+1) x1 n2 =
 Q1 (Cm d x1.1 n2) fun r3 =>
 aa (decide (r3 < 0)) (
 some (-1)) (
 Q1 (Cm d x1.2 r3) fun r4 =>
 aa (decide (r4 < 0)) (
 some (-1)) (
 some r4)):=by kernel_rfl
theorem e52 (d:Nat) (l1:List t5) (n2:Int):g52 (d+1) l1 n2 =
 aa (decide (((i64.wrap (n2 - (l1.length:Int))):Int) < 0)) (
 some (-1)) (
 some (i64.wrap (n2 - (l1.length:Int)))):=by kernel_rfl
noncomputable def Lg (d:Nat) (n4 n5:Int):Option Int :=
 some n4
noncomputable def xB (d:Nat) (l1:List (List t5)) (xC:Int->Int->Option Int) (bM:(Int×Int×Int)->Option Int) (s:(Int×Int×Int)):Option Int :=
(fun n4 n5 n6 =>
 aa (decide (n6 < (l1.length:Int))) (
 aa (decide (0<=n6)) (
 Q1 (l1[n6.toNat]?) fun l7 =>
 Q1 (g52 d l7 n4) fun r8 =>
 aa (decide (r8 < 0)) (
 some (-1)) (
 bM (r8,n5,(i64.wrap (n6+1))))) none) (
 xC n4 n5)) s.1 s.2.1 s.2.2
theorem e23 (d:Nat) (l1:List (List t5)) (n2:Int):g23 (d+1) l1 n2 =
 aa (decide (((i64.wrap (n2 - (l1.length:Int))):Int) < 0)) (
 some (-1)) (
 Q8 (xB d l1 (Lg d)) Qc ((i64.wrap (n2 - (l1.length:Int))),0,0)):=by kernel_rfl
theorem e6 (d:Nat) (x1:t2) (n2:Int):g6 (d+1) x1 n2 =
 Q1 (g21 d x1.1 n2) fun r3 =>
 aa (decide (r3 < 0)) (
 some (-1)) (
 Q1 (g22 d x1.2.1 r3) fun r4 =>
 aa (decide (r4 < 0)) (
 some (-1)) (
 Q1 (g23 d x1.2.2.1 r4) fun r5 =>
 aa (decide (r5 < 0)) (
 some (-1)) (
 some r5))):=by kernel_rfl
theorem e19 (d:Nat) (x1:t1):g19 (d+1) x1 =
 some x1:=by kernel_rfl
noncomputable def D7 (d:Nat) (l3:List t1):Option (List t1) :=
 some l3
noncomputable def D8 (d:Nat) (l1:List t1) (xD:(List t1)->Option (List t1)) (bW:t13->Option (List t1)) (s:t13):Option (List t1) :=
(fun n3 (l4:List t1) =>
 aa (decide (n3 < (l1.length:Int))) (
 aa (decide (0<=n3)) (
 Q1 (l1[n3.toNat]?) fun x5 =>
 Q1 (g19 d x5) fun r6 =>
 aa (decide (0<=n3)) (
 aa (Nat.blt (n3.toNat) l4.length) (
 Q1 (l4[n3.toNat]?) fun x7 =>
 bW ((i64.wrap (n3+1)),(l4.set (n3.toNat) r6))) none) none) none) (
 xD l4)) s.1 s.2
theorem e66 (d:Nat) (l1:List t1):Tb (d+1) l1 =
 aa (decide (0<=(l1.length:Int))) (
 aa (decide (0<=(l1.length:Int))) (
 aa (Nat.ble ((l1.length:Int).toNat) ((l1.length:Int).toNat)&&Nat.ble (((l1.length:Int).toNat)*64) Q7) (
 Q8 (D8 d l1 (D7 d)) Qc (0,(List.replicate ((l1.length:Int).toNat) ((0,0,0,0,0,0,0,0):t1)))) none) none) none:=by kernel_rfl
noncomputable def D9 (d:Nat) (l3:List Int):Option (List Int) :=
 some l3
noncomputable def D_ (d:Nat) (l1:List Int) (xE:(List Int)->Option (List Int)) (bW:t11->Option (List Int)) (s:t11):Option (List Int) :=
(fun n3 (l4:List Int) =>
 aa (decide (n3 < (l1.length:Int))) (
 aa (decide (0<=n3)) (
 Q1 (l1[n3.toNat]?) fun n5 =>
 aa (decide (0<=n3)) (
 aa (Nat.blt (n3.toNat) l4.length) (
 Q1 (l4[n3.toNat]?) fun n6 =>
 bW ((i64.wrap (n3+1)),(l4.set (n3.toNat) n5))) none) none) none) (
 xE l4)) s.1 s.2
theorem e67 (d:Nat) (l1:List Int):Cn (d+1) l1 =
 aa (decide (0<=(l1.length:Int))) (
 aa (decide (0<=(l1.length:Int))) (
 aa (Nat.ble ((l1.length:Int).toNat) ((l1.length:Int).toNat)&&Nat.ble (((l1.length:Int).toNat)*8) Q7) (
 Q8 (D_ d l1 (D9 d)) Qc (0,(List.replicate ((l1.length:Int).toNat) (0:Int)))) none) none) none:=by kernel_rfl
theorem Tc (d:Nat) (x1:t4):Lh (d+1) x1 =
 some x1:=by kernel_rfl
noncomputable def Ea (d:Nat) (l3:List t4):Option (List t4) :=
 some l3
noncomputable def Eb (d:Nat) (l1:List t4) (xF:(List t4)->Option (List t4)) (bW:t14->Option (List t4)) (s:t14):Option (List t4) :=
(fun n3 (l4:List t4) =>
 aa (decide (n3 < (l1.length:Int))) (
 aa (decide (0<=n3)) (
 Q1 (l1[n3.toNat]?) fun x5 =>
 Q1 (Lh d x5) fun r6 =>
 aa (decide (0<=n3)) (
 aa (Nat.blt (n3.toNat) l4.length) (
 Q1 (l4[n3.toNat]?) fun x7 =>
 bW ((i64.wrap (n3+1)),(l4.set (n3.toNat) r6))) none) none) none) (
 xF l4)) s.1 s.2
theorem e68 (d:Nat) (l1:List t4):Td (d+1) l1 =
 aa (decide (0<=(l1.length:Int))) (
 aa (decide (0<=(l1.length:Int))) (
 aa (Nat.ble ((l1.length:Int).toNat) ((l1.length:Int).toNat)&&Nat.ble (((l1.length:Int).toNat)*40) Q7) (
 Q8 (Eb d l1 (Ea d)) Qc (0,(List.replicate ((l1.length:Int).toNat) ((0,0,0,0,0):t4)))) none) none) none:=by kernel_rfl
theorem e28 (d:Nat) (x1:t0):Te (d+1) x1 =
 Q1 (Tb d x1.2.1) fun r2 =>
 Q1 (Cn d x1.2.2.1) fun r3 =>
 Q1 (Cn d x1.2.2.2.1) fun r4 =>
 Q1 (Cn d x1.2.2.2.2.1) fun r5 =>
 Q1 (Cn d x1.2.2.2.2.2.1) fun r6 =>
 Q1 (Td d x1.2.2.2.2.2.2.1) fun r7 =>
 Q1 (Cn d x1.2.2.2.2.2.2.2.1) fun r8 =>
 some (x1.1,r2,r3,r4,r5,r6,r7,r8,x1.2.2.2.2.2.2.2.2):=by kernel_rfl
theorem e29 (d:Nat) (x1:t7):Tf (d+1) x1 =
 Q1 (Cn d x1.1) fun r2 =>
 Q1 (Cn d x1.2) fun r3 =>
 some (r2,r3):=by kernel_rfl
theorem Tg (d:Nat) (x1:t5):Li (d+1) x1 =
 some x1:=by kernel_rfl
noncomputable def Ec (d:Nat) (l3:List t5):Option (List t5) :=
 some l3
noncomputable def Ed (d:Nat) (l1:List t5) (xG:(List t5)->Option (List t5)) (bW:(Int×(List t5))->Option (List t5)) (s:(Int×(List t5))):Option (List t5) :=
(fun n3 (l4:List t5) =>
 aa (decide (n3 < (l1.length:Int))) (
 aa (decide (0<=n3)) (
 Q1 (l1[n3.toNat]?) fun x5 =>
 Q1 (Li d x5) fun r6 =>
 aa (decide (0<=n3)) (
 aa (Nat.blt (n3.toNat) l4.length) (
 Q1 (l4[n3.toNat]?) fun x7 =>
 bW ((i64.wrap (n3+1)),(l4.set (n3.toNat) r6))) none) none) none) (
 xG l4)) s.1 s.2
theorem e69 (d:Nat) (l1:List t5):Th (d+1) l1 =
 aa (decide (0<=(l1.length:Int))) (
 aa (decide (0<=(l1.length:Int))) (
 aa (Nat.ble ((l1.length:Int).toNat) ((l1.length:Int).toNat)&&Nat.ble (((l1.length:Int).toNat)*48) Q7) (
 Q8 (Ed d l1 (Ec d)) Qc (0,(List.replicate ((l1.length:Int).toNat) ((0,0,0,0,0,0):t5)))) none) none) none:=by kernel_rfl
noncomputable def Ee (d:Nat) (l3:List (List t5)):Option (List (List t5)) :=
 some l3
noncomputable def Ef (d:Nat) (l1:List (List t5)) (xH:(List (List t5))->Option (List (List t5))) (bW:(Int×(List (List t5)))->Option (List (List t5))) (s:(Int×(List (List t5)))):Option (List (List t5)) :=
(fun n3 (l4:List (List t5)) =>
 aa (decide (n3 < (l1.length:Int))) (
 aa (decide (0<=n3)) (
 Q1 (l1[n3.toNat]?) fun l5 =>
 Q1 (Th d l5) fun r6 =>
 aa (decide (0<=n3)) (
 aa (Nat.blt (n3.toNat) l4.length) (
 Q1 (l4[n3.toNat]?) fun l7 =>
 bW ((i64.wrap (n3+1)),(l4.set (n3.toNat) r6))) none) none) none) (
 xH l4)) s.1 s.2
theorem e30 (d:Nat) (l1:List (List t5)):Ti (d+1) l1 =
 aa (decide (0<=(l1.length:Int))) (
 aa (decide (0<=(l1.length:Int))) (
 aa (Nat.ble ((l1.length:Int).toNat) ((l1.length:Int).toNat)&&Nat.ble (((l1.length:Int).toNat)*24) Q7) (
 Q8 (Ef d l1 (Ee d)) Qc (0,(List.replicate ((l1.length:Int).toNat) ([]:List t5)))) none) none) none:=by kernel_rfl
theorem e8 (d:Nat) (x1:t2):g8 (d+1) x1 =
 Q1 (Te d x1.1) fun r2 =>
 Q1 (Tf d x1.2.1) fun r3 =>
 Q1 (Ti d x1.2.2.1) fun r4 =>
 some (r2,r3,r4,x1.2.2.2):=by kernel_rfl
noncomputable def Eg (d:Nat) (b4:Bool):Option Bool :=
 some true
noncomputable def xI (d:Nat) (l1 l2:List Int) (xJ:Bool->Option Bool) (bM:t9->Option Bool) (s:t9):Option Bool :=
(fun (b4:Bool) n5 =>
 aa (decide (n5 < (l1.length:Int))) (
 aa (decide (0<=n5)) (
 Q1 (l1[n5.toNat]?) fun n6 =>
 aa (decide (0<=n5)) (
 Q1 (l2[n5.toNat]?) fun n7 =>
 aa (n6 != n7) (
 some false) (
 bM (b4,(i64.wrap (n5+1))))) none) none) (
 xJ b4)) s.1 s.2
theorem e11 (d:Nat) (l1 l2:List Int):g11 (d+1) l1 l2 =
 aa ((l1.length:Int) != (l2.length:Int)) (
 some false) (
 Q8 (xI d l1 l2 (Eg d)) Qc (false,0)):=by kernel_rfl
theorem Tj (d:Nat) (x1 x2:t1):Lj (d+1) x1 x2 =
 aa (x1.1 != x2.1) (
 some false) (
 aa (x1.2.1 != x2.2.1) (
 some false) (
 aa (x1.2.2.1 != x2.2.2.1) (
 some false) (
 aa (x1.2.2.2.1 != x2.2.2.2.1) (
 some false) (
 aa (x1.2.2.2.2.1 != x2.2.2.2.2.1) (
 some false) (
 aa (x1.2.2.2.2.2.1 != x2.2.2.2.2.2.1) (
 some false) (
 aa (x1.2.2.2.2.2.2.1 != x2.2.2.2.2.2.2.1) (
 some false) (
 aa (x1.2.2.2.2.2.2.2 != x2.2.2.2.2.2.2.2) (
 some false) (
 some true)))))))):=by kernel_rfl
noncomputable def Eh (d:Nat) (b4:Bool):Option Bool :=
 some true
noncomputable def xK (d:Nat) (l1 l2:List t1) (xL:Bool->Option Bool) (bM:t9->Option Bool) (s:t9):Option Bool :=
(fun (b4:Bool) n5 =>
 aa (decide (n5 < (l1.length:Int))) (
 aa (decide (0<=n5)) (
 Q1 (l1[n5.toNat]?) fun x6 =>
 aa (decide (0<=n5)) (
 Q1 (l2[n5.toNat]?) fun x7 =>
 Q1 (Lj d x6 x7) fun r8 =>
 aa (!r8) (
 some false) (
 bM (b4,(i64.wrap (n5+1))))) none) none) (
 xL b4)) s.1 s.2
theorem e78 (d:Nat) (l1 l2:List t1):Tl (d+1) l1 l2 =
 aa ((l1.length:Int) != (l2.length:Int)) (
 some false) (
 Q8 (xK d l1 l2 (Eh d)) Qc (false,0)):=by kernel_rfl
theorem Tm (d:Nat) (x1 x2:t4):Ll (d+1) x1 x2 =
 aa (x1.1 != x2.1) (
 some false) (
 aa (x1.2.1 != x2.2.1) (
 some false) (
 aa (x1.2.2.1 != x2.2.2.1) (
 some false) (
 aa (x1.2.2.2.1 != x2.2.2.2.1) (
 some false) (
 aa (x1.2.2.2.2 != x2.2.2.2.2) (
 some false) (
 some true))))):=by kernel_rfl
noncomputable def Ei (d:Nat) (b4:Bool):Option Bool :=
 some true
noncomputable def xM (d:Nat) (l1 l2:List t4) (xN:Bool->Option Bool) (bM:t9->Option Bool) (s:t9):Option Bool :=
(fun (b4:Bool) n5 =>
 aa (decide (n5 < (l1.length:Int))) (
 aa (decide (0<=n5)) (
 Q1 (l1[n5.toNat]?) fun x6 =>
 aa (decide (0<=n5)) (
 Q1 (l2[n5.toNat]?) fun x7 =>
 Q1 (Ll d x6 x7) fun r8 =>
 aa (!r8) (
 some false) (
 bM (b4,(i64.wrap (n5+1))))) none) none) (
 xN b4)) s.1 s.2
theorem e79 (d:Nat) (l1 l2:List t4):Tn (d+1) l1 l2 =
 aa ((l1.length:Int) != (l2.length:Int)) (
 some false) (
 Q8 (xM d l1 l2 (Ei d)) Qc (false,0)):=by kernel_rfl
theorem e34 (d:Nat) (x1 x2:t0):To (d+1) x1 x2 =
 aa (!(x1.1.toList==x2.1.toList)) (
 some false) (
 Q1 (Tl d x1.2.1 x2.2.1) fun r3 =>
 aa (!r3) (
 some false) (
 Q1 (g11 d x1.2.2.1 x2.2.2.1) fun r4 =>
 aa (!r4) (
 some false) (
 Q1 (g11 d x1.2.2.2.1 x2.2.2.2.1) fun r5 =>
 aa (!r5) (
 some false) (
 Q1 (g11 d x1.2.2.2.2.1 x2.2.2.2.2.1) fun r6 =>
 aa (!r6) (
 some false) (
 Q1 (g11 d x1.2.2.2.2.2.1 x2.2.2.2.2.2.1) fun r7 =>
 aa (!r7) (
 some false) (
 Q1 (Tn d x1.2.2.2.2.2.2.1 x2.2.2.2.2.2.2.1) fun r8 =>
 aa (!r8) (
 some false) (
 Q1 (g11 d x1.2.2.2.2.2.2.2.1 x2.2.2.2.2.2.2.2.1) fun r9 =>
 aa (!r9) (
 some false) (
 aa (x1.2.2.2.2.2.2.2.2 != x2.2.2.2.2.2.2.2.2) (
 some false) (
 some true))))))))):=by kernel_rfl
theorem e35 (d:Nat) (x1 x2:t7):Tp (d+1) x1 x2 =
 Q1 (g11 d x1.1 x2.1) fun r3 =>
 aa (!r3) (
 some false) (
 Q1 (g11 d x1.2 x2.2) fun r4 =>
 aa (!r4) (
 some false) (
 some true)):=by kernel_rfl
theorem Tq (d:Nat) (x1 x2:t5):Lm (d+1) x1 x2 =
 aa (x1.1 != x2.1) (
 some false) (
 aa (x1.2.1 != x2.2.1) (
 some false) (
 aa (x1.2.2.1 != x2.2.2.1) (
 some false) (
 aa (x1.2.2.2.1 != x2.2.2.2.1) (
 some false) (
 aa (x1.2.2.2.2.1 != x2.2.2.2.2.1) (
 some false) (
 aa (x1.2.2.2.2.2 != x2.2.2.2.2.2) (
 some false) (
 some true)))))):=by kernel_rfl
noncomputable def Ej (d:Nat) (b4:Bool):Option Bool :=
 some true
noncomputable def xO (d:Nat) (l1 l2:List t5) (xP:Bool->Option Bool) (bM:t9->Option Bool) (s:t9):Option Bool :=
(fun (b4:Bool) n5 =>
 aa (decide (n5 < (l1.length:Int))) (
 aa (decide (0<=n5)) (
 Q1 (l1[n5.toNat]?) fun x6 =>
 aa (decide (0<=n5)) (
 Q1 (l2[n5.toNat]?) fun x7 =>
 Q1 (Lm d x6 x7) fun r8 =>
 aa (!r8) (
 some false) (
 bM (b4,(i64.wrap (n5+1))))) none) none) (
 xP b4)) s.1 s.2
theorem e80 (d:Nat) (l1 l2:List t5):Tt (d+1) l1 l2 =
 aa ((l1.length:Int) != (l2.length:Int)) (
 some false) (
 Q8 (xO d l1 l2 (Ej d)) Qc (false,0)):=by kernel_rfl
noncomputable def El (d:Nat) (b4:Bool):Option Bool :=
 some true
noncomputable def xQ (d:Nat) (l1 l2:List (List t5)) (xR:Bool->Option Bool) (bM:t9->Option Bool) (s:t9):Option Bool :=
(fun (b4:Bool) n5 =>
 aa (decide (n5 < (l1.length:Int))) (
 aa (decide (0<=n5)) (
 Q1 (l1[n5.toNat]?) fun l6 =>
 aa (decide (0<=n5)) (
 Q1 (l2[n5.toNat]?) fun l7 =>
 Q1 (Tt d l6 l7) fun r8 =>
 aa (!r8) (
 some false) (
 bM (b4,(i64.wrap (n5+1))))) none) none) (
 xR b4)) s.1 s.2
theorem e36 (d:Nat) (l1 l2:List (List t5)):Tu (d+1) l1 l2 =
 aa ((l1.length:Int) != (l2.length:Int)) (
 some false) (
 Q8 (xQ d l1 l2 (El d)) Qc (false,0)):=by kernel_rfl
theorem e10 (d:Nat) (x1 x2:t2):g10 (d+1) x1 x2 =
 Q1 (To d x1.1 x2.1) fun r3 =>
 aa (!r3) (
 some false) (
 Q1 (Tp d x1.2.1 x2.2.1) fun r4 =>
 aa (!r4) (
 some false) (
 Q1 (Tu d x1.2.2.1 x2.2.2.1) fun r5 =>
 aa (!r5) (
 some false) (
 aa (x1.2.2.2.1 != x2.2.2.2.1) (
 some false) (
 aa (x1.2.2.2.2 != x2.2.2.2.2) (
 some false) (
 some true))))):=by kernel_rfl
noncomputable def xS (d:Nat) (n4:Int) (l5:List Int):Option t11 :=
 some (n4,l5)
noncomputable def rW (d:Nat) (xT:Int->(List Int)->Option t11) (bM:(Int×Int×(List Int))->Option t11) (s:(Int×Int×(List Int))):Option t11 :=
(fun n4 n5 (l6:List Int) =>
 aa (decide (n5 < (l6.length:Int))) (
 aa (decide (0<=n5)) (
 aa (Nat.blt (n5.toNat) l6.length) (
 Q1 (l6[n5.toNat]?) fun n7 =>
 bM ((i64.wrap (n4+1)),(i64.wrap (n5+1)),(l6.set (n5.toNat) n4))) none) none) (
 xT n4 l6)) s.1 s.2.1 s.2.2
theorem e13 (d:Nat) (l1:List Int) (n2:Int):g13 (d+1) l1 n2 =
 Q8 (rW d (xS d)) Qc (n2,0,l1):=by kernel_rfl
noncomputable def xU (d:Nat) (n4 n5:Int):Option Int :=
 some n4
noncomputable def rX (d:Nat) (l1:List Int) (xV:Int->Int->Option Int) (bM:(Int×Int×Int)->Option Int) (s:(Int×Int×Int)):Option Int :=
(fun n4 n5 n6 =>
 aa (decide (n6 < (l1.length:Int))) (
 aa (decide (0<=n6)) (
 Q1 (l1[n6.toNat]?) fun n7 =>
 aa (n7 != n4) (
 some (-1)) (
 bM ((i64.wrap (n4+1)),n5,(i64.wrap (n6+1))))) none) (
 xV n4 n5)) s.1 s.2.1 s.2.2
theorem e15 (d:Nat) (l1:List Int) (n2:Int):g15 (d+1) l1 n2 =
 Q8 (rX d l1 (xU d)) Qc (n2,0,0):=by kernel_rfl
noncomputable def xW (d:Nat) (n4 n5:Int):Option Int :=
 some n4
noncomputable def rY (d:Nat) (l1:List t1) (xX:Int->Int->Option Int) (bM:(Int×Int×Int)->Option Int) (s:(Int×Int×Int)):Option Int :=
(fun n4 n5 n6 =>
 aa (decide (n6 < (l1.length:Int))) (
 aa (decide (0<=n6)) (
 Q1 (l1[n6.toNat]?) fun x7 =>
 aa (x7.1 != n4) (
 some (-1)) (
 aa (decide (0<=n6)) (
 Q1 (l1[n6.toNat]?) fun x8 =>
 aa (x8.2.1 != (i64.wrap (n4+1))) (
 some (-1)) (
 aa (decide (0<=n6)) (
 Q1 (l1[n6.toNat]?) fun x9 =>
 aa (x9.2.2.1 != (i64.wrap ((i64.wrap (n4+1))+1))) (
 some (-1)) (
 aa (decide (0<=n6)) (
 Q1 (l1[n6.toNat]?) fun aR =>
 aa (aR.2.2.2.1 != (i64.wrap ((i64.wrap ((i64.wrap (n4+1))+1))+1))) (
 some (-1)) (
 aa (decide (0<=n6)) (
 Q1 (l1[n6.toNat]?) fun bN =>
 aa (bN.2.2.2.2.1 != (i64.wrap ((i64.wrap ((i64.wrap ((i64.wrap (n4+1))+1))+1))+1))) (
 some (-1)) (
 aa (decide (0<=n6)) (
 Q1 (l1[n6.toNat]?) fun dy =>
 aa (dy.2.2.2.2.2.1 != (i64.wrap ((i64.wrap ((i64.wrap ((i64.wrap ((i64.wrap (n4+1))+1))+1))+1))+1))) (
 some (-1)) (
 aa (decide (0<=n6)) (
 Q1 (l1[n6.toNat]?) fun fP =>
 aa (fP.2.2.2.2.2.2.1 != (i64.wrap ((i64.wrap ((i64.wrap ((i64.wrap ((i64.wrap ((i64.wrap (n4+1))+1))+1))+1))+1))+1))) (
 some (-1)) (
 aa (decide (0<=n6)) (
 Q1 (l1[n6.toNat]?) fun kH =>
 aa (kH.2.2.2.2.2.2.2 != (i64.wrap ((i64.wrap ((i64.wrap ((i64.wrap ((i64.wrap ((i64.wrap ((i64.wrap (n4+1))+1))+1))+1))+1))+1))+1))) (
 some (-1)) (
 bM ((i64.wrap ((i64.wrap ((i64.wrap ((i64.wrap ((i64.wrap ((i64.wrap ((i64.wrap ((i64.wrap (n4+1))+1))+1))+1))+1))+1))+1))+1)),n5,(i64.wrap (n6+1))))) none)) none)) none)) none)) none)) none)) none)) none) (
 xX n4 n5)) s.1 s.2.1 s.2.2
theorem e84 (d:Nat) (l1:List t1) (n2:Int):Tv (d+1) l1 n2 =
 Q8 (rY d l1 (xW d)) Qc (n2,0,0):=by kernel_rfl
noncomputable def xY (d:Nat) (n4 n5:Int):Option Int :=
 some n4
noncomputable def rZ (d:Nat) (l1:List t4) (xZ:Int->Int->Option Int) (bM:(Int×Int×Int)->Option Int) (s:(Int×Int×Int)):Option Int :=
(fun n4 n5 n6 =>
 aa (decide (n6 < (l1.length:Int))) (
 aa (decide (0<=n6)) (
 Q1 (l1[n6.toNat]?) fun x7 =>
 aa (x7.1 != n4) (
 some (-1)) (
 aa (decide (0<=n6)) (
 Q1 (l1[n6.toNat]?) fun x8 =>
 aa (x8.2.1 != (i64.wrap (n4+1))) (
 some (-1)) (
 aa (decide (0<=n6)) (
 Q1 (l1[n6.toNat]?) fun x9 =>
 aa (x9.2.2.1 != (i64.wrap ((i64.wrap (n4+1))+1))) (
 some (-1)) (
 aa (decide (0<=n6)) (
 Q1 (l1[n6.toNat]?) fun aR =>
 aa (aR.2.2.2.1 != (i64.wrap ((i64.wrap ((i64.wrap (n4+1))+1))+1))) (
 some (-1)) (
 aa (decide (0<=n6)) (
 Q1 (l1[n6.toNat]?) fun bN =>
 aa (bN.2.2.2.2 != (i64.wrap ((i64.wrap ((i64.wrap ((i64.wrap (n4+1))+1))+1))+1))) (
 some (-1)) (
 bM ((i64.wrap ((i64.wrap ((i64.wrap ((i64.wrap ((i64.wrap (n4+1))+1))+1))+1))+1)),n5,(i64.wrap (n6+1))))) none)) none)) none)) none)) none) (
 xZ n4 n5)) s.1 s.2.1 s.2.2
theorem e85 (d:Nat) (l1:List t4) (n2:Int):Tw (d+1) l1 n2 =
 Q8 (rZ d l1 (xY d)) Qc (n2,0,0):=by kernel_rfl
theorem e40 (d:Nat) (x1:t0) (n2:Int):Tx (d+1) x1 n2 =
 Q1 (Tv d x1.2.1 n2) fun r3 =>
 aa (decide (r3 < 0)) (
 some (-1)) (
 Q1 (g15 d x1.2.2.1 r3) fun r4 =>
 aa (decide (r4 < 0)) (
 some (-1)) (
 Q1 (g15 d x1.2.2.2.1 r4) fun r5 =>
 aa (decide (r5 < 0)) (
 some (-1)) (
 Q1 (g15 d x1.2.2.2.2.1 r5) fun r6 =>
 aa (decide (r6 < 0)) (
 some (-1)) (
 Q1 (g15 d x1.2.2.2.2.2.1 r6) fun r7 =>
 aa (decide (r7 < 0)) (
 some (-1)) (
 Q1 (Tw d x1.2.2.2.2.2.2.1 r7) fun r8 =>
 aa (decide (r8 < 0)) (
 some (-1)) (
 Q1 (g15 d x1.2.2.2.2.2.2.2.1 r8) fun r9 =>
 aa (decide (r9 < 0)) (
 some (-1)) (
 some r9))))))):=by kernel_rfl
theorem e41 (d:Nat) (x1:t7) (n2:Int):Tz (d+1) x1 n2 =
 Q1 (g15 d x1.1 n2) fun r3 =>
 aa (decide (r3 < 0)) (
 some (-1)) (
 Q1 (g15 d x1.2 r3) fun r4 =>
 aa (decide (r4 < 0)) (
 some (-1)) (
 some r4)):=by kernel_rfl
noncomputable def x_ (d:Nat) (n4 n5:Int):Option Int :=
 some n4
noncomputable def r_ (d:Nat) (l1:List t5) (ya:Int->Int->Option Int) (bM:(Int×Int×Int)->Option Int) (s:(Int×Int×Int)):Option Int :=
(fun n4 n5 n6 =>
 aa (decide (n6 < (l1.length:Int))) (
 aa (decide (0<=n6)) (
 Q1 (l1[n6.toNat]?) fun x7 =>
 aa (x7.1 != n4) (
 some (-1)) (
 aa (decide (0<=n6)) (
 Q1 (l1[n6.toNat]?) fun x8 =>
 aa (x8.2.1 != (i64.wrap (n4+1))) (
 some (-1)) (
 aa (decide (0<=n6)) (
 Q1 (l1[n6.toNat]?) fun x9 =>
 aa (x9.2.2.1 != (i64.wrap ((i64.wrap (n4+1))+1))) (
 some (-1)) (
 aa (decide (0<=n6)) (
 Q1 (l1[n6.toNat]?) fun aR =>
 aa (aR.2.2.2.1 != (i64.wrap ((i64.wrap ((i64.wrap (n4+1))+1))+1))) (
 some (-1)) (
 aa (decide (0<=n6)) (
 Q1 (l1[n6.toNat]?) fun bN =>
 aa (bN.2.2.2.2.1 != (i64.wrap ((i64.wrap ((i64.wrap ((i64.wrap (n4+1))+1))+1))+1))) (
 some (-1)) (
 aa (decide (0<=n6)) (
 Q1 (l1[n6.toNat]?) fun dy =>
 aa (dy.2.2.2.2.2 != (i64.wrap ((i64.wrap ((i64.wrap ((i64.wrap ((i64.wrap (n4+1))+1))+1))+1))+1))) (
 some (-1)) (
 bM ((i64.wrap ((i64.wrap ((i64.wrap ((i64.wrap ((i64.wrap ((i64.wrap (n4+1))+1))+1))+1))+1))+1)),n5,(i64.wrap (n6+1))))) none)) none)) none)) none)) none)) none) (
 ya n4 n5)) s.1 s.2.1 s.2.2
theorem e86 (d:Nat) (l1:List t5) (n2:Int):g86 (d+1) l1 n2 =
 Q8 (r_ d l1 (x_ d)) Qc (n2,0,0):=by kernel_rfl
noncomputable def yb (d:Nat) (n4 n5:Int):Option Int :=
 some n4
noncomputable def sg (d:Nat) (l1:List (List t5)) (yd:Int->Int->Option Int) (bM:(Int×Int×Int)->Option Int) (s:(Int×Int×Int)):Option Int :=
(fun n4 n5 n6 =>
 aa (decide (n6 < (l1.length:Int))) (
 aa (decide (0<=n6)) (
 Q1 (l1[n6.toNat]?) fun l7 =>
 Q1 (g86 d l7 n4) fun r8 =>
 aa (decide (r8 < 0)) (
 some (-1)) (
 bM (r8,n5,(i64.wrap (n6+1))))) none) (
 yd n4 n5)) s.1 s.2.1 s.2.2
theorem e42 (d:Nat) (l1:List (List t5)) (n2:Int):g42 (d+1) l1 n2 =
 Q8 (sg d l1 (yb d)) Qc (n2,0,0):=by kernel_rfl
theorem e14 (d:Nat) (x1:t2) (n2:Int):g14 (d+1) x1 n2 =
 Q1 (Tx d x1.1 n2) fun r3 =>
 aa (decide (r3 < 0)) (
 some (-1)) (
 Q1 (Tz d x1.2.1 r3) fun r4 =>
 aa (decide (r4 < 0)) (
 some (-1)) (
 Q1 (g42 d x1.2.2.1 r4) fun r5 =>
 aa (decide (r5 < 0)) (
 some (-1)) (
 some r5))):=by kernel_rfl
theorem e55 (d:Nat) (n1 n2 n3:Int):jg (d+1) n1 n2 n3 =
 aa (decide (n1>=n2)) (
 some (decide (n1<=n3))) (
 some false):=by kernel_rfl
noncomputable def sj (d:Nat) (l1:List t1) (x2:t1) (n4:Int):Option (List t1) :=
 aa (decide (0<=n4)) (
 aa (Nat.ble (n4.toNat) l1.length) (
 aa (Nat.ble ((([]:List t1).length+(l1.take (n4.toNat)).length)*64) Q7) (
 aa (Nat.ble (((([]:List t1)++(l1.take (n4.toNat))).length+[x2].length)*64) Q7) (
 aa (decide (0<=n4)) (
 aa (Nat.ble (n4.toNat) l1.length) (
 aa (Nat.ble ((((([]:List t1)++(l1.take (n4.toNat)))++[x2]).length+(l1.drop (n4.toNat)).length)*64) Q7) (
 some (((([]:List t1)++(l1.take (n4.toNat)))++[x2])++(l1.drop (n4.toNat)))) none) none) none) none) none) none) none
noncomputable def sk (d:Nat) (l1:List t1) (x2:t1) (nH bM:Int->Option (List t1)) (s:Int):Option (List t1) :=
(fun n4 =>
 aa (decide (n4 < (l1.length:Int))) (
 aa (decide (0<=n4)) (
 Q1 (l1[n4.toNat]?) fun x5 =>
 aa (decide (x5.1 < x2.1)) (
 bM (i64.wrap (n4+1))) (
 nH n4)) none) (
 nH n4)) s
theorem e64 (d:Nat) (l1:List t1) (x2:t1):Ji (d+1) l1 x2 =
 Q8 (sk d l1 x2 (sj d l1 x2)) Qc 0:=by kernel_rfl
noncomputable def ye (d:Nat) (x1:t0) (s3:ByteArray) (n4:Int) (l5:List t1) (l6:List t4):Option t3 :=
 Q1 (jg d x1.2.2.2.2.2.2.2.2 0 (i64.wrap ((x1.2.1.length:Int) - 1))) fun r7 =>
 aa r7 (
 aa (decide (0<=x1.2.2.2.2.2.2.2.2)) (
 Q1 (x1.2.1[x1.2.2.2.2.2.2.2.2.toNat]?) fun x8 =>
 some (s3,l5,l6,x8.1)) none) (
 some (s3,l5,l6,n4))
noncomputable def yg (d:Nat) (x1:t0) (yh:ByteArray->Int->(List t1)->(List t4)->Option t3) (bW:(Int×t3)->Option t3) (s:(Int×t3)):Option t3 :=
(fun n3 (x4:t3) =>
 aa (decide (n3 < (x1.2.1.length:Int))) (
 aa (decide (0<=n3)) (
 Q1 (x1.2.1[n3.toNat]?) fun x5 =>
 Q1 (Ji d x4.2.1 x5) fun r6 =>
 bW ((i64.wrap (n3+1)),(x4.1,r6,x4.2.2))) none) (
 yh x4.1 x4.2.2.2 x4.2.1 x4.2.2.1)) s.1 s.2
theorem e26 (d:Nat) (x1:t0):O1 (d+1) x1 =
 aa (Nat.ble ((([]:List t4).length+x1.2.2.2.2.2.2.1.length)*40) Q7) (
 Q8 (yg d x1 (ye d x1)) Qc (0,(x1.1,[],(([]:List t4)++x1.2.2.2.2.2.2.1),0))) none:=by kernel_rfl
noncomputable def Ln (d:Nat) (n4:Int):Option Int :=
 some (-1)
noncomputable def yj (d:Nat) (x1:t3) (n2:Int) (ym:Int->Option Int) (bM:t10->Option Int) (s:t10):Option Int :=
(fun n4 n5 =>
 aa (decide (n5 < (x1.2.1.length:Int))) (
 aa (decide (0<=n5)) (
 Q1 (x1.2.1[n5.toNat]?) fun x6 =>
 aa (x6.1==n2) (
 some n5) (
 bM (n4,(i64.wrap (n5+1))))) none) (
 ym n4)) s.1 s.2
theorem e62 (d:Nat) (x1:t3) (n2:Int):Em (d+1) x1 n2 =
 Q8 (yj d x1 n2 (Ln d)) Qc (0,0):=by kernel_rfl
noncomputable def FV (d:Nat) (l4:List Int):Option (List Int) :=
 some l4
noncomputable def pg (d:Nat) (x1:t3) (n2:Int) (tJ:(List Int)->Option (List Int)) (bM:t16->Option (List Int)) (s:t16):Option (List Int) :=
(fun (l4:List Int) n5 =>
 aa (decide (n5 < (x1.2.1.length:Int))) (
 aa (decide (0<=n5)) (
 Q1 (x1.2.1[n5.toNat]?) fun x6 =>
 aa (decide (0<=n2)) (
 Q1 (x1.2.1[n2.toNat]?) fun x7 =>
 aa (x6.2.1==x7.1) (
 aa (Nat.ble ((l4.length+[n5].length)*8) Q7) (
 bM ((l4++[n5]),(i64.wrap (n5+1)))) none) (
 bM (l4,(i64.wrap (n5+1))))) none) none) (
 tJ l4)) s.1 s.2
theorem TA (d:Nat) (x1:t3) (n2:Int):lz (d+1) x1 n2 =
 Q8 (pg d x1 n2 (FV d)) Qc ([],0):=by kernel_rfl
theorem e87 (d:Nat) (x1:t3) (n2:Int):Jj (d+1) x1 n2 =
 Q1 (lz d x1 n2) fun r3 =>
 some ((r3.length:Int)==0):=by kernel_rfl
theorem e60 (d:Nat) (x1:t3) (n2:Int):Lo (d+1) x1 n2 =
 Q1 (Em d x1 n2) fun r3 =>
 aa (decide (r3>=0)) (
 Q1 (Jj d x1 r3) fun r4 =>
 some r4) (
 some false):=by kernel_rfl
noncomputable def FW (d:Nat) (b4:Bool):Option Bool :=
 some false
noncomputable def pn (d:Nat) (l1:List ByteArray) (s2:ByteArray) (tK:Bool->Option Bool) (bM:t9->Option Bool) (s:t9):Option Bool :=
(fun (b4:Bool) n5 =>
 aa (decide (n5 < (l1.length:Int))) (
 aa (decide (0<=n5)) (
 Q1 (l1[n5.toNat]?) fun s6 =>
 aa (s6.toList==s2.toList) (
 some true) (
 bM (b4,(i64.wrap (n5+1))))) none) (
 tK b4)) s.1 s.2
theorem TB (d:Nat) (l1:List ByteArray) (s2:ByteArray):Lp (d+1) l1 s2 =
 Q8 (pn d l1 s2 (FW d)) Qc (false,0):=by kernel_rfl
theorem TC (d:Nat):Lq (d+1) =
 some [(⟨#[113,100,105,115,99]⟩:ByteArray),(⟨#[100,101,102,97,117,108,116]⟩:ByteArray),(⟨#[99,108,97,115,115]⟩:ByteArray),(⟨#[114,97,116,101]⟩:ByteArray),(⟨#[99,101,105,108]⟩:ByteArray),(⟨#[98,117,114,115,116]⟩:ByteArray),(⟨#[99,98,117,114,115,116]⟩:ByteArray),(⟨#[112,114,105,111]⟩:ByteArray),(⟨#[108,105,109,105,116]⟩:ByteArray),(⟨#[102,105,108,116,101,114]⟩:ByteArray),(⟨#[115,111,117,114,99,101]⟩:ByteArray),(⟨#[100,101,115,116]⟩:ByteArray),(⟨#[112,111,114,116]⟩:ByteArray),(⟨#[109,97,114,107]⟩:ByteArray)]:=by kernel_rfl
theorem TD (d:Nat) (s1:ByteArray):FX (d+1) s1 =
 Q1 (Lq d) fun r2 =>
 Q1 (Lp d r2 s1) fun r3 =>
 some r3:=by kernel_rfl
noncomputable def yp (d:Nat) (s1:ByteArray) (b3:Bool):Option Bool :=
 Q1 (jg d (s1.size:Int) 1 8) fun r4 =>
 aa r4 (
 Q1 (FX d s1) fun r5 =>
 some (!r5)) (
 some false)
noncomputable def yq (d:Nat) (s1:ByteArray) (yt:Bool->Option Bool) (bW:t9->Option Bool) (s:t9):Option Bool :=
(fun (b3:Bool) n4 =>
 aa (decide (n4 < (s1.size:Int))) (
 aa (decide (0<=n4)) (
 Q1 (s1.data.toList[n4.toNat]?) fun c5 =>
 aa (decide ((c5.toNat:Int) < 97)) (
 some false) (
 aa (decide (0<=n4)) (
 Q1 (s1.data.toList[n4.toNat]?) fun c6 =>
 aa (decide ((c6.toNat:Int) > 122)) (
 some false) (
 bW (b3,(i64.wrap (n4+1))))) none)) none) (
 yt b3)) s.1 s.2
theorem e95 (d:Nat) (s1:ByteArray):TE (d+1) s1 =
 Q8 (yq d s1 (yp d s1)) Qc (false,0):=by kernel_rfl
theorem TF (d:Nat) (x1:t1):FY (d+1) x1 =
 Q1 (jg d x1.1 1 999) fun r2 =>
 aa r2 (
 Q1 (jg d x1.2.2.1 1 100000) fun r3 =>
 aa r3 (
 Q1 (jg d x1.2.2.2.1 x1.2.2.1 100000) fun r4 =>
 aa r4 (
 Q1 (jg d x1.2.2.2.2.1 1500 1000000) fun r5 =>
 aa r5 (
 Q1 (jg d x1.2.2.2.2.2.1 1500 1000000) fun r6 =>
 aa r6 (
 Q1 (jg d x1.2.2.2.2.2.2.1 0 7) fun r7 =>
 some r7) (
 some false)) (
 some false)) (
 some false)) (
 some false)) (
 some false):=by kernel_rfl
noncomputable def lA (d:Nat) (l4:List Int):Option (List Int) :=
 some l4
noncomputable def lB (d:Nat) (fF:(List Int)->Option (List Int)) (x1:t3) (bM:t11->Option (List Int)) (n4:Int) (l5:List Int) (b6 b7:Bool):Option (List Int) :=
 aa b7 (
 aa (Nat.ble ((l5.length+[n4].length)*8) Q7) (
 aa (decide (0<=n4)) (
 Q1 (x1.2.1[n4.toNat]?) fun x8 =>
 Q1 (Em d x1 x8.2.1) fun r9 =>
 bM (r9,(l5++[n4]))) none) none) (
 fF l5)
noncomputable def lC (d:Nat) (x1:t3) (fF:(List Int)->Option (List Int)) (bM:t11->Option (List Int)) (s:t11):Option (List Int) :=
(fun n4 (l5:List Int) =>
 aa (decide (n4>=0)) (
 lB d fF x1 bM n4 l5 true (decide ((l5.length:Int)<=8))) (
 lB d fF x1 bM n4 l5 false false)) s.1 s.2
theorem TG (d:Nat) (x1:t3) (n2:Int):FZ (d+1) x1 n2 =
 Q8 (lC d x1 (lA d)) Qc (n2,[]):=by kernel_rfl
noncomputable def F0 (d:Nat) (n6:Int):Option Int :=
 some n6
noncomputable def pq (d:Nat) (x1:t3) (r4:List Int) (tL:Int->Option Int) (fZ:t10->Option Int) (s:t10):Option Int :=
(fun n6 n7 =>
 aa (decide (n7 < (r4.length:Int))) (
 aa (decide (0<=n7)) (
 aa (Nat.blt (n7.toNat) r4.length) (
 Q1 (r4[n7.toNat]?) fun n8 =>
 aa (decide (0<=n8)) (
 Q1 (x1.2.1[n8.toNat]?) fun x9 =>
 fZ ((i64.wrap (n6 - x9.2.2.1)),(i64.wrap (n7+1)))) none) none) none) (
 tL n6)) s.1 s.2
theorem TH (d:Nat) (x1:t3) (n2:Int):F1 (d+1) x1 n2 =
 aa (decide (0<=n2)) (
 Q1 (x1.2.1[n2.toNat]?) fun x3 =>
 Q1 (lz d x1 n2) fun r4 =>
 Q8 (pq d x1 r4 (F0 d)) Qc (x3.2.2.1,0)) none:=by kernel_rfl
noncomputable def Lt (d:Nat) (b6:Bool):Option Bool :=
 some true
noncomputable def kI (d:Nat) (fZ:t9->Option Bool) (b6:Bool) (n7:Int) (b14 b15 b16 b17 b18:Bool):Option Bool :=
 aa b18 (
 some false) (
 fZ (b6,(i64.wrap (n7+1))))
noncomputable def kJ (d:Nat) (x1:t3) (fZ:t9->Option Bool) (b6:Bool) (n7:Int) (x8:t1) (F2 yu F3 v7:Bool):Option Bool :=
 aa v7 (
 some false) (
 Q1 (Jj d x1 n7) fun jN =>
 aa jN (
 Q1 (jg d x8.2.2.2.2.2.2.2 1 60) fun v8 =>
 aa (!v8) (
 kI d fZ b6 n7 jN true (!v8) true true) (
 Q1 (Jj d x1 n7) fun pz =>
 aa (!pz) (
 kI d fZ b6 n7 jN true (!v8) false (x8.2.2.2.2.2.2.2 != 0)) (
 kI d fZ b6 n7 jN true (!v8) false false))) (
 Q1 (Jj d x1 n7) fun F4 =>
 aa (!F4) (
 kI d fZ b6 n7 jN false false false (x8.2.2.2.2.2.2.2 != 0)) (
 kI d fZ b6 n7 jN false false false false)))
noncomputable def yw (d:Nat) (x1:t3) (yx:Bool->Option Bool) (fZ:t9->Option Bool) (s:t9):Option Bool :=
(fun (b6:Bool) n7 =>
 aa (decide (n7 < (x1.2.1.length:Int))) (
 aa (decide (0<=n7)) (
 Q1 (x1.2.1[n7.toNat]?) fun x8 =>
 Q1 (FZ d x1 n7) fun r9 =>
 aa (decide ((r9.length:Int) > 8)) (
 kJ d x1 fZ b6 n7 x8 true true true true) (
 aa (decide (0<=((i64.wrap ((r9.length:Int) - 1)):Int))) (
 aa (Nat.blt (((i64.wrap ((r9.length:Int) - 1)):Int).toNat) r9.length) (
 Q1 (r9[((i64.wrap ((r9.length:Int) - 1)):Int).toNat]?) fun cQ =>
 aa (decide (0<=cQ)) (
 Q1 (x1.2.1[cQ.toNat]?) fun bN =>
 aa (bN.2.1 != 0) (
 kJ d x1 fZ b6 n7 x8 false (bN.2.1 != 0) true true) (
 Q1 (F1 d x1 n7) fun mZ =>
 kJ d x1 fZ b6 n7 x8 false (bN.2.1 != 0) false (decide (mZ < 0)))) none) none) none)) none) (
 yx b6)) s.1 s.2
noncomputable def yy (d:Nat) (x1:t3) (b3:Bool) (n4:Int):Option Bool :=
 aa (n4 != 1) (
 some false) (
 Q8 (yw d x1 (Lt d)) Qc (b3,0))
noncomputable def so (d:Nat) (bW:(Bool×Int×Int)->Option Bool) (b3:Bool) (n4 n5:Int) (x6:t1) (b7 b8 b9 F2:Bool):Option Bool :=
 aa F2 (
 some false) (
 aa (x6.2.1==0) (
 bW (b3,(i64.wrap (n4+1)),(i64.wrap (n5+1)))) (
 bW (b3,n4,(i64.wrap (n5+1)))))
noncomputable def yz (d:Nat) (x1:t3) (yA:Bool->Int->Option Bool) (bW:(Bool×Int×Int)->Option Bool) (s:(Bool×Int×Int)):Option Bool :=
(fun (b3:Bool) n4 n5 =>
 aa (decide (n5 < (x1.2.1.length:Int))) (
 aa (decide (0<=n5)) (
 Q1 (x1.2.1[n5.toNat]?) fun x6 =>
 Q1 (FY d x6) fun r7 =>
 aa (!r7) (
 so d bW b3 n4 n5 x6 r7 (!r7) true true) (
 aa (decide (n5 > 0)) (
 aa (decide (0<=((i64.wrap (n5 - 1)):Int))) (
 Q1 (x1.2.1[((i64.wrap (n5 - 1)):Int).toNat]?) fun x8 =>
 so d bW b3 n4 n5 x6 r7 (!r7) false (decide (x8.1>=x6.1))) none) (
 so d bW b3 n4 n5 x6 r7 (!r7) false false))) none) (
 yA b3 n4)) s.1 s.2.1 s.2.2
theorem e96 (d:Nat) (x1:t3):TI (d+1) x1 =
 Q8 (yz d x1 (yy d x1)) Qc (false,0,0):=by kernel_rfl
theorem TJ (d:Nat) (x1:t4):F5 (d+1) x1 =
 Q1 (jg d x1.1 1 99) fun r2 =>
 aa r2 (
 Q1 (jg d x1.2.1 0 3) fun r3 =>
 aa r3 (
 Q1 (jg d x1.2.2.1 0 65535) fun r4 =>
 aa r4 (
 Q1 (jg d x1.2.2.2.1 0 65535) fun r5 =>
 aa r5 (
 some (((i64.wrap ((BitVec.ofInt i64.bits x1.2.2.2.1 &&& BitVec.ofInt i64.bits x1.2.2.1).toNat:Int)):Int)==x1.2.2.2.1)) (
 some false)) (
 some false)) (
 some false)) (
 some false):=by kernel_rfl
noncomputable def En (d:Nat) (x1:t3) (b3:Bool):Option Bool :=
 some (decide ((x1.2.2.1.length:Int)<=16))
noncomputable def nI (d:Nat) (bW:t9->Option Bool) (b3:Bool) (n4:Int) (b6 b7 b8 b9 F2 yu:Bool):Option Bool :=
 aa yu (
 some false) (
 bW (b3,(i64.wrap (n4+1))))
noncomputable def yB (d:Nat) (x1:t3) (yC:Bool->Option Bool) (bW:t9->Option Bool) (s:t9):Option Bool :=
(fun (b3:Bool) n4 =>
 aa (decide (n4 < (x1.2.2.1.length:Int))) (
 aa (decide (0<=n4)) (
 Q1 (x1.2.2.1[n4.toNat]?) fun x5 =>
 Q1 (F5 d x5) fun r6 =>
 aa (!r6) (
 nI d bW b3 n4 r6 (!r6) true true true true) (
 aa (decide (n4 > 0)) (
 aa (decide (0<=((i64.wrap (n4 - 1)):Int))) (
 Q1 (x1.2.2.1[((i64.wrap (n4 - 1)):Int).toNat]?) fun x7 =>
 aa (decide (x7.1>=x5.1)) (
 nI d bW b3 n4 r6 (!r6) false (decide (x7.1>=x5.1)) true true) (
 Q1 (Lo d x1 x5.2.2.2.2) fun r8 =>
 nI d bW b3 n4 r6 (!r6) false (decide (x7.1>=x5.1)) false (!r8))) none) (
 Q1 (Lo d x1 x5.2.2.2.2) fun r9 =>
 nI d bW b3 n4 r6 (!r6) false false false (!r9)))) none) (
 yC b3)) s.1 s.2
theorem e97 (d:Nat) (x1:t3):TK (d+1) x1 =
 Q8 (yB d x1 (En d x1)) Qc (false,0):=by kernel_rfl
theorem e59 (d:Nat) (x1:t3):Jk (d+1) x1 =
 Q1 (TE d x1.1) fun r2 =>
 aa r2 (
 Q1 (jg d (x1.2.1.length:Int) 1 24) fun r3 =>
 aa r3 (
 Q1 (TI d x1) fun r4 =>
 aa r4 (
 Q1 (TK d x1) fun r5 =>
 aa r5 (
 aa (x1.2.2.2==0) (
 some true) (
 Q1 (Lo d x1 x1.2.2.2) fun r6 =>
 some r6)) (
 some false)) (
 some false)) (
 some false)) (
 some false):=by kernel_rfl
noncomputable def F6 (d:Nat) (b4:Bool):Option Bool :=
 some true
noncomputable def pE (d:Nat) (l1 l2:List Int) (tM:Bool->Option Bool) (bM:t9->Option Bool) (s:t9):Option Bool :=
(fun (b4:Bool) n5 =>
 aa (decide (n5 < (l1.length:Int))) (
 aa (decide (0<=n5)) (
 Q1 (l1[n5.toNat]?) fun n6 =>
 aa (decide (0<=n5)) (
 Q1 (l2[n5.toNat]?) fun n7 =>
 aa (n6 != n7) (
 some false) (
 bM (b4,(i64.wrap (n5+1))))) none) none) (
 tM b4)) s.1 s.2
theorem TL (d:Nat) (l1 l2:List Int):pG (d+1) l1 l2 =
 aa ((l1.length:Int) != (l2.length:Int)) (
 some false) (
 Q8 (pE d l1 l2 (F6 d)) Qc (false,0)):=by kernel_rfl
noncomputable def pH (d:Nat) (x1 x2:t0) (b7:Bool):Option Bool :=
 Q1 (pG d x1.2.2.1 x2.2.2.1) fun r8 =>
 aa r8 (
 Q1 (pG d x1.2.2.2.1 x2.2.2.2.1) fun r9 =>
 aa r9 (
 Q1 (pG d x1.2.2.2.2.1 x2.2.2.2.2.1) fun oJ =>
 aa oJ (
 Q1 (pG d x1.2.2.2.2.2.1 x2.2.2.2.2.2.1) fun gz =>
 aa gz (
 Q1 (pG d x1.2.2.2.2.2.2.2.1 x2.2.2.2.2.2.2.2.1) fun mZ =>
 some mZ) (
 some false)) (
 some false)) (
 some false)) (
 some false)
noncomputable def pI (d:Nat) (x1 x2:t0) (tN:Bool->Option Bool) (gA:t9->Option Bool) (s:t9):Option Bool :=
(fun (b7:Bool) n8 =>
 aa (decide (n8 < (x1.2.2.2.2.2.2.1.length:Int))) (
 aa (decide (0<=n8)) (
 Q1 (x1.2.2.2.2.2.2.1[n8.toNat]?) fun x9 =>
 aa (decide (0<=n8)) (
 Q1 (x2.2.2.2.2.2.2.1[n8.toNat]?) fun aR =>
 aa (!((x9.1==aR.1)&&((x9.2.1==aR.2.1)&&((x9.2.2.1==aR.2.2.1)&&((x9.2.2.2.1==aR.2.2.2.1)&&((x9.2.2.2.2==aR.2.2.2.2)&&true)))))) (
 some false) (
 gA (b7,(i64.wrap (n8+1))))) none) none) (
 tN b7)) s.1 s.2
noncomputable def pJ (d:Nat) (x1 x2:t0) (b5:Bool):Option Bool :=
 Q8 (pI d x1 x2 (pH d x1 x2)) Qc (b5,0)
noncomputable def pK (d:Nat) (x1 x2:t0) (tO:Bool->Option Bool) (iH:t9->Option Bool) (s:t9):Option Bool :=
(fun (b5:Bool) n6 =>
 aa (decide (n6 < (x1.2.1.length:Int))) (
 aa (decide (0<=n6)) (
 Q1 (x1.2.1[n6.toNat]?) fun x7 =>
 aa (decide (0<=n6)) (
 Q1 (x2.2.1[n6.toNat]?) fun x8 =>
 aa (!((x7.1==x8.1)&&((x7.2.1==x8.2.1)&&((x7.2.2.1==x8.2.2.1)&&((x7.2.2.2.1==x8.2.2.2.1)&&((x7.2.2.2.2.1==x8.2.2.2.2.1)&&((x7.2.2.2.2.2.1==x8.2.2.2.2.2.1)&&((x7.2.2.2.2.2.2.1==x8.2.2.2.2.2.2.1)&&((x7.2.2.2.2.2.2.2==x8.2.2.2.2.2.2.2)&&true))))))))) (
 some false) (
 iH (b5,(i64.wrap (n6+1))))) none) none) (
 tO b5)) s.1 s.2
noncomputable def jh (d:Nat) (x1 x2:t0) (b3:Bool):Option Bool :=
 aa b3 (
 some false) (
 Q8 (pK d x1 x2 (pJ d x1 x2)) Qc (false,0))
theorem TN (d:Nat) (x1 x2:t0):F7 (d+1) x1 x2 =
 aa (!(x1.1.toList==x2.1.toList)) (
 jh d x1 x2 true) (
 aa ((x1.2.1.length:Int) != (x2.2.1.length:Int)) (
 jh d x1 x2 true) (
 aa ((x1.2.2.2.2.2.2.1.length:Int) != (x2.2.2.2.2.2.2.1.length:Int)) (
 jh d x1 x2 true) (
 jh d x1 x2 (x1.2.2.2.2.2.2.2.2 != x2.2.2.2.2.2.2.2.2)))):=by kernel_rfl
noncomputable def F8 (d:Nat) (l5:List Int):Option (List Int) :=
 some l5
noncomputable def pL (d:Nat) (x1:t3) (r3:List Int) (tP:(List Int)->Option (List Int)) (iH:t16->Option (List Int)) (s:t16):Option (List Int) :=
(fun (l5:List Int) n6 =>
 aa (decide (n6 < (r3.length:Int))) (
 aa (decide (0<=n6)) (
 aa (Nat.blt (n6.toNat) r3.length) (
 Q1 (r3[n6.toNat]?) fun n7 =>
 Q1 (pM d x1 n7) fun r8 =>
 aa (Nat.ble ((l5.length+r8.length)*8) Q7) (
 iH ((l5++r8),(i64.wrap (n6+1)))) none) none) none) (
 tP l5)) s.1 s.2
theorem TO (d:Nat) (x1:t3) (n2:Int):pM (d+1) x1 n2 =
 Q1 (lz d x1 n2) fun r3 =>
 Q8 (pL d x1 r3 (F8 d)) Qc ([n2],0):=by kernel_rfl
noncomputable def yD (d:Nat) (n3:Int):Option Int :=
 some n3
noncomputable def lD (d:Nat) (x1:t3) (tQ bW:Int->Option Int) (s:Int):Option Int :=
(fun n3 =>
 aa (decide (0<=n3)) (
 Q1 (x1.2.1[n3.toNat]?) fun x4 =>
 aa (x4.2.1 != 0) (
 bW (i64.wrap (n3+1))) (
 tQ n3)) none) s
theorem TP (d:Nat) (x1:t3):F9 (d+1) x1 =
 Q8 (lD d x1 (yD d)) Qc 0:=by kernel_rfl
noncomputable def pN (d:Nat) (x1:t3) (l5:List Int) (s17:ByteArray) (eK:Int) (g_:List t1) (dX eU F_ Lu:List Int) (v_:List t4) (tR:List Int):Option t0 :=
 aa (x1.2.2.2 != 0) (
 Q1 (Em d x1 x1.2.2.2) fun pO =>
 aa (decide (0<=pO)) (
 aa (Nat.blt (pO.toNat) l5.length) (
 Q1 (l5[pO.toNat]?) fun eM =>
 some (s17,g_,dX,eU,F_,Lu,v_,tR,eM)) none) none) (
 some (s17,g_,dX,eU,F_,Lu,v_,tR,eK))
noncomputable def lE (d:Nat) (x1:t3) (l5:List Int) (tS:ByteArray->Int->(List t1)->(List Int)->(List Int)->(List Int)->(List Int)->(List t4)->(List Int)->Option t0) (Ga:(Int×t0)->Option t0) (s:(Int×t0)):Option t0 :=
(fun eo (f_:t0) =>
 aa (decide (eo < (x1.2.2.1.length:Int))) (
 aa (decide (0<=eo)) (
 Q1 (x1.2.2.1[eo.toNat]?) fun nJ =>
 Q1 (Em d x1 nJ.2.2.2.2) fun Co =>
 aa (decide (0<=Co)) (
 aa (Nat.blt (Co.toNat) l5.length) (
 Q1 (l5[Co.toNat]?) fun pP =>
 aa (Nat.ble ((f_.2.2.2.2.2.2.2.1.length+[pP].length)*8) Q7) (
 Ga ((i64.wrap (eo+1)),(f_.1,f_.2.1,f_.2.2.1,f_.2.2.2.1,f_.2.2.2.2.1,f_.2.2.2.2.2.1,f_.2.2.2.2.2.2.1,(f_.2.2.2.2.2.2.2.1++[pP]),f_.2.2.2.2.2.2.2.2))) none) none) none) none) (
 tS f_.1 f_.2.2.2.2.2.2.2.2 f_.2.1 f_.2.2.1 f_.2.2.2.1 f_.2.2.2.2.1 f_.2.2.2.2.2.1 f_.2.2.2.2.2.2.1 f_.2.2.2.2.2.2.2.1)) s.1 s.2
noncomputable def lG (d:Nat) (x1:t3) (l5:List Int) (s7:ByteArray) (n8:Int) (l9:List t1) (l10 lH Eo fc:List Int) (kK:List t4) (iA:List Int):Option t0 :=
 Q8 (lE d x1 l5 (pN d x1 l5)) Qc (0,(s7,l9,l10,lH,Eo,fc,kK,iA,n8))
noncomputable def lI (d:Nat) (x1:t3) (gA:(Int×t0)->Option t0) (n7:Int) (x8:t0) (n9:Int) (aR:t1) (j4 nK eo:Int) (b18:Bool):Option t0 :=
 aa (Nat.ble ((x8.2.2.1.length+[j4].length)*8) Q7) (
 aa (Nat.ble ((x8.2.2.2.1.length+[eo].length)*8) Q7) (
 aa (Nat.ble ((x8.2.2.2.2.1.length+[nK].length)*8) Q7) (
 Q1 (pM d x1 n9) fun sq =>
 aa (Nat.ble ((x8.2.2.2.2.2.1.length+[(i64.wrap (n7+(sq.length:Int)))].length)*8) Q7) (
 gA ((i64.wrap (n7+1)),(x8.1,(x8.2.1++[aR]),(x8.2.2.1++[j4]),(x8.2.2.2.1++[eo]),(x8.2.2.2.2.1++[nK]),(x8.2.2.2.2.2.1++[(i64.wrap (n7+(sq.length:Int)))]),x8.2.2.2.2.2.2))) none) none) none) none
noncomputable def lJ (d:Nat) (x1:t3) (l5:List Int) (gA:(Int×t0)->Option t0) (n7:Int) (x8:t0) (n9:Int) (aR:t1) (j4 nK:Int) (b15:Bool):Option t0 :=
 Q1 (lz d x1 n9) fun pz =>
 aa (decide ((pz.length:Int) > 0)) (
 aa (Nat.blt 0 pz.length) (
 Q1 (pz[0]?) fun eo =>
 aa (decide (0<=eo)) (
 aa (Nat.blt (eo.toNat) l5.length) (
 Q1 (l5[eo.toNat]?) fun eK =>
 lI d x1 gA n7 x8 n9 aR j4 nK eK true) none) none) none) (
 lI d x1 gA n7 x8 n9 aR j4 nK (-1) false)
noncomputable def yE (d:Nat) (x1:t3) (l5:List Int) (gA:(Int×t0)->Option t0) (n7:Int) (x8:t0) (n9:Int) (aR:t1) (j4 cT eo:Int):Option t0 :=
 lJ d x1 l5 gA n7 x8 n9 aR j4 cT true
noncomputable def pQ (d:Nat) (l5 jN:List Int) (nL:t10->Option t0) (cT eo:Int) (b19 Lv:Bool):Option t0 :=
 aa Lv (
 aa (decide (0<=((i64.wrap (eo+1)):Int))) (
 aa (Nat.blt (((i64.wrap (eo+1)):Int).toNat) jN.length) (
 Q1 (jN[((i64.wrap (eo+1)):Int).toNat]?) fun pP =>
 aa (decide (0<=pP)) (
 aa (Nat.blt (pP.toNat) l5.length) (
 Q1 (l5[pP.toNat]?) fun n22 =>
 nL (n22,(i64.wrap (eo+1)))) none) none) none) none) (
 nL (cT,(i64.wrap (eo+1))))
noncomputable def lK (d:Nat) (l5:List Int) (n9:Int) (jN:List Int) (tT:Int->Int->Option t0) (nL:t10->Option t0) (s:t10):Option t0 :=
(fun cT eo =>
 aa (decide (eo < (jN.length:Int))) (
 aa (decide (0<=eo)) (
 aa (Nat.blt (eo.toNat) jN.length) (
 Q1 (jN[eo.toNat]?) fun eK =>
 aa (eK==n9) (
 pQ d l5 jN nL cT eo true (decide (((i64.wrap (eo+1)):Int) < (jN.length:Int)))) (
 pQ d l5 jN nL cT eo false false)) none) none) (
 tT cT eo)) s.1 s.2
noncomputable def ji (d:Nat) (x1:t3) (r3 l5:List Int) (tU:ByteArray->Int->(List t1)->(List Int)->(List Int)->(List Int)->(List Int)->(List t4)->(List Int)->Option t0) (gA:(Int×t0)->Option t0) (s:(Int×t0)):Option t0 :=
(fun n7 (x8:t0) =>
 aa (decide (n7 < (r3.length:Int))) (
 aa (decide (0<=n7)) (
 aa (Nat.blt (n7.toNat) r3.length) (
 Q1 (r3[n7.toNat]?) fun n9 =>
 aa (decide (0<=n9)) (
 Q1 (x1.2.1[n9.toNat]?) fun aR =>
 aa (Nat.ble ((x8.2.1.length+[aR].length)*64) Q7) (
 aa (decide (0<=n9)) (
 Q1 (x1.2.1[n9.toNat]?) fun bN =>
 Q1 (Em d x1 bN.2.1) fun mZ =>
 aa (decide (mZ>=0)) (
 aa (decide (0<=mZ)) (
 aa (Nat.blt (mZ.toNat) l5.length) (
 Q1 (l5[mZ.toNat]?) fun j4 =>
 Q1 (lz d x1 mZ) fun jN =>
 Q8 (lK d l5 n9 jN (yE d x1 l5 gA n7 x8 n9 aR j4)) Qc ((-1),0)) none) none) (
 lJ d x1 l5 gA n7 x8 n9 aR (-1) (-1) false)) none) none) none) none) none) (
 tU x8.1 x8.2.2.2.2.2.2.2.2 x8.2.1 x8.2.2.1 x8.2.2.2.1 x8.2.2.2.2.1 x8.2.2.2.2.2.1 x8.2.2.2.2.2.2.1 x8.2.2.2.2.2.2.2.1)) s.1 s.2
noncomputable def pR (d:Nat) (x1:t3) (r3 l5:List Int):Option t0 :=
 aa (Nat.ble ((([]:List t4).length+x1.2.2.1.length)*40) Q7) (
 Q8 (ji d x1 r3 l5 (lG d x1 l5)) Qc (0,(x1.1,[],[],[],[],[],(([]:List t4)++x1.2.2.1),[],(-1)))) none
noncomputable def pS (d:Nat) (r3:List Int) (tV:(List Int)->Option t0) (iH:t11->Option t0) (s:t11):Option t0 :=
(fun n5 (l6:List Int) =>
 aa (decide (n5 < (r3.length:Int))) (
 aa (decide (0<=n5)) (
 aa (Nat.blt (n5.toNat) r3.length) (
 Q1 (r3[n5.toNat]?) fun n7 =>
 aa (decide (0<=n7)) (
 aa (Nat.blt (n7.toNat) l6.length) (
 Q1 (l6[n7.toNat]?) fun n8 =>
 iH ((i64.wrap (n5+1)),(l6.set (n7.toNat) n5))) none) none) none) none) (
 tV l6)) s.1 s.2
theorem TQ (d:Nat) (x1:t3):Cp (d+1) x1 =
 Q1 (F9 d x1) fun r2 =>
 Q1 (pM d x1 r2) fun r3 =>
 aa (decide (0<=(r3.length:Int))) (
 aa (decide (0<=(r3.length:Int))) (
 aa (Nat.ble ((r3.length:Int).toNat) ((r3.length:Int).toNat)&&Nat.ble (((r3.length:Int).toNat)*8) Q7) (
 Q8 (pS d r3 (pR d x1 r3)) Qc (0,(List.replicate ((r3.length:Int).toNat) (0:Int)))) none) none) none:=by kernel_rfl
noncomputable def yF (d:Nat) (x1:t0) (b2:Bool):Option Bool :=
 aa b2 (
 some false) (
 Q1 (O1 d x1) fun r3 =>
 Q1 (Jk d r3) fun r4 =>
 aa r4 (
 Q1 (Cp d r3) fun r5 =>
 Q1 (F7 d x1 r5) fun r6 =>
 some r6) (
 some false))
theorem e90 (d:Nat) (x1:t0):TS (d+1) x1 =
 aa (decide ((x1.2.1.length:Int) > 24)) (
 yF d x1 true) (
 yF d x1 (decide ((x1.2.2.2.2.2.2.1.length:Int) > 16))):=by kernel_rfl
noncomputable def Lw (d:Nat) (b5:Bool):Option Bool :=
 some true
noncomputable def yG (d:Nat) (x1:t0) (x2:t7) (yH:Bool->Option Bool) (iH:t9->Option Bool) (s:t9):Option Bool :=
(fun (b5:Bool) n6 =>
 aa (decide (n6 < (x1.2.1.length:Int))) (
 aa (decide (0<=n6)) (
 Q1 (x1.2.1[n6.toNat]?) fun x7 =>
 aa (decide (0<=n6)) (
 Q1 (x2.1[n6.toNat]?) fun n8 =>
 Q1 (jg d n8 0 x7.2.2.2.2.1) fun r9 =>
 aa (!r9) (
 some false) (
 aa (decide (0<=n6)) (
 Q1 (x2.2[n6.toNat]?) fun cQ =>
 Q1 (jg d cQ 0 x7.2.2.2.2.2.1) fun gz =>
 aa (!gz) (
 some false) (
 iH (b5,(i64.wrap (n6+1))))) none)) none) none) (
 yH b5)) s.1 s.2
noncomputable def yI (d:Nat) (x1:t0) (x2:t7) (b3:Bool):Option Bool :=
 aa b3 (
 some false) (
 Q8 (yG d x1 x2 (Lw d)) Qc (false,0))
theorem e91 (d:Nat) (x1:t0) (x2:t7):TT (d+1) x1 x2 =
 aa ((x2.1.length:Int) != (x1.2.1.length:Int)) (
 yI d x1 x2 true) (
 yI d x1 x2 ((x2.2.length:Int) != (x1.2.1.length:Int))):=by kernel_rfl
theorem e53 (d:Nat) (x1:t0) (x2:t7):TU (d+1) x1 x2 =
 Q1 (TS d x1) fun r3 =>
 aa r3 (
 Q1 (TT d x1 x2) fun r4 =>
 some r4) (
 some false):=by kernel_rfl
theorem e92 (d:Nat) (x1:t0) (n2:Int):TW (d+1) x1 n2 =
 aa (decide (0<=n2)) (
 Q1 (x1.2.2.2.1[n2.toNat]?) fun n3 =>
 some (decide (n3 < 0))) none:=by kernel_rfl
noncomputable def Lx (d:Nat) (l3:List Int):Option (List Int) :=
 some l3
noncomputable def yJ (d:Nat) (x1:t0) (yK:(List Int)->Option (List Int)) (bW:t16->Option (List Int)) (s:t16):Option (List Int) :=
(fun (l3:List Int) n4 =>
 aa (decide (n4 < (x1.2.1.length:Int))) (
 Q1 (TW d x1 n4) fun r5 =>
 aa r5 (
 aa (Nat.ble ((l3.length+[n4].length)*8) Q7) (
 bW ((l3++[n4]),(i64.wrap (n4+1)))) none) (
 bW (l3,(i64.wrap (n4+1))))) (
 yK l3)) s.1 s.2
theorem e54 (d:Nat) (x1:t0):Ep (d+1) x1 =
 Q8 (yJ d x1 (Lx d)) Qc ([],0):=by kernel_rfl
theorem e93 (d:Nat) (n1:Int):Jl (d+1) n1 =
 Q1 (jg d n1 0 65535) fun r2 =>
 some r2:=by kernel_rfl
theorem e56 (d:Nat) (x1:t5):TX (d+1) x1 =
 Q1 (jg d x1.1 1 100000) fun r2 =>
 aa r2 (
 Q1 (Jl d x1.2.1) fun r3 =>
 aa r3 (
 Q1 (Jl d x1.2.2.1) fun r4 =>
 aa r4 (
 Q1 (Jl d x1.2.2.2.1) fun r5 =>
 aa r5 (
 Q1 (Jl d x1.2.2.2.2.1) fun r6 =>
 aa r6 (
 Q1 (jg d x1.2.2.2.2.2 1 1500) fun r7 =>
 some r7) (
 some false)) (
 some false)) (
 some false)) (
 some false)) (
 some false):=by kernel_rfl
theorem TY (d:Nat) (x1:t5) (n2:Int):Ly (d+1) x1 n2 =
 aa (decide (0<=n2)) (
 aa (Nat.blt (n2.toNat) ([x1.2.1,x1.2.2.1,x1.2.2.2.1,x1.2.2.2.2.1].length)) (
 Q1 ([x1.2.1,x1.2.2.1,x1.2.2.2.1,x1.2.2.2.2.1][n2.toNat]?) fun n3 =>
 some n3) none) none:=by kernel_rfl
theorem TZ (d:Nat) (x1:t4) (x2:t5):Gb (d+1) x1 x2 =
 Q1 (Ly d x2 x1.2.1) fun r3 =>
 some (((i64.wrap ((BitVec.ofInt i64.bits r3 &&& BitVec.ofInt i64.bits x1.2.2.1).toNat:Int)):Int)==x1.2.2.2.1):=by kernel_rfl
noncomputable def Lz (d:Nat) (n4:Int):Option Int :=
 some (-1)
noncomputable def yL (d:Nat) (l1:List t4) (x2:t5) (yM:Int->Option Int) (bM:t10->Option Int) (s:t10):Option Int :=
(fun n4 n5 =>
 aa (decide (n5 < (l1.length:Int))) (
 aa (decide (0<=n5)) (
 Q1 (l1[n5.toNat]?) fun x6 =>
 Q1 (Gb d x6 x2) fun r7 =>
 aa r7 (
 some n5) (
 bM (n4,(i64.wrap (n5+1))))) none) (
 yM n4)) s.1 s.2
theorem e94 (d:Nat) (l1:List t4) (x2:t5):T0 (d+1) l1 x2 =
 Q8 (yL d l1 x2 (Lz d)) Qc (0,0):=by kernel_rfl
theorem e57 (d:Nat) (x1:t0) (x2:t5):O2 (d+1) x1 x2 =
 Q1 (T0 d x1.2.2.2.2.2.2.1 x2) fun r3 =>
 aa (decide (r3>=0)) (
 aa (decide (0<=r3)) (
 Q1 (x1.2.2.2.2.2.2.2.1[r3.toNat]?) fun n4 =>
 some n4) none) (
 some x1.2.2.2.2.2.2.2.2):=by kernel_rfl
noncomputable def LA (d:Nat) (b4:Bool):Option Bool :=
 some false
noncomputable def yN (d:Nat) (l1:List Int) (n2:Int) (yO:Bool->Option Bool) (bM:t9->Option Bool) (s:t9):Option Bool :=
(fun (b4:Bool) n5 =>
 aa (decide (n5 < (l1.length:Int))) (
 aa (decide (0<=n5)) (
 Q1 (l1[n5.toNat]?) fun n6 =>
 aa (n6==n2) (
 some true) (
 bM (b4,(i64.wrap (n5+1))))) none) (
 yO b4)) s.1 s.2
theorem e58 (d:Nat) (l1:List Int) (n2:Int):O3 (d+1) l1 n2 =
 Q8 (yN d l1 n2 (LA d)) Qc (false,0):=by kernel_rfl
noncomputable def LB (d:Nat) (b6:Bool):Option Bool :=
 some true
noncomputable def yP (d:Nat) (fZ:(Bool×(List Int)×Int)->Option Bool) (n8:Int) (v7:Bool) (nK:Int) (iA:List Int):Option Bool :=
 fZ (v7,iA,(i64.wrap (n8+1)))
noncomputable def nM (d:Nat) (x1:t2) (r3:List Int) (n8:Int) (l9:List t5) (yR:Bool->Int->(List Int)->Option Bool) (Gc:(Bool×(List Int)×Int)->Option Bool) (s:(Bool×(List Int)×Int)):Option Bool :=
(fun (v7:Bool) (kK:List Int) eV =>
 aa (decide (eV < (l9.length:Int))) (
 aa (decide (0<=eV)) (
 Q1 (l9[eV.toNat]?) fun nN =>
 Q1 (TX d nN) fun F4 =>
 aa (!F4) (
 some false) (
 Q1 (O2 d x1.1 nN) fun yS =>
 aa (decide (0<=n8)) (
 aa (Nat.blt (n8.toNat) r3.length) (
 Q1 (r3[n8.toNat]?) fun tW =>
 aa (yS != tW) (
 some false) (
 Q1 (O3 d kK nN.1) fun Co =>
 aa Co (
 some false) (
 aa (Nat.ble ((kK.length+[nN.1].length)*8) Q7) (
 Gc (v7,(kK++[nN.1]),(i64.wrap (eV+1)))) none))) none) none)) none) (
 yR v7 eV kK)) s.1 s.2.1 s.2.2
noncomputable def yT (d:Nat) (x1:t2) (r3:List Int) (yU:Bool->Option Bool) (fZ:(Bool×(List Int)×Int)->Option Bool) (s:(Bool×(List Int)×Int)):Option Bool :=
(fun (b6:Bool) (l7:List Int) n8 =>
 aa (decide (n8 < (x1.2.2.1.length:Int))) (
 aa (decide (0<=n8)) (
 Q1 (x1.2.2.1[n8.toNat]?) fun l9 =>
 aa (decide (0<=n8)) (
 aa (Nat.blt (n8.toNat) r3.length) (
 Q1 (r3[n8.toNat]?) fun cQ =>
 aa (decide (0<=cQ)) (
 Q1 (x1.1.2.1[cQ.toNat]?) fun bN =>
 aa (decide ((l9.length:Int) > bN.2.2.2.2.2.2.2)) (
 some false) (
 Q8 (nM d x1 r3 n8 l9 (yP d fZ n8)) Qc (b6,l7,0))) none) none) none) none) (
 yU b6)) s.1 s.2.1 s.2.2
noncomputable def sr (d:Nat) (x1:t2) (r3:List Int) (b4:Bool):Option Bool :=
 aa b4 (
 some false) (
 Q8 (yT d x1 r3 (LB d)) Qc (false,[],0))
theorem e24 (d:Nat) (x1:t2):g24 (d+1) x1 =
 Q1 (TU d x1.1 x1.2.1) fun r2 =>
 aa (!r2) (
 some false) (
 Q1 (Ep d x1.1) fun r3 =>
 aa ((x1.2.2.1.length:Int) != (r3.length:Int)) (
 sr d x1 r3 true) (
 Q1 (jg d x1.2.2.2.1 (-1) (i64.wrap ((r3.length:Int) - 1))) fun r4 =>
 aa (!r4) (
 sr d x1 r3 true) (
 Q1 (jg d x1.2.2.2.2 0 1000000) fun r5 =>
 sr d x1 r3 (!r5)))):=by kernel_rfl
noncomputable def Ge (d:Nat) (l3 l4:List Int):Option t7 :=
 some (l3,l4)
noncomputable def pT (d:Nat) (x1:t0) (tX:(List Int)->(List Int)->Option t7) (bW:(Int×t7)->Option t7) (s:(Int×t7)):Option t7 :=
(fun n3 (x4:t7) =>
 aa (decide (n3 < (x1.2.1.length:Int))) (
 aa (decide (0<=n3)) (
 Q1 (x1.2.1[n3.toNat]?) fun x5 =>
 aa (Nat.ble ((x4.1.length+[x5.2.2.2.2.1].length)*8) Q7) (
 aa (Nat.ble ((x4.2.length+[x5.2.2.2.2.2.1].length)*8) Q7) (
 bW ((i64.wrap (n3+1)),((x4.1++[x5.2.2.2.2.1]),(x4.2++[x5.2.2.2.2.2.1])))) none) none) none) (
 tX x4.1 x4.2)) s.1 s.2
theorem T1 (d:Nat) (x1:t0):Gf (d+1) x1 =
 Q8 (pT d x1 (Ge d)) Qc (0,([],[])):=by kernel_rfl
theorem e98 (d:Nat) (x1:t3):Sx (d+1) x1 =
 Q1 (Cp d x1) fun r2 =>
 Q1 (Gf d r2) fun r3 =>
 Q1 (Ep d r2) fun r4 =>
 aa (decide (0<=(r4.length:Int))) (
 aa (decide (0<=(r4.length:Int))) (
 aa (Nat.ble ((r4.length:Int).toNat) ((r4.length:Int).toNat)&&Nat.ble (((r4.length:Int).toNat)*24) Q7) (
 some (r2,r3,(List.replicate ((r4.length:Int).toNat) ([]:List t5)),(-1),0)) none) none) none:=by kernel_rfl
noncomputable def LC (d:Nat) (n4:Int):Option Int :=
 some (-1)
noncomputable def yV (d:Nat) (x1:t0) (n2:Int) (yW:Int->Option Int) (bM:t10->Option Int) (s:t10):Option Int :=
(fun n4 n5 =>
 aa (decide (n5 < (x1.2.1.length:Int))) (
 aa (decide (0<=n5)) (
 Q1 (x1.2.1[n5.toNat]?) fun x6 =>
 aa (x6.1==n2) (
 some n5) (
 bM (n4,(i64.wrap (n5+1))))) none) (
 yW n4)) s.1 s.2
theorem e99 (d:Nat) (x1:t0) (n2:Int):T2 (d+1) x1 n2 =
 Q8 (yV d x1 n2 (LC d)) Qc (0,0):=by kernel_rfl
theorem T3 (d:Nat) (n1 n2:Int):Cq (d+1) n1 n2 =
 aa (decide (n1 < n2)) (
 some n1) (
 some n2):=by kernel_rfl
theorem SC (d:Nat) (x1:t2):FP (d+1) x1 =
 aa (decide (x1.2.2.2.1 < 0)) (
 some 0) (
 Q1 (Ep d x1.1) fun r2 =>
 aa (decide (0<=x1.2.2.2.1)) (
 aa (Nat.blt (x1.2.2.2.1.toNat) r2.length) (
 Q1 (r2[x1.2.2.2.1.toNat]?) fun n3 =>
 aa (decide (0<=n3)) (
 Q1 (x1.1.2.1[n3.toNat]?) fun x4 =>
 some x4.1) none) none) none):=by kernel_rfl
noncomputable def LD (d:Nat) (s9:ByteArray) (cQ iB su:Int) (fc:List t1) (kK iA pU fQ:List Int) (lM:List t4) (g_ dX eU v_:List Int) (tR:List (List t5)):Option t8 :=
 some (((s9,fc,kK,iA,pU,fQ,lM,g_,cQ),(dX,eU),tR,iB,su),v_)
noncomputable def DV (d:Nat) (Gg:t12->Option t8) (Er n29:Int) (l30:List Int) (kM:List (List t5)):Option t8 :=
 Gg (l30,(i64.wrap (Er+1)),kM)
noncomputable def cX (d:Nat) (nO:t12->Option t8) (oK:List Int) (we:Int) (yX:t5) (n33 n34:Int) (nP:List (List t5)):Option t8 :=
 aa (n33 != 1) (
 aa (Nat.ble ((oK.length+[yX.1].length)*8) Q7) (
 nO ((oK++[yX.1]),(i64.wrap (we+1)),nP)) none) (
 nO (oK,(i64.wrap (we+1)),nP))
noncomputable def gZ (d:Nat) (nO:t12->Option t8) (oK:List Int) (we:Int) (kM:List (List t5)) (yX:t5) (LF:t1) (jj:Int):Option t8 :=
 aa (decide (0<=jj)) (
 aa (Nat.blt (jj.toNat) kM.length) (
 Q1 (kM[jj.toNat]?) fun Bn =>
 aa (decide ((Bn.length:Int)>=LF.2.2.2.2.2.2.2)) (
 cX d nO oK we yX 2 LF.1 kM) (
 aa (decide (0<=jj)) (
 aa (Nat.blt (jj.toNat) kM.length) (
 Q1 (kM[jj.toNat]?) fun lN =>
 aa (Nat.ble ((lN.length+[yX].length)*48) Q7) (
 aa (decide (0<=jj)) (
 aa (Nat.blt (jj.toNat) kM.length) (
 aa (Nat.beq (jj.toNat) (jj.toNat)) (
 Q1 (kM[jj.toNat]?) fun T4 =>
 cX d nO oK we yX 1 LF.1 (kM.set (jj.toNat) (lN++[yX]))) none) none) none) none) none) none)) none) none
noncomputable def kE (d:Nat) (s9:ByteArray) (cQ:Int) (fc:List t1) (kK iA pU fQ:List Int) (lM:List t4) (g_:List Int) (lO:Int) (lP Gh:Int->Option t8) (s:Int):Option t8 :=
(fun jj =>
 Q1 (Ep d (s9,fc,kK,iA,pU,fQ,lM,g_,cQ)) fun r37 =>
 aa (decide (0<=jj)) (
 aa (Nat.blt (jj.toNat) r37.length) (
 Q1 (r37[jj.toNat]?) fun n38 =>
 aa (n38 != lO) (
 Gh (i64.wrap (jj+1))) (
 lP jj)) none) none) s
noncomputable def rT (d:Nat) (s9:ByteArray) (cQ:Int) (fc:List t1) (kK iA pU fQ:List Int) (lM:List t4) (g_:List Int) (wg:List t5) (yY:Int->(List Int)->(List (List t5))->Option t8) (nO:t12->Option t8) (s:t12):Option t8 :=
(fun (oK:List Int) we (kM:List (List t5)) =>
 aa (decide (we < (wg.length:Int))) (
 aa (decide (0<=we)) (
 Q1 (wg[we.toNat]?) fun yX =>
 Q1 (O2 d (s9,fc,kK,iA,pU,fQ,lM,g_,cQ) yX) fun lO =>
 aa (decide (lO < 0)) (
 cX d nO oK we yX 3 0 kM) (
 aa (decide (0<=lO)) (
 aa (Nat.blt (lO.toNat) fc.length) (
 Q1 (fc[lO.toNat]?) fun LF =>
 Q8 (kE d s9 cQ fc kK iA pU fQ lM g_ lO (gZ d nO oK we kM yX LF)) Qc 0) none) none)) none) (
 yY we oK kM)) s.1 s.2.1 s.2.2
noncomputable def rU (d:Nat) (x1:t2) (s9:ByteArray) (cQ:Int) (fc:List t1) (kK iA pU fQ:List Int) (lM:List t4) (g_:List Int) (yZ:(List Int)->(List (List t5))->Option t8) (Gg:t12->Option t8) (s:t12):Option t8 :=
(fun (v_:List Int) Er (y_:List (List t5)) =>
 aa (decide (Er < (x1.2.2.1.length:Int))) (
 aa (decide (0<=Er)) (
 Q1 (x1.2.2.1[Er.toNat]?) fun wg =>
 Q8 (rT d s9 cQ fc kK iA pU fQ lM g_ wg (DV d Gg Er)) Qc (v_,0,y_)) none) (
 yZ v_ y_)) s.1 s.2.1 s.2.2
noncomputable def w_ (d:Nat) (x1:t2) (s9:ByteArray) (cQ iB su:Int) (fc:List t1) (kK iA pU fQ:List Int) (lM:List t4) (g_ dX eU:List Int) (F_:List (List t5)):Option t8 :=
 Q8 (rU d x1 s9 cQ fc kK iA pU fQ lM g_ (LD d s9 cQ iB su fc kK iA pU fQ lM g_ dX eU)) Qc ([],0,F_)
noncomputable def xd (d:Nat) (x1:t2) (r7:List Int) (za:ByteArray->Int->Int->Int->(List t1)->(List Int)->(List Int)->(List Int)->(List Int)->(List t4)->(List Int)->(List Int)->(List Int)->(List (List t5))->Option t8) (oL:(Int×t2)->Option t8) (s:(Int×t2)):Option t8 :=
(fun n9 (aR:t2) =>
 aa (decide (n9 < (r7.length:Int))) (
 aa (decide (0<=n9)) (
 aa (Nat.blt (n9.toNat) r7.length) (
 Q1 (r7[n9.toNat]?) fun iB =>
 aa (decide (0<=iB)) (
 aa (Nat.blt (iB.toNat) aR.1.2.1.length) (
 Q1 (aR.1.2.1[iB.toNat]?) fun dy =>
 Q1 (FP (d+1) x1) fun pV =>
 aa (dy.1==pV) (
 oL ((i64.wrap (n9+1)),(aR.1,aR.2.1,aR.2.2.1,n9,aR.2.2.2.2))) (
 oL ((i64.wrap (n9+1)),aR))) none) none) none) none) (
 za aR.1.1 aR.1.2.2.2.2.2.2.2.2 aR.2.2.2.1 aR.2.2.2.2 aR.1.2.1 aR.1.2.2.1 aR.1.2.2.2.1 aR.1.2.2.2.2.1 aR.1.2.2.2.2.2.1 aR.1.2.2.2.2.2.2.1 aR.1.2.2.2.2.2.2.2.1 aR.2.1.1 aR.2.1.2 aR.2.2.1)) s.1 s.2
noncomputable def w9 (d:Nat) (x1 r3:t2) (l5 l6:List Int):Option t8 :=
 Q1 (Ep (d+1) r3.1) fun r7 =>
 Q8 (xd d x1 r7 (w_ d x1)) Qc (0,(r3.1,(l5,l6),r3.2.2.1,r3.2.2.2.1,x1.2.2.2.2))
noncomputable def rS (d:Nat) (x1 r3:t2) (zb:(List Int)->(List Int)->Option t8) (iH:t17->Option t8) (s:t17):Option t8 :=
(fun n5 (l6:List Int) (l7:List Int) =>
 aa (decide (n5 < (r3.1.2.1.length:Int))) (
 aa (decide (0<=n5)) (
 aa (Nat.blt (n5.toNat) r3.1.2.1.length) (
 Q1 (r3.1.2.1[n5.toNat]?) fun x8 =>
 Q1 (T2 (d+1) x1.1 x8.1) fun r9 =>
 aa (decide (r9>=0)) (
 aa (decide (0<=r9)) (
 Q1 (x1.2.1.1[r9.toNat]?) fun cQ =>
 Q1 (Cq (d+1) cQ x8.2.2.2.2.1) fun gz =>
 aa (decide (0<=n5)) (
 aa (Nat.blt (n5.toNat) l6.length) (
 Q1 (l6[n5.toNat]?) fun su =>
 aa (decide (0<=r9)) (
 Q1 (x1.2.1.2[r9.toNat]?) fun j4 =>
 Q1 (Cq (d+1) j4 x8.2.2.2.2.2.1) fun jN =>
 aa (decide (0<=n5)) (
 aa (Nat.blt (n5.toNat) l7.length) (
 Q1 (l7[n5.toNat]?) fun eV =>
 iH ((i64.wrap (n5+1)),(l6.set (n5.toNat) gz),(l7.set (n5.toNat) jN))) none) none) none) none) none) none) (
 iH ((i64.wrap (n5+1)),l6,l7))) none) none) (
 zb l6 l7)) s.1 s.2.1 s.2.2
theorem e65 (d:Nat) (x1:t2) (x2:t3):SE (d+2) x1 x2 =
 Q1 (Sx (d+1) x2) fun r3 =>
 Q8 (rS d x1 r3 (w9 d x1 r3)) Qc (0,r3.2.1.1,r3.2.1.2):=by kernel_rfl
theorem ZV (d:Nat) (x1:t2) (x2:t3) (b3:Bool):K9 (d+1) x1 x2 b3 =
 aa (!b3) (
 some ((((⟨#[]⟩:ByteArray),[],[],[],[],[],[],[],0),([],[]),[],0,0),[],false)) (
 Q1 (Jk d x2) fun r4 =>
 aa (!r4) (
 some ((((⟨#[]⟩:ByteArray),[],[],[],[],[],[],[],0),([],[]),[],0,0),[],false)) (
 Q1 (SE d x1 x2) fun r5 =>
 some (r5.1,r5.2,true))):=by kernel_rfl
theorem e61 (d:Nat) (x1:t3):SM (d+1) x1 =
 aa (Nat.ble ((([]:List t1).length+x1.2.1.length)*64) Q7) (
 aa (Nat.ble ((([]:List t4).length+x1.2.2.1.length)*40) Q7) (
 some (x1.1,(([]:List t1)++x1.2.1),(([]:List t4)++x1.2.2.1),x1.2.2.2)) none) none:=by kernel_rfl
theorem e63 (d:Nat) (x1:t3):K_ (d+1) x1 =
 Q1 (Jk d x1) fun r2 =>
 aa (!r2) (
 some (((⟨#[]⟩:ByteArray),([]:List t1),([]:List t4),0),false)) (
 some (x1,true)):=by kernel_rfl
theorem e46 (d:Nat) (x1:t3) (x2:t1):S3 (d+1) x1 x2 =
 Q1 (Jk d x1) fun r3 =>
 aa (!r3) (
 some (((⟨#[]⟩:ByteArray),([]:List t1),([]:List t4),0),false)) (
 Q1 (SM d x1) fun r4 =>
 Q1 (Em d r4 x2.2.1) fun r5 =>
 aa (decide (r5>=0)) (
 aa (decide (0<=r5)) (
 aa (Nat.blt (r5.toNat) r4.2.1.length) (
 Q1 (r4.2.1[r5.toNat]?) fun x6 =>
 Q1 (Ji d (r4.2.1.set (r5.toNat) (x6.1,x6.2.1,x6.2.2.1,x6.2.2.2.1,x6.2.2.2.2.1,x6.2.2.2.2.2.1,x6.2.2.2.2.2.2.1,0)) x2) fun r7 =>
 Q1 (K_ d (r4.1,r7,r4.2.2)) fun r8 =>
 some (r8.1,r8.2)) none) none) (
 Q1 (Ji d r4.2.1 x2) fun r9 =>
 Q1 (K_ d (r4.1,r9,r4.2.2)) fun oJ =>
 some (oJ.1,oJ.2))):=by kernel_rfl
theorem e18 (d:Nat) (x1:t2) (x2:t1):g18 (d+1) x1 x2 =
 Q1 (g24 d x1) fun r3 =>
 aa (!r3) (
 some ((((⟨#[]⟩:ByteArray),[],[],[],[],[],[],[],0),([],[]),[],0,0),[],false)) (
 Q1 (O1 d x1.1) fun r4 =>
 Q1 (S3 d r4 x2) fun r5 =>
 Q1 (K9 d x1 r5.1 r5.2) fun r6 =>
 some (r6.1,r6.2.1,r6.2.2)):=by kernel_rfl
theorem T5 (d:Nat) (n1:Int):Gi (d+1) n1 =
 aa (decide (n1>=97)) (
 some (decide (n1<=122))) (
 some false):=by kernel_rfl
noncomputable def Gj (d:Nat) (b3:Bool):Option Bool :=
 some false
noncomputable def pX (d:Nat) (s1:ByteArray) (tY:Bool->Option Bool) (bW:t9->Option Bool) (s:t9):Option Bool :=
(fun (b3:Bool) n4 =>
 aa (decide (n4 < 14)) (
 aa (decide (0<=n4)) (
 Q1 (([(⟨#[113,100,105,115,99]⟩:ByteArray),(⟨#[100,101,102,97,117,108,116]⟩:ByteArray),(⟨#[99,108,97,115,115]⟩:ByteArray),(⟨#[114,97,116,101]⟩:ByteArray),(⟨#[99,101,105,108]⟩:ByteArray),(⟨#[98,117,114,115,116]⟩:ByteArray),(⟨#[99,98,117,114,115,116]⟩:ByteArray),(⟨#[112,114,105,111]⟩:ByteArray),(⟨#[108,105,109,105,116]⟩:ByteArray),(⟨#[102,105,108,116,101,114]⟩:ByteArray),(⟨#[115,111,117,114,99,101]⟩:ByteArray),(⟨#[100,101,115,116]⟩:ByteArray),(⟨#[112,111,114,116]⟩:ByteArray),(⟨#[109,97,114,107]⟩:ByteArray)]:List ByteArray)[n4.toNat]?) fun s5 =>
 aa (s5.toList==s1.toList) (
 some true) (
 bW (b3,(i64.wrap (n4+1))))) none) (
 tY b3)) s.1 s.2
theorem T6 (d:Nat) (s1:ByteArray):Gk (d+1) s1 =
 Q8 (pX d s1 (Gj d)) Qc (false,0):=by kernel_rfl
noncomputable def pY (d:Nat) (s1:ByteArray) (b4:Bool):Option Bool :=
 Q1 (Gk d s1) fun r5 =>
 some (!r5)
noncomputable def pZ (d:Nat) (s1:ByteArray) (tZ:Bool->Option Bool) (bM:t9->Option Bool) (s:t9):Option Bool :=
(fun (b4:Bool) n5 =>
 aa (decide (n5 < (s1.size:Int))) (
 aa (decide (0<=n5)) (
 Q1 (s1.data.toList[n5.toNat]?) fun c6 =>
 Q1 (Gi d (c6.toNat:Int)) fun r7 =>
 aa (!r7) (
 some false) (
 bM (b4,(i64.wrap (n5+1))))) none) (
 tZ b4)) s.1 s.2
noncomputable def p5 (d:Nat) (s1:ByteArray) (b2:Bool):Option Bool :=
 aa b2 (
 some false) (
 Q8 (pZ d s1 (pY d s1)) Qc (false,0))
theorem T7 (d:Nat) (s1:ByteArray):Gl (d+1) s1 =
 aa (decide (((s1.size:Int):Int) < 1)) (
 p5 d s1 true) (
 p5 d s1 (decide (((s1.size:Int):Int) > 8))):=by kernel_rfl
theorem T8 (d:Nat) (n1:Int):Gm (d+1) n1 =
 aa (decide (n1>=1)) (
 some (decide (n1<=999))) (
 some false):=by kernel_rfl
noncomputable def zc (d:Nat) (x1:t3) (b3:Bool):Option Bool :=
 aa (decide ((x1.2.1.length:Int)>=1)) (
 some (decide ((x1.2.1.length:Int)<=24))) (
 some false)
noncomputable def p6 (d:Nat) (x1:t3) (t_:Bool->Option Bool) (bW:t9->Option Bool) (s:t9):Option Bool :=
(fun (b3:Bool) n4 =>
 aa (decide (n4 < (x1.2.1.length:Int))) (
 aa (decide (0<=n4)) (
 Q1 (x1.2.1[n4.toNat]?) fun x5 =>
 Q1 (Gm d x5.1) fun r6 =>
 aa (!r6) (
 some false) (
 aa (decide (n4 > 0)) (
 aa (decide (0<=((i64.wrap (n4 - 1)):Int))) (
 Q1 (x1.2.1[((i64.wrap (n4 - 1)):Int).toNat]?) fun x7 =>
 aa (decide (x5.1<=x7.1)) (
 some false) (
 bW (b3,(i64.wrap (n4+1))))) none) (
 bW (b3,(i64.wrap (n4+1)))))) none) (
 t_ b3)) s.1 s.2
theorem T9 (d:Nat) (x1:t3):Gn (d+1) x1 =
 Q8 (p6 d x1 (zc d x1)) Qc (false,0):=by kernel_rfl
noncomputable def ua (d:Nat) (n4:Int):Option Int :=
 some (-1)
noncomputable def hO (d:Nat) (x1:t3) (n2:Int) (lQ:Int->Option Int) (bM:t10->Option Int) (s:t10):Option Int :=
(fun n4 n5 =>
 aa (decide (n5 < (x1.2.1.length:Int))) (
 aa (decide (0<=n5)) (
 Q1 (x1.2.1[n5.toNat]?) fun x6 =>
 aa (x6.1==n2) (
 some n5) (
 bM (n4,(i64.wrap (n5+1))))) none) (
 lQ n4)) s.1 s.2
theorem e74 (d:Nat) (x1:t3) (n2:Int):Jm (d+3) x1 n2 =
 Q8 (hO d x1 n2 (ua d)) Qc (0,0):=by kernel_rfl
noncomputable def Gp (d:Nat) (l3:List Int):Option (List Int) :=
 some l3
noncomputable def p7 (d:Nat) (bW:t16->Option (List Int)) (l3:List Int) (n4:Int) (b6 b7:Bool):Option (List Int) :=
 aa b7 (
 aa (Nat.ble ((l3.length+[n4].length)*8) Q7) (
 bW ((l3++[n4]),(i64.wrap (n4+1)))) none) (
 bW (l3,(i64.wrap (n4+1))))
noncomputable def p8 (d:Nat) (x1:t3) (uc:(List Int)->Option (List Int)) (bW:t16->Option (List Int)) (s:t16):Option (List Int) :=
(fun (l3:List Int) n4 =>
 aa (decide (n4 < (x1.2.1.length:Int))) (
 aa (decide (0<=n4)) (
 Q1 (x1.2.1[n4.toNat]?) fun x5 =>
 aa (x5.2.1 != 0) (
 Q1 (Jm d x1 x5.2.1) fun r6 =>
 p7 d bW l3 n4 true (decide (r6 < 0))) (
 p7 d bW l3 n4 false false)) none) (
 uc l3)) s.1 s.2
theorem T_ (d:Nat) (x1:t3):Gq (d+1) x1 =
 Q8 (p8 d x1 (Gp d)) Qc (([]:List Int),0):=by kernel_rfl
noncomputable def p9 (d:Nat) (x1:t3) (n3:Int):Option Bool :=
 aa (n3==1) (
 Q1 (Gq d x1) fun r4 =>
 some ((r4.length:Int)==0)) (
 some false)
noncomputable def p_ (d:Nat) (x1:t3) (ud:Int->Option Bool) (bW:t10->Option Bool) (s:t10):Option Bool :=
(fun n3 n4 =>
 aa (decide (n4 < (x1.2.1.length:Int))) (
 aa (decide (0<=n4)) (
 Q1 (x1.2.1[n4.toNat]?) fun x5 =>
 aa (x5.2.1==0) (
 bW ((i64.wrap (n3+1)),(i64.wrap (n4+1)))) (
 bW (n3,(i64.wrap (n4+1))))) none) (
 ud n3)) s.1 s.2
theorem T' (d:Nat) (x1:t3):Gr (d+1) x1 =
 Q8 (p_ d x1 (p9 d x1)) Qc (0,0):=by kernel_rfl
noncomputable def Gs (d:Nat) (n4:Int):Option Int :=
 some (-1)
noncomputable def qa (d:Nat) (l1:List Int) (n2:Int) (ue:Int->Option Int) (bM:t10->Option Int) (s:t10):Option Int :=
(fun n4 n5 =>
 aa (decide (n5 < (l1.length:Int))) (
 aa (decide (0<=n5)) (
 Q1 (l1[n5.toNat]?) fun n6 =>
 aa (n2==n6) (
 some n5) (
 bM (n4,(i64.wrap (n5+1))))) none) (
 ue n4)) s.1 s.2
theorem Uc (d:Nat) (l1:List Int) (n2:Int):zd (d+1) l1 n2 =
 Q8 (qa d l1 n2 (Gs d)) Qc (0,0):=by kernel_rfl
theorem Ud (d:Nat) (l1:List Int) (n2:Int):Gt (d+1) l1 n2 =
 Q1 (zd d l1 n2) fun r3 =>
 some (decide (r3>=0)):=by kernel_rfl
noncomputable def ze (d:Nat) (b4:Bool) (l5 l6:List Int):Option ((List Int)×Bool) :=
 some (l6,true)
noncomputable def zf (d:Nat) (x1:t3) (ug:Bool->(List Int)->(List Int)->Option ((List Int)×Bool)) (bM:(Int×(List Int)×Bool×(List Int))->Option ((List Int)×Bool)) (s:(Int×(List Int)×Bool×(List Int))):Option ((List Int)×Bool) :=
(fun n4 (l5:List Int) (b6:Bool) (l7:List Int) =>
 aa (decide (n4>=0)) (
 Q1 (Gt d l7 n4) fun r8 =>
 aa r8 (
 some (l7,false)) (
 aa (Nat.ble ((l7.length+[n4].length)*8) Q7) (
 aa (decide (0<=n4)) (
 Q1 (x1.2.1[n4.toNat]?) fun x9 =>
 Q1 (Jm d x1 x9.2.1) fun oJ =>
 bM (oJ,l5,b6,(l7++[n4]))) none) none)) (
 ug b6 l5 l7)) s.1 s.2.1 s.2.2.1 s.2.2.2
theorem Ue (d:Nat) (x1:t3) (n2:Int):Gu (d+1) x1 n2 =
 Q8 (zf d x1 (ze d)) Qc (n2,[],false,([]:List Int)):=by kernel_rfl
noncomputable def Gv (d:Nat) (b3:Bool):Option Bool :=
 some true
noncomputable def qb (d:Nat) (x1:t3) (uh:Bool->Option Bool) (bW:t9->Option Bool) (s:t9):Option Bool :=
(fun (b3:Bool) n4 =>
 aa (decide (n4 < (x1.2.1.length:Int))) (
 Q1 (Gu d x1 n4) fun r5 =>
 aa (!r5.2) (
 some false) (
 aa (decide ((r5.1.length:Int) > 8)) (
 some false) (
 aa (decide (0<=((i64.wrap ((r5.1.length:Int) - 1)):Int))) (
 aa (Nat.blt (((i64.wrap ((r5.1.length:Int) - 1)):Int).toNat) r5.1.length) (
 Q1 (r5.1[((i64.wrap ((r5.1.length:Int) - 1)):Int).toNat]?) fun n6 =>
 aa (decide (0<=n6)) (
 Q1 (x1.2.1[n6.toNat]?) fun x7 =>
 aa (x7.2.1 != 0) (
 some false) (
 bW (b3,(i64.wrap (n4+1))))) none) none) none))) (
 uh b3)) s.1 s.2
theorem Uf (d:Nat) (x1:t3):Gw (d+1) x1 =
 Q8 (qb d x1 (Gv d)) Qc (false,0):=by kernel_rfl
theorem Ug (d:Nat) (x1:t1):Gx (d+1) x1 =
 aa (decide (x1.2.2.1>=1)) (
 aa (decide (x1.2.2.1<=100000)) (
 aa (decide (x1.2.2.2.1>=x1.2.2.1)) (
 some (decide (x1.2.2.2.1<=100000))) (
 some false)) (
 some false)) (
 some false):=by kernel_rfl
noncomputable def jk (d:Nat) (n3:Int):Option Bool :=
 some (!(decide (((-1):Int)>=0)))
noncomputable def dN (d:Nat) (x1:t3) (gB:Int->Option Bool) (bW:t10->Option Bool) (s:t10):Option Bool :=
(fun n3 n4 =>
 aa (decide (n4 < (x1.2.1.length:Int))) (
 aa (decide (0<=n4)) (
 Q1 (x1.2.1[n4.toNat]?) fun x5 =>
 aa (decide (x5.2.2.1 < 0)) (
 some (!(decide (n4>=0)))) (
 aa (decide (x5.2.2.1 > 1000000000)) (
 some (!(decide (n4>=0)))) (
 bW (n3,(i64.wrap (n4+1)))))) none) (
 gB n3)) s.1 s.2
theorem Uh (d:Nat) (x1:t3):Gy (d+4) x1 =
 Q8 (dN d x1 (jk d)) Qc (0,0):=by kernel_rfl
noncomputable def Gz (d:Nat) (l4:List Int):Option (List Int) :=
 some l4
noncomputable def qc (d:Nat) (x1:t3) (n2:Int) (uj:(List Int)->Option (List Int)) (bM:t16->Option (List Int)) (s:t16):Option (List Int) :=
(fun (l4:List Int) n5 =>
 aa (decide (n5 < (x1.2.1.length:Int))) (
 aa (decide (0<=n5)) (
 Q1 (x1.2.1[n5.toNat]?) fun x6 =>
 aa (decide (0<=n2)) (
 Q1 (x1.2.1[n2.toNat]?) fun x7 =>
 aa (x6.2.1==x7.1) (
 aa (Nat.ble ((l4.length+[n5].length)*8) Q7) (
 bM ((l4++[n5]),(i64.wrap (n5+1)))) none) (
 bM (l4,(i64.wrap (n5+1))))) none) none) (
 uj l4)) s.1 s.2
theorem Ui (d:Nat) (x1:t3) (n2:Int):zg (d+1) x1 n2 =
 Q8 (qc d x1 n2 (Gz d)) Qc (([]:List Int),0):=by kernel_rfl
noncomputable def GA (d:Nat) (n5:Int):Option Int :=
 some n5
noncomputable def qd (d:Nat) (x1:t3) (r3:List Int) (uk:Int->Option Int) (iH:t10->Option Int) (s:t10):Option Int :=
(fun n5 n6 =>
 aa (decide (n6 < (r3.length:Int))) (
 aa (decide (0<=n6)) (
 aa (Nat.blt (n6.toNat) r3.length) (
 Q1 (r3[n6.toNat]?) fun n7 =>
 aa (decide (0<=n7)) (
 Q1 (x1.2.1[n7.toNat]?) fun x8 =>
 iH ((i64.wrap (n5+x8.2.2.1)),(i64.wrap (n6+1)))) none) none) none) (
 uk n5)) s.1 s.2
theorem Uj (d:Nat) (x1:t3) (n2:Int):GB (d+1) x1 n2 =
 Q1 (zg d x1 n2) fun r3 =>
 Q8 (qd d x1 r3 (GA d)) Qc (0,0):=by kernel_rfl
noncomputable def GC (d:Nat) (l3:List Int):Option (List Int) :=
 some l3
noncomputable def qe (d:Nat) (x1:t3) (um:(List Int)->Option (List Int)) (bW:t16->Option (List Int)) (s:t16):Option (List Int) :=
(fun (l3:List Int) n4 =>
 aa (decide (n4 < (x1.2.1.length:Int))) (
 aa (decide (0<=n4)) (
 Q1 (x1.2.1[n4.toNat]?) fun x5 =>
 Q1 (GB d x1 n4) fun r6 =>
 aa (decide (r6 > x5.2.2.1)) (
 aa (Nat.ble ((l3.length+[n4].length)*8) Q7) (
 bW ((l3++[n4]),(i64.wrap (n4+1)))) none) (
 bW (l3,(i64.wrap (n4+1))))) none) (
 um l3)) s.1 s.2
theorem Uk (d:Nat) (x1:t3):GD (d+1) x1 =
 Q8 (qe d x1 (GC d)) Qc (([]:List Int),0):=by kernel_rfl
theorem Ul (d:Nat) (x1:t1):GF (d+1) x1 =
 aa (decide (x1.2.2.2.2.1>=1500)) (
 aa (decide (x1.2.2.2.2.1<=1000000)) (
 aa (decide (x1.2.2.2.2.2.1>=1500)) (
 aa (decide (x1.2.2.2.2.2.1<=1000000)) (
 aa (decide (x1.2.2.2.2.2.2.1>=0)) (
 some (decide (x1.2.2.2.2.2.2.1<=7))) (
 some false)) (
 some false)) (
 some false)) (
 some false)) (
 some false):=by kernel_rfl
noncomputable def j5 (d:Nat) (n4:Int):Option Bool :=
 some (!(decide (((-1):Int)>=0)))
noncomputable def er (d:Nat) (x1:t3) (n2:Int) (hU:Int->Option Bool) (bM:t10->Option Bool) (s:t10):Option Bool :=
(fun n4 n5 =>
 aa (decide (n5 < (x1.2.1.length:Int))) (
 aa (decide (0<=n5)) (
 Q1 (x1.2.1[n5.toNat]?) fun x6 =>
 aa (decide (0<=n2)) (
 Q1 (x1.2.1[n2.toNat]?) fun x7 =>
 aa (x6.2.1==x7.1) (
 some (!(decide (n5>=0)))) (
 bM (n4,(i64.wrap (n5+1))))) none) none) (
 hU n4)) s.1 s.2
theorem e75 (d:Nat) (x1:t3) (n2:Int):GG (d+4) x1 n2 =
 Q8 (er d x1 n2 (j5 d)) Qc (0,0):=by kernel_rfl
theorem Um (d:Nat) (x1:t3) (n2:Int):GH (d+1) x1 n2 =
 aa (decide (0<=n2)) (
 Q1 (x1.2.1[n2.toNat]?) fun x3 =>
 Q1 (GG d x1 n2) fun r4 =>
 aa r4 (
 aa (decide (x3.2.2.2.2.2.2.2>=1)) (
 some (decide (x3.2.2.2.2.2.2.2<=60))) (
 some false)) (
 some (x3.2.2.2.2.2.2.2==0))) none:=by kernel_rfl
theorem Un (d:Nat) (x1:t3) (n2:Int):zh (d+1) x1 n2 =
 Q1 (Jm d x1 n2) fun r3 =>
 aa (decide (r3>=0)) (
 Q1 (GG d x1 r3) fun r4 =>
 some r4) (
 some false):=by kernel_rfl
theorem Uo (d:Nat) (x1:t4):GI (d+1) x1 =
 aa (decide (x1.1>=1)) (
 aa (decide (x1.1<=99)) (
 aa (decide (x1.2.1>=0)) (
 aa (decide (x1.2.1<=3)) (
 aa (decide (x1.2.2.1>=0)) (
 aa (decide (x1.2.2.1<=65535)) (
 aa (decide (x1.2.2.2.1>=0)) (
 aa (decide (x1.2.2.2.1<=65535)) (
 some (((i64.wrap ((BitVec.ofInt i64.bits x1.2.2.2.1 &&& ~~~BitVec.ofInt i64.bits x1.2.2.1).toNat:Int)):Int)==0)) (
 some false)) (
 some false)) (
 some false)) (
 some false)) (
 some false)) (
 some false)) (
 some false)) (
 some false):=by kernel_rfl
noncomputable def zi (d:Nat) (x1:t3) (b3:Bool):Option Bool :=
 some (decide ((x1.2.2.1.length:Int)<=16))
noncomputable def jl (d:Nat) (bW:t9->Option Bool) (b3:Bool) (n4:Int) (b6 b7 b8 b9 F2 yu:Bool):Option Bool :=
 aa yu (
 some false) (
 bW (b3,(i64.wrap (n4+1))))
noncomputable def qf (d:Nat) (x1:t3) (uo:Bool->Option Bool) (bW:t9->Option Bool) (s:t9):Option Bool :=
(fun (b3:Bool) n4 =>
 aa (decide (n4 < (x1.2.2.1.length:Int))) (
 aa (decide (0<=n4)) (
 Q1 (x1.2.2.1[n4.toNat]?) fun x5 =>
 Q1 (GI d x5) fun r6 =>
 aa (!r6) (
 jl d bW b3 n4 r6 (!r6) true true true true) (
 aa (decide (n4 > 0)) (
 aa (decide (0<=((i64.wrap (n4 - 1)):Int))) (
 Q1 (x1.2.2.1[((i64.wrap (n4 - 1)):Int).toNat]?) fun x7 =>
 aa (decide (x5.1<=x7.1)) (
 jl d bW b3 n4 r6 (!r6) false (decide (x5.1<=x7.1)) true true) (
 Q1 (zh d x1 x5.2.2.2.2) fun r8 =>
 jl d bW b3 n4 r6 (!r6) false (decide (x5.1<=x7.1)) false (!r8))) none) (
 Q1 (zh d x1 x5.2.2.2.2) fun r9 =>
 jl d bW b3 n4 r6 (!r6) false false false (!r9)))) none) (
 uo b3)) s.1 s.2
theorem Up (d:Nat) (x1:t3):GJ (d+1) x1 =
 Q8 (qf d x1 (zi d x1)) Qc (false,0):=by kernel_rfl
noncomputable def jm (d:Nat) (n8:Int):Option Bool :=
 some (!(decide (((-1):Int)>=0)))
noncomputable def dO (d:Nat) (x1:t3) (cK:Int->Option Bool) (Uq:t10->Option Bool) (s:t10):Option Bool :=
(fun n8 n9 =>
 aa (decide (n9 < (x1.2.1.length:Int))) (
 aa (decide (0<=n9)) (
 Q1 (x1.2.1[n9.toNat]?) fun aR =>
 Q1 (Gx d aR) fun gz =>
 aa (!gz) (
 some (!(decide (n9>=0)))) (
 Uq (n8,(i64.wrap (n9+1))))) none) (
 cK n8)) s.1 s.2
noncomputable def jn (d:Nat) (eV:Int):Option Bool :=
 some (!(decide (((-1):Int)>=0)))
noncomputable def dz (d:Nat) (x1:t3) (cK:Int->Option Bool) (gC:t10->Option Bool) (s:t10):Option Bool :=
(fun eV cT =>
 aa (decide (cT < (x1.2.1.length:Int))) (
 aa (decide (0<=cT)) (
 Q1 (x1.2.1[cT.toNat]?) fun x17 =>
 Q1 (GF d x17) fun yS =>
 aa (!yS) (
 some (!(decide (cT>=0)))) (
 gC (eV,(i64.wrap (cT+1))))) none) (
 cK eV)) s.1 s.2
noncomputable def GK (d:Nat) (Lv:Bool):Option Bool :=
 some true
noncomputable def qg (d:Nat) (x1:t3) (uq:Bool->Option Bool) (Ur:t9->Option Bool) (s:t9):Option Bool :=
(fun (Lv:Bool) pP =>
 aa (decide (pP < (x1.2.1.length:Int))) (
 Q1 (GH (d+3) x1 pP) fun sw =>
 aa (!sw) (
 some false) (
 Ur (Lv,(i64.wrap (pP+1))))) (
 uq Lv)) s.1 s.2
theorem Bo (d:Nat) (x1:t3) (n2:Int):h_ (d+4) x1 n2 =
 aa (n2==1) (
 Q1 (Gl (d+3) x1.1) fun r3 =>
 some r3) (
 aa (n2==2) (
 Q1 (Gn (d+3) x1) fun r4 =>
 some r4) (
 aa (n2==3) (
 Q1 (Gr (d+3) x1) fun r5 =>
 some r5) (
 aa (n2==4) (
 Q1 (Gw (d+3) x1) fun r6 =>
 some r6) (
 aa (n2==5) (
 Q8 (dO d x1 (jm d)) Qc (0,0)) (
 aa (n2==6) (
 Q1 (Gy (d+3) x1) fun mZ =>
 aa mZ (
 Q1 (GD (d+3) x1) fun pV =>
 some ((pV.length:Int)==0)) (
 some false)) (
 aa (n2==7) (
 Q8 (dz d x1 (jn d)) Qc (0,0)) (
 aa (n2==8) (
 Q8 (qg d x1 (GK d)) Qc (false,0)) (
 aa (n2==9) (
 Q1 (GJ (d+3) x1) fun Bp =>
 some Bp) (
 aa (x1.2.2.2==0) (
 some true) (
 Q1 (zh (d+3) x1 x1.2.2.2) fun Sv =>
 some Sv)))))))))):=by kernel_rfl
noncomputable def gD (d:Nat) (b4:Bool):Option Bool :=
 some true
noncomputable def fA (d:Nat) (x1:t3) (zj:Bool->Option Bool) (bM:t9->Option Bool) (s:t9):Option Bool :=
(fun (b4:Bool) n5 =>
 aa (decide (n5<=10)) (
 Q1 (h_ d x1 n5) fun r6 =>
 aa (!r6) (
 some false) (
 bM (b4,(i64.wrap (n5+1))))) (
 zj b4)) s.1 s.2
noncomputable def zl (d:Nat) (x1:t3) (b2:Bool):Option Bool :=
 aa b2 (
 some false) (
 Q8 (fA d x1 (gD d)) Qc (false,1))
theorem e73 (d:Nat) (x1:t3):Jn (d+1) x1 =
 aa (decide ((x1.2.1.length:Int) > 24)) (
 zl d x1 true) (
 zl d x1 (decide ((x1.2.2.1.length:Int) > 16))):=by kernel_rfl
theorem Us (d:Nat) (l1:List t1):Cr (d+1) l1 =
 Jo l1.length (
 some []) (
 aa (Nat.ble ((([]:List t1).length+l1.length)*64) Q7) (
 some (([]:List t1)++l1)) none):=by kernel_rfl
theorem Ut (d:Nat) (l1:List t4):zm (d+1) l1 =
 Jo l1.length (
 some []) (
 aa (Nat.ble ((([]:List t4).length+l1.length)*40) Q7) (
 some (([]:List t4)++l1)) none):=by kernel_rfl
theorem e76 (d:Nat) (x1:t3):SK (d+1) x1 =
 Q1 (Cr d x1.2.1) fun r2 =>
 Q1 (zm d x1.2.2.1) fun r3 =>
 some (x1.1,r2,r3,x1.2.2.2):=by kernel_rfl
theorem e77 (d:Nat) (x1:t3):SJ (d+1) x1 =
 Q1 (Jn d x1) fun r2 =>
 aa (!r2) (
 some (((⟨#[]⟩:ByteArray),([]:List t1),([]:List t4),0),false)) (
 some (x1,true)):=by kernel_rfl
theorem Uu (d:Nat) (n1 n2:Int):qh (d+1) n1 n2 =
 aa (decide (n1 < n2)) (
 some (-1)) (
 aa (decide (n1 > n2)) (
 some 1) (
 some 0)):=by kernel_rfl
noncomputable def qi (d:Nat) (l6:List t1):Option (List t1) :=
 some l6
noncomputable def qj (d:Nat) (fZ:t13->Option (List t1)) (n6 n9 cQ:Int) (yu F3:Bool) (fc:List t1):Option (List t1) :=
 fZ ((i64.wrap (n6+1)),fc)
noncomputable def lR (d:Nat) (fG:Int->Int->Bool->Bool->(List t1)->Option (List t1)) (n2:Int) (oL:t13->Option (List t1)) (n9:Int) (l10:List t1) (yu F3:Bool):Option (List t1) :=
 aa F3 (
 aa (decide (0<=((i64.wrap (n9 - 1)):Int))) (
 aa (Nat.blt (((i64.wrap (n9 - 1)):Int).toNat) l10.length) (
 Q1 (l10[((i64.wrap (n9 - 1)):Int).toNat]?) fun fP =>
 aa (decide (0<=n9)) (
 aa (Nat.blt (n9.toNat) l10.length) (
 Q1 (l10[n9.toNat]?) fun kH =>
 aa (decide (0<=n9)) (
 aa (Nat.blt (n9.toNat) l10.length) (
 Q1 (l10[n9.toNat]?) fun O4 =>
 aa (decide (0<=((i64.wrap (n9 - 1)):Int))) (
 aa (Nat.blt (((i64.wrap (n9 - 1)):Int).toNat) ((l10.set (n9.toNat) fP).length)) (
 Q1 ((l10.set (n9.toNat) fP)[((i64.wrap (n9 - 1)):Int).toNat]?) fun nN =>
 oL ((i64.wrap (n9 - 1)),((l10.set (n9.toNat) fP).set (((i64.wrap (n9 - 1)):Int).toNat) kH))) none) none) none) none) none) none) none) none) (
 fG n9 n9 (decide (n9 > n2)) yu l10)
noncomputable def zn (d:Nat) (n2:Int) (fG:Int->Int->Bool->Bool->(List t1)->Option (List t1)) (oL:t13->Option (List t1)) (s:t13):Option (List t1) :=
(fun n9 (l10:List t1) =>
 aa (decide (n9 > n2)) (
 aa (decide (0<=n9)) (
 aa (Nat.blt (n9.toNat) l10.length) (
 Q1 (l10[n9.toNat]?) fun bN =>
 aa (decide (0<=((i64.wrap (n9 - 1)):Int))) (
 aa (Nat.blt (((i64.wrap (n9 - 1)):Int).toNat) l10.length) (
 Q1 (l10[((i64.wrap (n9 - 1)):Int).toNat]?) fun dy =>
 Q1 (qh d bN.1 dy.1) fun pV =>
 lR d fG n2 oL n9 l10 true (decide (pV < 0))) none) none) none) none) (
 lR d fG n2 oL n9 l10 false false)) s.1 s.2
noncomputable def qk (d:Nat) (n2 n3:Int) (ur:(List t1)->Option (List t1)) (fZ:t13->Option (List t1)) (s:t13):Option (List t1) :=
(fun n6 (l7:List t1) =>
 aa (decide (n6 < n3)) (
 Q8 (zn d n2 (qj d fZ n6)) Qc (n6,l7)) (
 ur l7)) s.1 s.2
theorem Uv (d:Nat) (l1:List t1) (n2 n3:Int) (b4:Bool):Cs (d+2) l1 n2 n3 b4 =
 Q8 (qk d n2 n3 (qi d)) Qc ((i64.wrap (n2+1)),l1):=by kernel_rfl
noncomputable def zo (d:Nat) (l7:List t1):Option (List t1) :=
 some l7
noncomputable def zq (d:Nat) (n2 n3 n4:Int) (uu:(List t1)->Option (List t1)) (gA:t13->Option (List t1)) (s:t13):Option (List t1) :=
(fun n7 (l8:List t1) =>
 aa (decide (n7 < n4)) (
 aa (decide (0<=((i64.wrap (n3+n7)):Int))) (
 aa (Nat.blt (((i64.wrap (n3+n7)):Int).toNat) l8.length) (
 Q1 (l8[((i64.wrap (n3+n7)):Int).toNat]?) fun x9 =>
 aa (decide (0<=((i64.wrap (n2+n7)):Int))) (
 aa (Nat.blt (((i64.wrap (n2+n7)):Int).toNat) l8.length) (
 Q1 (l8[((i64.wrap (n2+n7)):Int).toNat]?) fun aR =>
 aa (decide (0<=((i64.wrap (n2+n7)):Int))) (
 aa (Nat.blt (((i64.wrap (n2+n7)):Int).toNat) l8.length) (
 Q1 (l8[((i64.wrap (n2+n7)):Int).toNat]?) fun bN =>
 aa (decide (0<=((i64.wrap (n3+n7)):Int))) (
 aa (Nat.blt (((i64.wrap (n3+n7)):Int).toNat) ((l8.set (((i64.wrap (n2+n7)):Int).toNat) x9).length)) (
 Q1 ((l8.set (((i64.wrap (n2+n7)):Int).toNat) x9)[((i64.wrap (n3+n7)):Int).toNat]?) fun dy =>
 gA ((i64.wrap (n7+1)),((l8.set (((i64.wrap (n2+n7)):Int).toNat) x9).set (((i64.wrap (n3+n7)):Int).toNat) aR))) none) none) none) none) none) none) none) none) (
 uu l8)) s.1 s.2
theorem Uw (d:Nat) (l1:List t1) (n2 n3 n4:Int) (b5:Bool):zu (d+1) l1 n2 n3 n4 b5 =
 Q8 (zq d n2 n3 n4 (zo d)) Qc (0,l1):=by kernel_rfl
noncomputable def zv (d:Nat) (n3 n7:Int) (l8:List t1):Option (List t1) :=
 Q1 (zu d l8 (i64.wrap (n3 - n7)) n3 n7 false) fun r9 =>
 some r9
noncomputable def zw (d:Nat) (n3:Int) (uv:Int->(List t1)->Option (List t1)) (gA:(Int×Int×(List t1))->Option (List t1)) (s:(Int×Int×(List t1))):Option (List t1) :=
(fun n7 n8 (l9:List t1) =>
 aa (n7 != n8) (
 aa (decide (n7 > n8)) (
 Q1 (zu d l9 (i64.wrap (n3 - n7)) n3 n8 false) fun oJ =>
 gA ((i64.wrap (n7 - n8)),n8,oJ)) (
 Q1 (zu d l9 (i64.wrap (n3 - n7)) (i64.wrap ((i64.wrap (n3+n8)) - n7)) n7 false) fun gz =>
 gA (n7,(i64.wrap (n8 - n7)),gz))) (
 uv n7 l9)) s.1 s.2.1 s.2.2
theorem Ux (d:Nat) (l1:List t1) (n2 n3 n4:Int) (b5:Bool):GL (d+1) l1 n2 n3 n4 b5 =
 Q8 (zw d n3 (zv d n3)) Qc ((i64.wrap (n3 - n2)),(i64.wrap (n4 - n3)),l1):=by kernel_rfl
noncomputable def ql (d:Nat) (l9:List t1):Option (List t1) :=
 some l9
noncomputable def qm (d:Nat) (n7:Int) (uw:(List t1)->Option (List t1)) (oL:t13->Option (List t1)) (s:t13):Option (List t1) :=
(fun n9 (l10:List t1) =>
 aa (decide (n9 < (i64.wrap (n7 - 1)))) (
 aa (decide (0<=((i64.wrap (n9+1)):Int))) (
 aa (Nat.blt (((i64.wrap (n9+1)):Int).toNat) l10.length) (
 Q1 (l10[((i64.wrap (n9+1)):Int).toNat]?) fun bN =>
 aa (decide (0<=n9)) (
 aa (Nat.blt (n9.toNat) l10.length) (
 Q1 (l10[n9.toNat]?) fun dy =>
 aa (decide (0<=n9)) (
 aa (Nat.blt (n9.toNat) l10.length) (
 Q1 (l10[n9.toNat]?) fun fP =>
 aa (decide (0<=((i64.wrap (n9+1)):Int))) (
 aa (Nat.blt (((i64.wrap (n9+1)):Int).toNat) ((l10.set (n9.toNat) bN).length)) (
 Q1 ((l10.set (n9.toNat) bN)[((i64.wrap (n9+1)):Int).toNat]?) fun kH =>
 oL ((i64.wrap (n9+1)),((l10.set (n9.toNat) bN).set (((i64.wrap (n9+1)):Int).toNat) dy))) none) none) none) none) none) none) none) none) (
 uw l10)) s.1 s.2
noncomputable def lS (d:Nat) (l1:List t1) (n2 n7:Int):Option (List t1) :=
 Q8 (qm d n7 (ql d)) Qc (n2,l1)
noncomputable def qn (d:Nat) (l1:List t1) (n2:Int) (ux:Int->Option (List t1)) (gA:t10->Option (List t1)) (s:t10):Option (List t1) :=
(fun n7 n8 =>
 aa (decide (n7 < n8)) (
 aa (decide (0<=((i64.wrap ((u64.wrap (i64.wrap (n7+n8))).fdiv (2 ^ (min (1:Int).toNat u64.bits)))):Int))) (
 aa (Nat.blt (((i64.wrap ((u64.wrap (i64.wrap (n7+n8))).fdiv (2 ^ (min (1:Int).toNat u64.bits)))):Int).toNat) l1.length) (
 Q1 (l1[((i64.wrap ((u64.wrap (i64.wrap (n7+n8))).fdiv (2 ^ (min (1:Int).toNat u64.bits)))):Int).toNat]?) fun x9 =>
 aa (decide (0<=n2)) (
 aa (Nat.blt (n2.toNat) l1.length) (
 Q1 (l1[n2.toNat]?) fun aR =>
 Q1 (qh d x9.1 aR.1) fun gz =>
 aa (decide (gz < 0)) (
 gA ((i64.wrap ((i64.wrap ((u64.wrap (i64.wrap (n7+n8))).fdiv (2 ^ (min (1:Int).toNat u64.bits))))+1)),n8)) (
 gA (n7,(i64.wrap ((u64.wrap (i64.wrap (n7+n8))).fdiv (2 ^ (min (1:Int).toNat u64.bits))))))) none) none) none) none) (
 ux n7)) s.1 s.2
noncomputable def qo (d:Nat) (lM:List t1):Option (List t1) :=
 some lM
noncomputable def qp (d:Nat) (cT:Int) (uy:(List t1)->Option (List t1)) (GM:t13->Option (List t1)) (s:t13):Option (List t1) :=
(fun eK (g_:List t1) =>
 aa (decide (eK > cT)) (
 aa (decide (0<=((i64.wrap (eK - 1)):Int))) (
 aa (Nat.blt (((i64.wrap (eK - 1)):Int).toNat) g_.length) (
 Q1 (g_[((i64.wrap (eK - 1)):Int).toNat]?) fun Ct =>
 aa (decide (0<=eK)) (
 aa (Nat.blt (eK.toNat) g_.length) (
 Q1 (g_[eK.toNat]?) fun x21 =>
 aa (decide (0<=eK)) (
 aa (Nat.blt (eK.toNat) g_.length) (
 Q1 (g_[eK.toNat]?) fun Uy =>
 aa (decide (0<=((i64.wrap (eK - 1)):Int))) (
 aa (Nat.blt (((i64.wrap (eK - 1)):Int).toNat) ((g_.set (eK.toNat) Ct).length)) (
 Q1 ((g_.set (eK.toNat) Ct)[((i64.wrap (eK - 1)):Int).toNat]?) fun x23 =>
 GM ((i64.wrap (eK - 1)),((g_.set (eK.toNat) Ct).set (((i64.wrap (eK - 1)):Int).toNat) x21))) none) none) none) none) none) none) none) none) (
 uy g_)) s.1 s.2
noncomputable def lT (d:Nat) (l1:List t1) (n3 cT:Int):Option (List t1) :=
 Q8 (qp d cT (qo d)) Qc (n3,l1)
noncomputable def qq (d:Nat) (l1:List t1) (n3:Int) (uz:Int->Option (List t1)) (nL:t10->Option (List t1)) (s:t10):Option (List t1) :=
(fun cT eo =>
 aa (decide (cT < eo)) (
 aa (decide (0<=n3)) (
 aa (Nat.blt (n3.toNat) l1.length) (
 Q1 (l1[n3.toNat]?) fun f_ =>
 aa (decide (0<=((i64.wrap ((u64.wrap (i64.wrap (cT+eo))).fdiv (2 ^ (min (1:Int).toNat u64.bits)))):Int))) (
 aa (Nat.blt (((i64.wrap ((u64.wrap (i64.wrap (cT+eo))).fdiv (2 ^ (min (1:Int).toNat u64.bits)))):Int).toNat) l1.length) (
 Q1 (l1[((i64.wrap ((u64.wrap (i64.wrap (cT+eo))).fdiv (2 ^ (min (1:Int).toNat u64.bits)))):Int).toNat]?) fun nJ =>
 Q1 (qh d f_.1 nJ.1) fun Co =>
 aa (!(decide (Co < 0))) (
 nL ((i64.wrap ((i64.wrap ((u64.wrap (i64.wrap (cT+eo))).fdiv (2 ^ (min (1:Int).toNat u64.bits))))+1)),eo)) (
 nL (cT,(i64.wrap ((u64.wrap (i64.wrap (cT+eo))).fdiv (2 ^ (min (1:Int).toNat u64.bits))))))) none) none) none) none) (
 uz cT)) s.1 s.2
noncomputable def lU (d:Nat) (n2 n3 n4 eM:Int) (kM:List t1) (b32:Bool):Option (List t1) :=
 aa b32 (
 Q1 (uA (d+1) kM (i64.wrap ((u64.wrap (i64.wrap (n2+n4))).fdiv (2 ^ (min (1:Int).toNat u64.bits)))) (i64.wrap ((i64.wrap ((i64.wrap ((u64.wrap (i64.wrap (n2+n4))).fdiv (2 ^ (min (1:Int).toNat u64.bits))))+n3)) - eM)) n4 false) fun lO =>
 some lO) (
 some kM)
noncomputable def lV (d:Nat) (n2 n3 n4 eM:Int) (kM:List t1):Option (List t1) :=
 aa (decide (((i64.wrap ((u64.wrap (i64.wrap (n2+n4))).fdiv (2 ^ (min (1:Int).toNat u64.bits)))):Int) < (i64.wrap ((i64.wrap ((i64.wrap ((u64.wrap (i64.wrap (n2+n4))).fdiv (2 ^ (min (1:Int).toNat u64.bits))))+n3)) - eM)))) (
 lU d n2 n3 n4 eM kM (decide (((i64.wrap ((i64.wrap ((i64.wrap ((u64.wrap (i64.wrap (n2+n4))).fdiv (2 ^ (min (1:Int).toNat u64.bits))))+n3)) - eM)):Int) < n4))) (
 lU d n2 n3 n4 eM kM false)
noncomputable def lW (d:Nat) (n2 n3 n4 eM:Int) (oK:List t1) (b30:Bool):Option (List t1) :=
 aa b30 (
 Q1 (uA (d+1) oK n2 eM (i64.wrap ((u64.wrap (i64.wrap (n2+n4))).fdiv (2 ^ (min (1:Int).toNat u64.bits)))) false) fun uB =>
 lV d n2 n3 n4 eM uB) (
 lV d n2 n3 n4 eM oK)
noncomputable def lX (d:Nat) (n2 n3 n4 eM:Int) (oK:List t1):Option (List t1) :=
 aa (decide (n2 < eM)) (
 lW d n2 n3 n4 eM oK (decide (eM < (i64.wrap ((u64.wrap (i64.wrap (n2+n4))).fdiv (2 ^ (min (1:Int).toNat u64.bits))))))) (
 lW d n2 n3 n4 eM oK false)
noncomputable def lY (d:Nat) (l1:List t1) (n2 n3 n4 eM:Int) (b28:Bool):Option (List t1) :=
 aa b28 (
 Q1 (GL (d+1) l1 eM n3 (i64.wrap ((i64.wrap ((i64.wrap ((u64.wrap (i64.wrap (n2+n4))).fdiv (2 ^ (min (1:Int).toNat u64.bits))))+n3)) - eM)) false) fun uC =>
 lX d n2 n3 n4 eM uC) (
 lX d n2 n3 n4 eM l1)
noncomputable def lZ (d:Nat) (l1:List t1) (n2 n3 n4 eM:Int):Option (List t1) :=
 aa (decide (eM < n3)) (
 lY d l1 n2 n3 n4 eM (decide (n3 < (i64.wrap ((i64.wrap ((i64.wrap ((u64.wrap (i64.wrap (n2+n4))).fdiv (2 ^ (min (1:Int).toNat u64.bits))))+n3)) - eM))))) (
 lY d l1 n2 n3 n4 eM false)
noncomputable def qt (d:Nat) (l1:List t1) (n2 n3 n4:Int) (uD:Int->Option (List t1)) (LG:t10->Option (List t1)) (s:t10):Option (List t1) :=
(fun eM Bq =>
 aa (decide (eM < Bq)) (
 aa (decide (0<=((i64.wrap ((i64.wrap ((i64.wrap ((i64.wrap ((u64.wrap (i64.wrap (n2+n4))).fdiv (2 ^ (min (1:Int).toNat u64.bits))))+n3)) - 1)) - (i64.wrap ((u64.wrap (i64.wrap (eM+Bq))).fdiv (2 ^ (min (1:Int).toNat u64.bits)))))):Int))) (
 aa (Nat.blt (((i64.wrap ((i64.wrap ((i64.wrap ((i64.wrap ((u64.wrap (i64.wrap (n2+n4))).fdiv (2 ^ (min (1:Int).toNat u64.bits))))+n3)) - 1)) - (i64.wrap ((u64.wrap (i64.wrap (eM+Bq))).fdiv (2 ^ (min (1:Int).toNat u64.bits)))))):Int).toNat) l1.length) (
 Q1 (l1[((i64.wrap ((i64.wrap ((i64.wrap ((i64.wrap ((u64.wrap (i64.wrap (n2+n4))).fdiv (2 ^ (min (1:Int).toNat u64.bits))))+n3)) - 1)) - (i64.wrap ((u64.wrap (i64.wrap (eM+Bq))).fdiv (2 ^ (min (1:Int).toNat u64.bits)))))):Int).toNat]?) fun x29 =>
 aa (decide (0<=((i64.wrap ((u64.wrap (i64.wrap (eM+Bq))).fdiv (2 ^ (min (1:Int).toNat u64.bits)))):Int))) (
 aa (Nat.blt (((i64.wrap ((u64.wrap (i64.wrap (eM+Bq))).fdiv (2 ^ (min (1:Int).toNat u64.bits)))):Int).toNat) l1.length) (
 Q1 (l1[((i64.wrap ((u64.wrap (i64.wrap (eM+Bq))).fdiv (2 ^ (min (1:Int).toNat u64.bits)))):Int).toNat]?) fun x30 =>
 Q1 (qh d x29.1 x30.1) fun uB =>
 aa (!(decide (uB < 0))) (
 LG ((i64.wrap ((i64.wrap ((u64.wrap (i64.wrap (eM+Bq))).fdiv (2 ^ (min (1:Int).toNat u64.bits))))+1)),Bq)) (
 LG (eM,(i64.wrap ((u64.wrap (i64.wrap (eM+Bq))).fdiv (2 ^ (min (1:Int).toNat u64.bits))))))) none) none) none) none) (
 uD eM)) s.1 s.2
noncomputable def iQ (d:Nat) (l1:List t1) (n2 n3 n4 ef Er:Int):Option (List t1) :=
 Q8 (qt d l1 n2 n3 n4 (lZ d l1 n2 n3 n4)) Qc (ef,Er)
theorem Uz (d:Nat) (l1:List t1) (n2 n3 n4:Int) (b5:Bool):uA (d+2) l1 n2 n3 n4 b5 =
 aa (((i64.wrap (n3 - n2)):Int)==1) (
 Q8 (qn d l1 n2 (lS d l1 n2)) Qc (n3,n4)) (
 aa (((i64.wrap (n4 - n3)):Int)==1) (
 Q8 (qq d l1 n3 (lT d l1 n3)) Qc (n2,n3)) (
 aa (decide (n3 > (i64.wrap ((u64.wrap (i64.wrap (n2+n4))).fdiv (2 ^ (min (1:Int).toNat u64.bits)))))) (
 iQ d l1 n2 n3 n4 (i64.wrap ((i64.wrap ((i64.wrap ((u64.wrap (i64.wrap (n2+n4))).fdiv (2 ^ (min (1:Int).toNat u64.bits))))+n3)) - n4)) (i64.wrap ((u64.wrap (i64.wrap (n2+n4))).fdiv (2 ^ (min (1:Int).toNat u64.bits))))) (
 iQ d l1 n2 n3 n4 n2 n3))):=by kernel_rfl
noncomputable def zx (d:Nat) (l10:List t1):Option (List t1) :=
 some l10
noncomputable def zy (d:Nat) (n2:Int) (uE:(Int×Int×Int×(List t1))->Option (List t1)) (cQ eV cT eo:Int) (lM:List t1):Option (List t1) :=
 aa (decide (((i64.wrap (eV+cQ)):Int) < n2)) (
 Q1 (uA d lM eV (i64.wrap (eV+cQ)) n2 false) fun sq =>
 uE ((i64.wrap (cQ*2)),eV,cT,sq)) (
 uE ((i64.wrap (cQ*2)),eV,cT,lM))
noncomputable def zA (d:Nat) (n2 cQ:Int) (uF:Int->Int->Int->(List t1)->Option (List t1)) (gC:(Int×Int×(List t1))->Option (List t1)) (s:(Int×Int×(List t1))):Option (List t1) :=
(fun eV cT (fQ:List t1) =>
 aa (decide (cT<=n2)) (
 Q1 (uA d fQ eV (i64.wrap (eV+cQ)) cT false) fun yS =>
 gC (cT,(i64.wrap (cT+(i64.wrap ((2:Int)*cQ)))),yS)) (
 uF eV cT cT fQ)) s.1 s.2.1 s.2.2
noncomputable def zB (d:Nat) (n2:Int) (uG:(List t1)->Option (List t1)) (uE:(Int×Int×Int×(List t1))->Option (List t1)) (s:(Int×Int×Int×(List t1))):Option (List t1) :=
(fun cQ iB su (fc:List t1) =>
 aa (decide (cQ < n2)) (
 Q8 (zA d n2 cQ (zy d n2 uE cQ)) Qc (0,(i64.wrap ((2:Int)*cQ)),fc)) (
 uG fc)) s.1 s.2.1 s.2.2.1 s.2.2.2
noncomputable def zD (d:Nat) (n2 n5 n6:Int) (l7:List t1):Option (List t1) :=
 Q1 (Cs d l7 n5 n2 false) fun r8 =>
 Q8 (zB d n2 (zx d)) Qc (20,n5,n6,r8)
noncomputable def zE (d:Nat) (n2:Int) (uH:Int->Int->(List t1)->Option (List t1)) (iH:(Int×Int×(List t1))->Option (List t1)) (s:(Int×Int×(List t1))):Option (List t1) :=
(fun n5 n6 (l7:List t1) =>
 aa (decide (n6<=n2)) (
 Q1 (Cs d l7 n5 n6 false) fun r8 =>
 iH (n6,(i64.wrap (n6+20)),r8)) (
 uH n5 n6 l7)) s.1 s.2.1 s.2.2
theorem UA (d:Nat) (l1:List t1) (n2:Int) (b3:Bool):GN (d+1) l1 n2 b3 =
 Q8 (zE d n2 (zD d n2)) Qc (0,20,l1):=by kernel_rfl
theorem UB (d:Nat) (l1:List t1) (b2:Bool):zF (d+1) l1 b2 =
 Q1 (GN d l1 (l1.length:Int) false) fun r3 =>
 some r3:=by kernel_rfl
noncomputable def xl (d:Nat) (l6:List t4):Option (List t4) :=
 some l6
noncomputable def xq (d:Nat) (fZ:t14->Option (List t4)) (n6 n9 cQ:Int) (yu F3:Bool) (fc:List t4):Option (List t4) :=
 fZ ((i64.wrap (n6+1)),fc)
noncomputable def o9 (d:Nat) (fH:Int->Int->Bool->Bool->(List t4)->Option (List t4)) (n2:Int) (oL:t14->Option (List t4)) (n9:Int) (l10:List t4) (yu F3:Bool):Option (List t4) :=
 aa F3 (
 aa (decide (0<=((i64.wrap (n9 - 1)):Int))) (
 aa (Nat.blt (((i64.wrap (n9 - 1)):Int).toNat) l10.length) (
 Q1 (l10[((i64.wrap (n9 - 1)):Int).toNat]?) fun fP =>
 aa (decide (0<=n9)) (
 aa (Nat.blt (n9.toNat) l10.length) (
 Q1 (l10[n9.toNat]?) fun kH =>
 aa (decide (0<=n9)) (
 aa (Nat.blt (n9.toNat) l10.length) (
 Q1 (l10[n9.toNat]?) fun O4 =>
 aa (decide (0<=((i64.wrap (n9 - 1)):Int))) (
 aa (Nat.blt (((i64.wrap (n9 - 1)):Int).toNat) ((l10.set (n9.toNat) fP).length)) (
 Q1 ((l10.set (n9.toNat) fP)[((i64.wrap (n9 - 1)):Int).toNat]?) fun nN =>
 oL ((i64.wrap (n9 - 1)),((l10.set (n9.toNat) fP).set (((i64.wrap (n9 - 1)):Int).toNat) kH))) none) none) none) none) none) none) none) none) (
 fH n9 n9 (decide (n9 > n2)) yu l10)
noncomputable def xm (d:Nat) (n2:Int) (fH:Int->Int->Bool->Bool->(List t4)->Option (List t4)) (oL:t14->Option (List t4)) (s:t14):Option (List t4) :=
(fun n9 (l10:List t4) =>
 aa (decide (n9 > n2)) (
 aa (decide (0<=n9)) (
 aa (Nat.blt (n9.toNat) l10.length) (
 Q1 (l10[n9.toNat]?) fun bN =>
 aa (decide (0<=((i64.wrap (n9 - 1)):Int))) (
 aa (Nat.blt (((i64.wrap (n9 - 1)):Int).toNat) l10.length) (
 Q1 (l10[((i64.wrap (n9 - 1)):Int).toNat]?) fun dy =>
 Q1 (qh d bN.1 dy.1) fun pV =>
 o9 d fH n2 oL n9 l10 true (decide (pV < 0))) none) none) none) none) (
 o9 d fH n2 oL n9 l10 false false)) s.1 s.2
noncomputable def jd (d:Nat) (n2 n3:Int) (uI:(List t4)->Option (List t4)) (fZ:t14->Option (List t4)) (s:t14):Option (List t4) :=
(fun n6 (l7:List t4) =>
 aa (decide (n6 < n3)) (
 Q8 (xm d n2 (xq d fZ n6)) Qc (n6,l7)) (
 uI l7)) s.1 s.2
theorem SP (d:Nat) (l1:List t4) (n2 n3:Int) (b4:Bool):Cg (d+2) l1 n2 n3 b4 =
 Q8 (jd d n2 n3 (xl d)) Qc ((i64.wrap (n2+1)),l1):=by kernel_rfl
noncomputable def GO (d:Nat) (l10:List t4):Option (List t4) :=
 some l10
noncomputable def GP (d:Nat) (n2:Int) (uE:(Int×Int×Int×(List t4))->Option (List t4)) (cQ eV cT eo:Int) (lM:List t4):Option (List t4) :=
 aa (decide (((i64.wrap (eV+cQ)):Int) < n2)) (
 Q1 (LH d lM eV (i64.wrap (eV+cQ)) n2 false) fun sq =>
 uE ((i64.wrap (cQ*2)),eV,cT,sq)) (
 uE ((i64.wrap (cQ*2)),eV,cT,lM))
noncomputable def GQ (d:Nat) (n2 cQ:Int) (uJ:Int->Int->Int->(List t4)->Option (List t4)) (gC:(Int×Int×(List t4))->Option (List t4)) (s:(Int×Int×(List t4))):Option (List t4) :=
(fun eV cT (fQ:List t4) =>
 aa (decide (cT<=n2)) (
 Q1 (LH d fQ eV (i64.wrap (eV+cQ)) cT false) fun yS =>
 gC (cT,(i64.wrap (cT+(i64.wrap ((2:Int)*cQ)))),yS)) (
 uJ eV cT cT fQ)) s.1 s.2.1 s.2.2
noncomputable def xx (d:Nat) (n2:Int) (uK:(List t4)->Option (List t4)) (uE:(Int×Int×Int×(List t4))->Option (List t4)) (s:(Int×Int×Int×(List t4))):Option (List t4) :=
(fun cQ iB su (fc:List t4) =>
 aa (decide (cQ < n2)) (
 Q8 (GQ d n2 cQ (GP d n2 uE cQ)) Qc (0,(i64.wrap ((2:Int)*cQ)),fc)) (
 uK fc)) s.1 s.2.1 s.2.2.1 s.2.2.2
noncomputable def xw (d:Nat) (n2 n5 n6:Int) (l7:List t4):Option (List t4) :=
 Q1 (Cg d l7 n5 n2 false) fun r8 =>
 Q8 (xx d n2 (GO d)) Qc (20,n5,n6,r8)
noncomputable def xu (d:Nat) (n2:Int) (uL:Int->Int->(List t4)->Option (List t4)) (iH:(Int×Int×(List t4))->Option (List t4)) (s:(Int×Int×(List t4))):Option (List t4) :=
(fun n5 n6 (l7:List t4) =>
 aa (decide (n6<=n2)) (
 Q1 (Cg d l7 n5 n6 false) fun r8 =>
 iH (n6,(i64.wrap (n6+20)),r8)) (
 uL n5 n6 l7)) s.1 s.2.1 s.2.2
theorem SU (d:Nat) (l1:List t4) (n2:Int) (b3:Bool):LI (d+1) l1 n2 b3 =
 Q8 (xu d n2 (xw d n2)) Qc (0,20,l1):=by kernel_rfl
theorem SS (d:Nat) (l1:List t4) (b2:Bool):FT (d+1) l1 b2 =
 Q1 (LI d l1 (l1.length:Int) false) fun r3 =>
 some r3:=by kernel_rfl
theorem e89 (d:Nat) (x1:t3):SV (d+1) x1 =
 Q1 (zF d x1.2.1 false) fun r2 =>
 Q1 (FT d x1.2.2.1 false) fun r3 =>
 some (x1.1,r2,r3,x1.2.2.2):=by kernel_rfl
noncomputable def rV (d:Nat) (x2:t1) (r4:t3) (l7:List t1):Option (t3×Bool) :=
 aa (Nat.ble ((l7.length+[x2].length)*64) Q7) (
 Q1 (SV d (r4.1,(l7++[x2]),r4.2.2)) fun r8 =>
 Q1 (SJ d r8) fun r9 =>
 some (r9.1,r9.2)) none
noncomputable def xz (d:Nat) (x2:t1) (r4:t3) (r5:Int) (b6:Bool):Option (t3×Bool) :=
 aa b6 (
 aa (decide (0<=r5)) (
 aa (Nat.blt (r5.toNat) r4.2.1.length) (
 Q1 (r4.2.1[r5.toNat]?) fun x7 =>
 rV d x2 r4 (r4.2.1.set (r5.toNat) (x7.1,x7.2.1,x7.2.2.1,x7.2.2.2.1,x7.2.2.2.2.1,x7.2.2.2.2.2.1,x7.2.2.2.2.2.2.1,0))) none) none) (
 rV d x2 r4 r4.2.1)
noncomputable def xy (d:Nat) (x1:t3) (x2:t1) (b3:Bool):Option (t3×Bool) :=
 aa b3 (
 some (((⟨#[]⟩:ByteArray),([]:List t1),([]:List t4),0),false)) (
 Q1 (SK d x1) fun r4 =>
 Q1 (Jm d x1 x2.2.1) fun r5 =>
 aa (decide (r5>=0)) (
 Q1 (GG d x1 r5) fun r6 =>
 xz d x2 r4 r5 r6) (
 xz d x2 r4 r5 false))
theorem e48 (d:Nat) (x1:t3) (x2:t1):SZ (d+1) x1 x2 =
 Q1 (Jn d x1) fun r3 =>
 aa (!r3) (
 xy d x1 x2 true) (
 xy d x1 x2 ((x1.2.1.length:Int)==24)):=by kernel_rfl
noncomputable def zG (d:Nat) (x1:t0) (r2:List t1) (r3:List t4) (b4:Bool):Option t3 :=
 aa b4 (
 aa (decide (0<=x1.2.2.2.2.2.2.2.2)) (
 Q1 (x1.2.1[x1.2.2.2.2.2.2.2.2.toNat]?) fun x5 =>
 Q1 (zF d r2 false) fun r6 =>
 some (x1.1,r6,r3,x5.1)) none) (
 Q1 (zF d r2 false) fun r7 =>
 some (x1.1,r7,r3,0))
theorem e71 (d:Nat) (x1:t0):LJ (d+1) x1 =
 Q1 (Cr d x1.2.1) fun r2 =>
 Q1 (zm d x1.2.2.2.2.2.2.1) fun r3 =>
 aa (decide (x1.2.2.2.2.2.2.2.2>=0)) (
 zG d x1 r2 r3 (decide (x1.2.2.2.2.2.2.2.2 < (x1.2.1.length:Int)))) (
 zG d x1 r2 r3 false):=by kernel_rfl
theorem UC (d:Nat) (n1 n2:Int):LK (d+1) n1 n2 =
 some ((u64.wrap ((u64.wrap ((u64.wrap ((n1.fdiv (2 ^ (min (32:Int).toNat u64.bits)))*(n2.fdiv (2 ^ (min (32:Int).toNat u64.bits)))))+((u64.wrap ((u64.wrap ((n1.fdiv (2 ^ (min (32:Int).toNat u64.bits)))*(u64.wrap ((BitVec.ofInt u64.bits n2 &&& BitVec.ofInt u64.bits 4294967295).toNat:Int))))+((u64.wrap ((u64.wrap ((BitVec.ofInt u64.bits n1 &&& BitVec.ofInt u64.bits 4294967295).toNat:Int))*(u64.wrap ((BitVec.ofInt u64.bits n2 &&& BitVec.ofInt u64.bits 4294967295).toNat:Int)))).fdiv (2 ^ (min (32:Int).toNat u64.bits))))).fdiv (2 ^ (min (32:Int).toNat u64.bits)))))+((u64.wrap ((u64.wrap ((BitVec.ofInt u64.bits (u64.wrap ((u64.wrap ((n1.fdiv (2 ^ (min (32:Int).toNat u64.bits)))*(u64.wrap ((BitVec.ofInt u64.bits n2 &&& BitVec.ofInt u64.bits 4294967295).toNat:Int))))+((u64.wrap ((u64.wrap ((BitVec.ofInt u64.bits n1 &&& BitVec.ofInt u64.bits 4294967295).toNat:Int))*(u64.wrap ((BitVec.ofInt u64.bits n2 &&& BitVec.ofInt u64.bits 4294967295).toNat:Int)))).fdiv (2 ^ (min (32:Int).toNat u64.bits))))) &&& BitVec.ofInt u64.bits 4294967295).toNat:Int))+(u64.wrap ((u64.wrap ((BitVec.ofInt u64.bits n1 &&& BitVec.ofInt u64.bits 4294967295).toNat:Int))*(n2.fdiv (2 ^ (min (32:Int).toNat u64.bits))))))).fdiv (2 ^ (min (32:Int).toNat u64.bits))))),(u64.wrap (n1*n2))):=by kernel_rfl
theorem UD (d:Nat) (n1 n2:Int):GR (d+1) n1 n2 =
 Q1 (LK d n1 n2) fun r3 =>
 some (r3.1,r3.2):=by kernel_rfl
noncomputable def zH (d:Nat) (l6:List Int):Option (List Int) :=
 some l6
noncomputable def zI (d:Nat) (uM:(List Int)->Option (List Int)) (fZ:t11->Option (List Int)) (s:t11):Option (List Int) :=
(fun n6 (l7:List Int) =>
 aa (decide (n6 < (l7.length:Int))) (
 aa (decide (0<=n6)) (
 aa (Nat.ble (n6.toNat) l7.length) (
 aa (decide (0<=n6)) (
 aa (Nat.ble (n6.toNat) l7.length) (
 fZ ((i64.wrap (n6+((min (l7.take (n6.toNat)).length (l7.length - (0+n6.toNat)):Nat):Int))),(m_ l7 (0+n6.toNat) (l7.length - (0+n6.toNat)) (l7.take (n6.toNat))))) none) none) none) none) (
 uM l7)) s.1 s.2
noncomputable def qu (d:Nat) (l1:List Int) (r3:t10) (b4:Bool):Option (List Int) :=
 aa b4 (
 none) (
 aa (decide (0<=((i64.wrap r3.2):Int))) (
 aa (decide (0<=((i64.wrap r3.2):Int))) (
 aa (Nat.ble (((i64.wrap r3.2):Int).toNat) (((i64.wrap r3.2):Int).toNat)&&Nat.ble ((((i64.wrap r3.2):Int).toNat)*8) Q7) (
 Q8 (zI d (zH d)) Qc (((min l1.length ((List.replicate (((i64.wrap r3.2):Int).toNat) (0:Int)).length):Nat):Int),(m_ (List.replicate (((i64.wrap r3.2):Int).toNat) (0:Int)) 0 ((List.replicate (((i64.wrap r3.2):Int).toNat) (0:Int)).length) l1))) none) none) none)
theorem UE (d:Nat) (l1:List Int) (n2:Int):zJ (d+1) l1 n2 =
 aa (decide (n2 < 0)) (
 none) (
 Q1 (GR d (u64.wrap (l1.length:Int)) (u64.wrap n2)) fun r3 =>
 aa (decide (r3.1 > 0)) (
 qu d l1 r3 true) (
 qu d l1 r3 (decide (r3.2 > 9223372036854775807)))):=by kernel_rfl
theorem UF (d:Nat) (n1:Int):j6 (d+1) n1 =
 Cv n1:=by kernel_rfl
theorem UG (d:Nat) (s1:ByteArray) (n2:Int):LL (d+1) s1 n2 =
 Cw s1 n2:=by kernel_rfl
theorem UH (d:Nat) (x1:t6) (n2:Int) (s3:ByteArray):nQ (d+1) x1 n2 s3 =
 Q1 (LL d (⟨#[32,32]⟩:ByteArray) n2) fun r4 =>
 aa (Nat.ble (r4.size+s3.size) 9223372036854775807) (
 aa (Nat.ble ((x1.2.1.length+[(r4++s3)].length)*16) Q7) (
 some (x1.1,(x1.2.1++[(r4++s3)]),x1.2.2)) none) none:=by kernel_rfl
noncomputable def l_ (d:Nat) (n1:Int) (b4:Bool):Option ByteArray :=
 aa b4 (
 Q1 (j6 d (i64.wrap (n1.tdiv 1000))) fun r5 =>
 aa (Nat.ble (r5.size+((⟨#[107]⟩:ByteArray):ByteArray).size) 9223372036854775807) (
 some (r5++((⟨#[107]⟩:ByteArray):ByteArray))) none) (
 Q1 (j6 d n1) fun r6 =>
 some r6)
noncomputable def mc (d:Nat) (n1:Int) (b2:Bool):Option ByteArray :=
 aa b2 (
 Q1 (j6 d (i64.wrap (n1.tdiv 1000000))) fun r3 =>
 aa (Nat.ble (r3.size+((⟨#[109]⟩:ByteArray):ByteArray).size) 9223372036854775807) (
 some (r3++((⟨#[109]⟩:ByteArray):ByteArray))) none) (
 aa (decide (n1 > 0)) (
 l_ d n1 (((n1.tmod 1000):Int)==0)) (
 l_ d n1 false))
theorem UI (d:Nat) (n1:Int):qw (d+1) n1 =
 aa (decide (n1 > 0)) (
 mc d n1 (((n1.tmod 1000000):Int)==0)) (
 mc d n1 false):=by kernel_rfl
theorem UJ (d:Nat) (x1:t1):Cy (d+1) x1 =
 Q1 (j6 d x1.1) fun r2 =>
 aa (Nat.ble (((⟨#[99,108,97,115,115,32]⟩:ByteArray):ByteArray).size+r2.size) 9223372036854775807) (
 aa (Nat.ble (((((⟨#[99,108,97,115,115,32]⟩:ByteArray):ByteArray)++r2):ByteArray).size+((⟨#[32,114,97,116,101,32]⟩:ByteArray):ByteArray).size) 9223372036854775807) (
 Q1 (qw d x1.2.2.1) fun r3 =>
 aa (Nat.ble (((((((⟨#[99,108,97,115,115,32]⟩:ByteArray):ByteArray)++r2):ByteArray)++((⟨#[32,114,97,116,101,32]⟩:ByteArray):ByteArray)):ByteArray).size+r3.size) 9223372036854775807) (
 aa (Nat.ble (((((((((⟨#[99,108,97,115,115,32]⟩:ByteArray):ByteArray)++r2):ByteArray)++((⟨#[32,114,97,116,101,32]⟩:ByteArray):ByteArray)):ByteArray)++r3):ByteArray).size+((⟨#[32,99,101,105,108,32]⟩:ByteArray):ByteArray).size) 9223372036854775807) (
 Q1 (qw d x1.2.2.2.1) fun r4 =>
 aa (Nat.ble (((((((((((⟨#[99,108,97,115,115,32]⟩:ByteArray):ByteArray)++r2):ByteArray)++((⟨#[32,114,97,116,101,32]⟩:ByteArray):ByteArray)):ByteArray)++r3):ByteArray)++((⟨#[32,99,101,105,108,32]⟩:ByteArray):ByteArray)):ByteArray).size+r4.size) 9223372036854775807) (
 aa (Nat.ble (((((((((((((⟨#[99,108,97,115,115,32]⟩:ByteArray):ByteArray)++r2):ByteArray)++((⟨#[32,114,97,116,101,32]⟩:ByteArray):ByteArray)):ByteArray)++r3):ByteArray)++((⟨#[32,99,101,105,108,32]⟩:ByteArray):ByteArray)):ByteArray)++r4):ByteArray).size+((⟨#[32,98,117,114,115,116,32]⟩:ByteArray):ByteArray).size) 9223372036854775807) (
 Q1 (qw d x1.2.2.2.2.1) fun r5 =>
 aa (Nat.ble (((((((((((((((⟨#[99,108,97,115,115,32]⟩:ByteArray):ByteArray)++r2):ByteArray)++((⟨#[32,114,97,116,101,32]⟩:ByteArray):ByteArray)):ByteArray)++r3):ByteArray)++((⟨#[32,99,101,105,108,32]⟩:ByteArray):ByteArray)):ByteArray)++r4):ByteArray)++((⟨#[32,98,117,114,115,116,32]⟩:ByteArray):ByteArray)):ByteArray).size+r5.size) 9223372036854775807) (
 aa (Nat.ble (((((((((((((((((⟨#[99,108,97,115,115,32]⟩:ByteArray):ByteArray)++r2):ByteArray)++((⟨#[32,114,97,116,101,32]⟩:ByteArray):ByteArray)):ByteArray)++r3):ByteArray)++((⟨#[32,99,101,105,108,32]⟩:ByteArray):ByteArray)):ByteArray)++r4):ByteArray)++((⟨#[32,98,117,114,115,116,32]⟩:ByteArray):ByteArray)):ByteArray)++r5):ByteArray).size+((⟨#[32,99,98,117,114,115,116,32]⟩:ByteArray):ByteArray).size) 9223372036854775807) (
 Q1 (qw d x1.2.2.2.2.2.1) fun r6 =>
 aa (Nat.ble (((((((((((((((((((⟨#[99,108,97,115,115,32]⟩:ByteArray):ByteArray)++r2):ByteArray)++((⟨#[32,114,97,116,101,32]⟩:ByteArray):ByteArray)):ByteArray)++r3):ByteArray)++((⟨#[32,99,101,105,108,32]⟩:ByteArray):ByteArray)):ByteArray)++r4):ByteArray)++((⟨#[32,98,117,114,115,116,32]⟩:ByteArray):ByteArray)):ByteArray)++r5):ByteArray)++((⟨#[32,99,98,117,114,115,116,32]⟩:ByteArray):ByteArray)):ByteArray).size+r6.size) 9223372036854775807) (
 aa (Nat.ble (((((((((((((((((((((⟨#[99,108,97,115,115,32]⟩:ByteArray):ByteArray)++r2):ByteArray)++((⟨#[32,114,97,116,101,32]⟩:ByteArray):ByteArray)):ByteArray)++r3):ByteArray)++((⟨#[32,99,101,105,108,32]⟩:ByteArray):ByteArray)):ByteArray)++r4):ByteArray)++((⟨#[32,98,117,114,115,116,32]⟩:ByteArray):ByteArray)):ByteArray)++r5):ByteArray)++((⟨#[32,99,98,117,114,115,116,32]⟩:ByteArray):ByteArray)):ByteArray)++r6):ByteArray).size+((⟨#[32,112,114,105,111,32]⟩:ByteArray):ByteArray).size) 9223372036854775807) (
 Q1 (j6 d x1.2.2.2.2.2.2.1) fun r7 =>
 aa (Nat.ble (((((((((((((((((((((((⟨#[99,108,97,115,115,32]⟩:ByteArray):ByteArray)++r2):ByteArray)++((⟨#[32,114,97,116,101,32]⟩:ByteArray):ByteArray)):ByteArray)++r3):ByteArray)++((⟨#[32,99,101,105,108,32]⟩:ByteArray):ByteArray)):ByteArray)++r4):ByteArray)++((⟨#[32,98,117,114,115,116,32]⟩:ByteArray):ByteArray)):ByteArray)++r5):ByteArray)++((⟨#[32,99,98,117,114,115,116,32]⟩:ByteArray):ByteArray)):ByteArray)++r6):ByteArray)++((⟨#[32,112,114,105,111,32]⟩:ByteArray):ByteArray)):ByteArray).size+r7.size) 9223372036854775807) (
 some (((((((((((((((((((((((⟨#[99,108,97,115,115,32]⟩:ByteArray):ByteArray)++r2):ByteArray)++((⟨#[32,114,97,116,101,32]⟩:ByteArray):ByteArray)):ByteArray)++r3):ByteArray)++((⟨#[32,99,101,105,108,32]⟩:ByteArray):ByteArray)):ByteArray)++r4):ByteArray)++((⟨#[32,98,117,114,115,116,32]⟩:ByteArray):ByteArray)):ByteArray)++r5):ByteArray)++((⟨#[32,99,98,117,114,115,116,32]⟩:ByteArray):ByteArray)):ByteArray)++r6):ByteArray)++((⟨#[32,112,114,105,111,32]⟩:ByteArray):ByteArray)):ByteArray)++r7)) none) none) none) none) none) none) none) none) none) none) none:=by kernel_rfl
noncomputable def me (d:Nat) (n2:Int) (s6:ByteArray) (l7:List t1) (l8:List t4) (n9:Int) (l10:List ByteArray) (lH Eo fc:List Int):Option t6 :=
 aa (decide (0<=n2)) (
 aa (Nat.blt (n2.toNat) fc.length) (
 Q1 (fc[n2.toNat]?) fun nK =>
 some ((s6,l7,l8,n9),l10,lH,Eo,(fc.set (n2.toNat) (l10.length:Int)))) none) none
noncomputable def zK (d:Nat) (n2 n3:Int) (s15:ByteArray) (pU:List t1) (fQ:List t4) (eK:Int) (g_:List ByteArray) (dX eU F_:List Int):Option t6 :=
 Q1 (nQ d ((s15,pU,fQ,eK),g_,dX,eU,F_) n3 (⟨#[125]⟩:ByteArray)) fun Bp =>
 me d n2 Bp.1.1 Bp.1.2.1 Bp.1.2.2.1 Bp.1.2.2.2 Bp.2.1 Bp.2.2.1 Bp.2.2.2.1 Bp.2.2.2.2
noncomputable def qx (d:Nat) (n3:Int) (pV:List Int) (uN:ByteArray->(List t1)->(List t4)->Int->(List ByteArray)->(List Int)->(List Int)->(List Int)->Option t6) (gC:(Int×t6)->Option t6) (s:(Int×t6)):Option t6 :=
(fun eV (nN:t6) =>
 aa (decide (eV < (pV.length:Int))) (
 aa (decide (0<=eV)) (
 aa (Nat.blt (eV.toNat) pV.length) (
 Q1 (pV[eV.toNat]?) fun eo =>
 Q1 (Cz d nN eo (i64.wrap (n3+1))) fun yS =>
 gC ((i64.wrap (eV+1)),yS)) none) none) (
 uN nN.1.1 nN.1.2.1 nN.1.2.2.1 nN.1.2.2.2 nN.2.1 nN.2.2.1 nN.2.2.2.1 nN.2.2.2.2)) s.1 s.2
theorem UK (d:Nat) (x1:t6) (n2 n3:Int):Cz (d+1) x1 n2 n3 =
 aa (decide (0<=n2)) (
 Q1 (x1.1.2.1[n2.toNat]?) fun x4 =>
 aa (Nat.ble ((x1.2.2.1.length+[n2].length)*8) Q7) (
 Q1 (GG d x1.1 n2) fun r5 =>
 aa r5 (
 Q1 (Cy d x4) fun r6 =>
 aa (Nat.ble (r6.size+((⟨#[32,108,105,109,105,116,32]⟩:ByteArray):ByteArray).size) 9223372036854775807) (
 Q1 (qw d x4.2.2.2.2.2.2.2) fun r7 =>
 aa (Nat.ble (((r6++((⟨#[32,108,105,109,105,116,32]⟩:ByteArray):ByteArray)):ByteArray).size+r7.size) 9223372036854775807) (
 aa (Nat.ble (((((r6++((⟨#[32,108,105,109,105,116,32]⟩:ByteArray):ByteArray)):ByteArray)++r7):ByteArray).size+((⟨#[59]⟩:ByteArray):ByteArray).size) 9223372036854775807) (
 Q1 (nQ d (x1.1,x1.2.1,(x1.2.2.1++[n2]),x1.2.2.2) n3 (((((r6++((⟨#[32,108,105,109,105,116,32]⟩:ByteArray):ByteArray)):ByteArray)++r7):ByteArray)++((⟨#[59]⟩:ByteArray):ByteArray))) fun r8 =>
 aa (decide (0<=n2)) (
 aa (Nat.blt (n2.toNat) r8.2.2.2.1.length) (
 Q1 (r8.2.2.2.1[n2.toNat]?) fun n9 =>
 me d n2 r8.1.1 r8.1.2.1 r8.1.2.2.1 r8.1.2.2.2 r8.2.1 r8.2.2.1 (r8.2.2.2.1.set (n2.toNat) (r8.2.1.length:Int)) r8.2.2.2.2) none) none) none) none) none) (
 Q1 (Cy d x4) fun oJ =>
 aa (Nat.ble (oJ.size+((⟨#[32,123]⟩:ByteArray):ByteArray).size) 9223372036854775807) (
 Q1 (nQ d (x1.1,x1.2.1,(x1.2.2.1++[n2]),x1.2.2.2) n3 (oJ++((⟨#[32,123]⟩:ByteArray):ByteArray))) fun gz =>
 aa (decide (0<=n2)) (
 aa (Nat.blt (n2.toNat) gz.2.2.2.1.length) (
 Q1 (gz.2.2.2.1[n2.toNat]?) fun su =>
 Q1 (zg d gz.1 n2) fun pV =>
 Q8 (qx d n3 pV (zK d n2 n3)) Qc (0,(gz.1,gz.2.1,gz.2.2.1,(gz.2.2.2.1.set (n2.toNat) (gz.2.1.length:Int)),gz.2.2.2.2))) none) none) none)) none) none:=by kernel_rfl
noncomputable def qy (d:Nat) (n3:Int):Option Int :=
 some (-1)
noncomputable def ga (d:Nat) (x1:t3) (j7:Int->Option Int) (bW:t10->Option Int) (s:t10):Option Int :=
(fun n3 n4 =>
 aa (decide (n4 < (x1.2.1.length:Int))) (
 aa (decide (0<=n4)) (
 Q1 (x1.2.1[n4.toNat]?) fun x5 =>
 aa (x5.2.1==0) (
 some n4) (
 bW (n3,(i64.wrap (n4+1))))) none) (
 j7 n3)) s.1 s.2
theorem UL (d:Nat) (x1:t3):GS (d+3) x1 =
 Q8 (ga d x1 (qy d)) Qc (0,0):=by kernel_rfl
noncomputable def mg (d:Nat) (s4:ByteArray):Option (ByteArray×Bool) :=
 aa (Nat.ble (((⟨#[48,120]⟩:ByteArray):ByteArray).size+s4.size) 9223372036854775807) (
 some ((((⟨#[48,120]⟩:ByteArray):ByteArray)++s4),true)) none
noncomputable def jo (d:Nat) (fI:ByteArray->Option (ByteArray×Bool)) (bM:(Int×ByteArray)->Option (ByteArray×Bool)) (n4:Int) (s5:ByteArray) (b6 b7:Bool):Option (ByteArray×Bool) :=
 aa b7 (
 aa (decide (0<=((i64.wrap ((i64.wrap ((BitVec.ofInt i64.bits n4 &&& BitVec.ofInt i64.bits 15).toNat:Int))+1)):Int))) (
 aa (decide (0<=((i64.wrap ((BitVec.ofInt i64.bits n4 &&& BitVec.ofInt i64.bits 15).toNat:Int)):Int))) (
 aa (Nat.ble (((i64.wrap ((BitVec.ofInt i64.bits n4 &&& BitVec.ofInt i64.bits 15).toNat:Int)):Int).toNat) (((i64.wrap ((i64.wrap ((BitVec.ofInt i64.bits n4 &&& BitVec.ofInt i64.bits 15).toNat:Int))+1)):Int).toNat)&&Nat.ble (((i64.wrap ((i64.wrap ((BitVec.ofInt i64.bits n4 &&& BitVec.ofInt i64.bits 15).toNat:Int))+1)):Int).toNat) ((⟨#[48,49,50,51,52,53,54,55,56,57,97,98,99,100,101,102]⟩:ByteArray):ByteArray).size) (
 aa (Nat.ble (((((⟨#[48,49,50,51,52,53,54,55,56,57,97,98,99,100,101,102]⟩:ByteArray):ByteArray).extract (((i64.wrap ((BitVec.ofInt i64.bits n4 &&& BitVec.ofInt i64.bits 15).toNat:Int)):Int).toNat) (((i64.wrap ((i64.wrap ((BitVec.ofInt i64.bits n4 &&& BitVec.ofInt i64.bits 15).toNat:Int))+1)):Int).toNat)):ByteArray).size+s5.size) 9223372036854775807) (
 bM ((n4.fdiv (2 ^ (min (4:Int).toNat i64.bits))),(((((⟨#[48,49,50,51,52,53,54,55,56,57,97,98,99,100,101,102]⟩:ByteArray):ByteArray).extract (((i64.wrap ((BitVec.ofInt i64.bits n4 &&& BitVec.ofInt i64.bits 15).toNat:Int)):Int).toNat) (((i64.wrap ((i64.wrap ((BitVec.ofInt i64.bits n4 &&& BitVec.ofInt i64.bits 15).toNat:Int))+1)):Int).toNat)):ByteArray)++s5))) none) none) none) none) (
 fI s5)
noncomputable def zL (d:Nat) (fI:ByteArray->Option (ByteArray×Bool)) (bM:(Int×ByteArray)->Option (ByteArray×Bool)) (s:(Int×ByteArray)):Option (ByteArray×Bool) :=
(fun n4 s5 =>
 aa (decide (n4 > 0)) (
 jo d fI bM n4 s5 true true) (
 jo d fI bM n4 s5 false (s5.toList==((⟨#[]⟩:ByteArray):ByteArray).toList))) s.1 s.2
noncomputable def qz (d:Nat) (n1:Int) (b2:Bool):Option (ByteArray×Bool) :=
 aa b2 (
 some ((⟨#[]⟩:ByteArray),false)) (
 Q8 (zL d (mg d)) Qc (n1,(⟨#[]⟩:ByteArray)))
theorem UM (d:Nat) (n1:Int):LM (d+1) n1 =
 aa (decide (n1 < 0)) (
 qz d n1 true) (
 qz d n1 (decide (n1 > 4294967295))):=by kernel_rfl
theorem UN (d:Nat) (n1:Int):CA (d+1) n1 =
 aa (decide (n1 < 0)) (
 some ((⟨#[]⟩:ByteArray),false)) (
 aa (decide (n1 > 65535)) (
 some ((⟨#[]⟩:ByteArray),false)) (
 Q1 (LM d n1) fun r2 =>
 some (r2.1,r2.2))):=by kernel_rfl
theorem UO (d:Nat):LN (d+1) =
 some [(⟨#[115,111,117,114,99,101]⟩:ByteArray),(⟨#[100,101,115,116]⟩:ByteArray),(⟨#[112,111,114,116]⟩:ByteArray),(⟨#[109,97,114,107]⟩:ByteArray)]:=by kernel_rfl
theorem UP (d:Nat) (x1:t4):GU (d+1) x1 =
 Q1 (CA d x1.2.2.2.1) fun r2 =>
 Q1 (CA d x1.2.2.1) fun r3 =>
 Q1 (j6 d x1.1) fun r4 =>
 aa (Nat.ble (((⟨#[102,105,108,116,101,114,32]⟩:ByteArray):ByteArray).size+r4.size) 9223372036854775807) (
 aa (Nat.ble (((((⟨#[102,105,108,116,101,114,32]⟩:ByteArray):ByteArray)++r4):ByteArray).size+((⟨#[32]⟩:ByteArray):ByteArray).size) 9223372036854775807) (
 Q1 (LN d) fun r5 =>
 aa (decide (0<=x1.2.1)) (
 aa (Nat.blt (x1.2.1.toNat) r5.length) (
 Q1 (r5[x1.2.1.toNat]?) fun s6 =>
 aa (Nat.ble (((((((⟨#[102,105,108,116,101,114,32]⟩:ByteArray):ByteArray)++r4):ByteArray)++((⟨#[32]⟩:ByteArray):ByteArray)):ByteArray).size+s6.size) 9223372036854775807) (
 aa (Nat.ble (((((((((⟨#[102,105,108,116,101,114,32]⟩:ByteArray):ByteArray)++r4):ByteArray)++((⟨#[32]⟩:ByteArray):ByteArray)):ByteArray)++s6):ByteArray).size+((⟨#[32]⟩:ByteArray):ByteArray).size) 9223372036854775807) (
 aa (Nat.ble (((((((((((⟨#[102,105,108,116,101,114,32]⟩:ByteArray):ByteArray)++r4):ByteArray)++((⟨#[32]⟩:ByteArray):ByteArray)):ByteArray)++s6):ByteArray)++((⟨#[32]⟩:ByteArray):ByteArray)):ByteArray).size+r2.1.size) 9223372036854775807) (
 aa (Nat.ble (((((((((((((⟨#[102,105,108,116,101,114,32]⟩:ByteArray):ByteArray)++r4):ByteArray)++((⟨#[32]⟩:ByteArray):ByteArray)):ByteArray)++s6):ByteArray)++((⟨#[32]⟩:ByteArray):ByteArray)):ByteArray)++r2.1):ByteArray).size+((⟨#[32,47,32]⟩:ByteArray):ByteArray).size) 9223372036854775807) (
 aa (Nat.ble (((((((((((((((⟨#[102,105,108,116,101,114,32]⟩:ByteArray):ByteArray)++r4):ByteArray)++((⟨#[32]⟩:ByteArray):ByteArray)):ByteArray)++s6):ByteArray)++((⟨#[32]⟩:ByteArray):ByteArray)):ByteArray)++r2.1):ByteArray)++((⟨#[32,47,32]⟩:ByteArray):ByteArray)):ByteArray).size+r3.1.size) 9223372036854775807) (
 aa (Nat.ble (((((((((((((((((⟨#[102,105,108,116,101,114,32]⟩:ByteArray):ByteArray)++r4):ByteArray)++((⟨#[32]⟩:ByteArray):ByteArray)):ByteArray)++s6):ByteArray)++((⟨#[32]⟩:ByteArray):ByteArray)):ByteArray)++r2.1):ByteArray)++((⟨#[32,47,32]⟩:ByteArray):ByteArray)):ByteArray)++r3.1):ByteArray).size+((⟨#[32,45,62,32]⟩:ByteArray):ByteArray).size) 9223372036854775807) (
 Q1 (j6 d x1.2.2.2.2) fun r7 =>
 aa (Nat.ble (((((((((((((((((((⟨#[102,105,108,116,101,114,32]⟩:ByteArray):ByteArray)++r4):ByteArray)++((⟨#[32]⟩:ByteArray):ByteArray)):ByteArray)++s6):ByteArray)++((⟨#[32]⟩:ByteArray):ByteArray)):ByteArray)++r2.1):ByteArray)++((⟨#[32,47,32]⟩:ByteArray):ByteArray)):ByteArray)++r3.1):ByteArray)++((⟨#[32,45,62,32]⟩:ByteArray):ByteArray)):ByteArray).size+r7.size) 9223372036854775807) (
 aa (Nat.ble (((((((((((((((((((((⟨#[102,105,108,116,101,114,32]⟩:ByteArray):ByteArray)++r4):ByteArray)++((⟨#[32]⟩:ByteArray):ByteArray)):ByteArray)++s6):ByteArray)++((⟨#[32]⟩:ByteArray):ByteArray)):ByteArray)++r2.1):ByteArray)++((⟨#[32,47,32]⟩:ByteArray):ByteArray)):ByteArray)++r3.1):ByteArray)++((⟨#[32,45,62,32]⟩:ByteArray):ByteArray)):ByteArray)++r7):ByteArray).size+((⟨#[59]⟩:ByteArray):ByteArray).size) 9223372036854775807) (
 some (((((((((((((((((((((⟨#[102,105,108,116,101,114,32]⟩:ByteArray):ByteArray)++r4):ByteArray)++((⟨#[32]⟩:ByteArray):ByteArray)):ByteArray)++s6):ByteArray)++((⟨#[32]⟩:ByteArray):ByteArray)):ByteArray)++r2.1):ByteArray)++((⟨#[32,47,32]⟩:ByteArray):ByteArray)):ByteArray)++r3.1):ByteArray)++((⟨#[32,45,62,32]⟩:ByteArray):ByteArray)):ByteArray)++r7):ByteArray)++((⟨#[59]⟩:ByteArray):ByteArray))) none) none) none) none) none) none) none) none) none) none) none) none:=by kernel_rfl
noncomputable def qA (d:Nat) (x1:t3) (dX:List t10) (s39:ByteArray) (LP:Int) (l41:List t1) (O5 O6 l44 l45:List Int) (l46:List t4) (l47:List Int):Option t0 :=
 aa (x1.2.2.2 != 0) (
 some (s39,l41,O5,O6,l44,l45,l46,l47,((eD dX x1.2.2.2).getD 0))) (
 some (s39,l41,O5,O6,l44,l45,l46,l47,LP))
noncomputable def mh (d:Nat) (x1:t3) (dX:List t10) (uO:ByteArray->Int->(List t1)->(List Int)->(List Int)->(List Int)->(List Int)->(List t4)->(List Int)->Option t0) (UQ:(Int×t0)->Option t0) (s:(Int×t0)):Option t0 :=
(fun Jp (mj:t0) =>
 aa (decide (Jp < (x1.2.2.1.length:Int))) (
 aa (decide (0<=Jp)) (
 Q1 (x1.2.2.1[Jp.toNat]?) fun x41 =>
 aa (Nat.ble ((mj.2.2.2.2.2.2.2.1.length+[((eD dX x41.2.2.2.2).getD 0)].length)*8) Q7) (
 UQ ((i64.wrap (Jp+1)),(mj.1,mj.2.1,mj.2.2.1,mj.2.2.2.1,mj.2.2.2.2.1,mj.2.2.2.2.2.1,mj.2.2.2.2.2.2.1,(mj.2.2.2.2.2.2.2.1++[((eD dX x41.2.2.2.2).getD 0)]),mj.2.2.2.2.2.2.2.2))) none) none) (
 uO mj.1 mj.2.2.2.2.2.2.2.2 mj.2.1 mj.2.2.1 mj.2.2.2.1 mj.2.2.2.2.1 mj.2.2.2.2.2.1 mj.2.2.2.2.2.2.1 mj.2.2.2.2.2.2.2.1)) s.1 s.2
noncomputable def qB (d:Nat) (x1:t3) (LQ:ByteArray) (tW:Int) (dX:List t10) (eU:List t1) (y_:List t4) (wg Br Bt nP Bn:List Int):Option t0 :=
 Q8 (mh d x1 dX (qA d x1 dX)) Qc (0,(LQ,eU,nP,Br,Bt,Bn,y_,wg,tW))
noncomputable def mo (d:Nat) (Jq:List Int) (uP:(List Int)->Option t0) (LR:t11->Option t0) (s:t11):Option t0 :=
(fun fe (lN:List Int) =>
 aa (decide (fe>=0)) (
 aa (decide (0<=fe)) (
 aa (Nat.blt (fe.toNat) lN.length) (
 Q1 (lN[fe.toNat]?) fun Jp =>
 aa (decide (0<=fe)) (
 aa (Nat.blt (fe.toNat) Jq.length) (
 Q1 (Jq[fe.toNat]?) fun LP =>
 aa (decide (LP>=0)) (
 aa (decide (0<=fe)) (
 aa (Nat.blt (fe.toNat) Jq.length) (
 Q1 (Jq[fe.toNat]?) fun O7 =>
 aa (decide (0<=O7)) (
 aa (Nat.blt (O7.toNat) ((lN.set (fe.toNat) (i64.wrap (fe+1))).length)) (
 Q1 ((lN.set (fe.toNat) (i64.wrap (fe+1)))[O7.toNat]?) fun Jr =>
 aa (decide (0<=fe)) (
 aa (Nat.blt (fe.toNat) ((lN.set (fe.toNat) (i64.wrap (fe+1))).length)) (
 Q1 ((lN.set (fe.toNat) (i64.wrap (fe+1)))[fe.toNat]?) fun n43 =>
 LR ((i64.wrap (fe - 1)),((lN.set (fe.toNat) (i64.wrap (fe+1))).set (fe.toNat) Jr))) none) none) none) none) none) none) (
 LR ((i64.wrap (fe - 1)),(lN.set (fe.toNat) (i64.wrap (fe+1)))))) none) none) none) none) (
 uP lN)) s.1 s.2
noncomputable def zM (d:Nat) (x1:t3) (LQ:ByteArray) (tW:Int) (dX:List t10) (eU:List t1) (y_:List t4) (wg Jq Br Bt nP:List Int):Option t0 :=
 Q8 (mo d Jq (qB d x1 LQ tW dX eU y_ wg Br Bt nP)) Qc ((i64.wrap ((eU.length:Int) - 1)),(List.replicate ((eU.length:Int).toNat) (0:Int)))
noncomputable def mw (d:Nat) (dX:List t10) (zN:(Int×(List Int)×(List Int)×(List Int)×(List Int))->Option t0) (kN:Int) (nP wh:List Int) (mz:t1) (b41:Bool) (O5 O6:List Int):Option t0 :=
 aa (decide (0<=(((eD dX mz.2.1).getD 0):Int))) (
 aa (Nat.blt ((((eD dX mz.2.1).getD 0):Int).toNat) wh.length) (
 Q1 (wh[(((eD dX mz.2.1).getD 0):Int).toNat]?) fun n44 =>
 zN ((i64.wrap (kN+1)),O5,O6,(nP.set (kN.toNat) ((eD dX mz.2.1).getD 0)),(wh.set ((((eD dX mz.2.1).getD 0):Int).toNat) kN))) none) none
noncomputable def ia (d:Nat) (dX:List t10) (eU:List t1) (uQ:(List Int)->(List Int)->(List Int)->(List Int)->Option t0) (zN:(Int×(List Int)×(List Int)×(List Int)×(List Int))->Option t0) (s:(Int×(List Int)×(List Int)×(List Int)×(List Int))):Option t0 :=
(fun kN (Br:List Int) (Bt:List Int) (nP:List Int) (wh:List Int) =>
 aa (decide (kN < (eU.length:Int))) (
 aa (decide (0<=kN)) (
 aa (Nat.blt (kN.toNat) eU.length) (
 Q1 (eU[kN.toNat]?) fun mz =>
 aa (!((eD dX mz.2.1).isSome)) (
 aa (decide (0<=kN)) (
 aa (Nat.blt (kN.toNat) nP.length) (
 Q1 (nP[kN.toNat]?) fun n38 =>
 zN ((i64.wrap (kN+1)),Br,Bt,(nP.set (kN.toNat) (-1)),wh)) none) none) (
 aa (decide (0<=kN)) (
 aa (Nat.blt (kN.toNat) nP.length) (
 Q1 (nP[kN.toNat]?) fun Jp =>
 aa (decide (0<=(((eD dX mz.2.1).getD 0):Int))) (
 aa (Nat.blt ((((eD dX mz.2.1).getD 0):Int).toNat) wh.length) (
 Q1 (wh[(((eD dX mz.2.1).getD 0):Int).toNat]?) fun LP =>
 aa (decide (LP < 0)) (
 aa (decide (0<=(((eD dX mz.2.1).getD 0):Int))) (
 aa (Nat.blt ((((eD dX mz.2.1).getD 0):Int).toNat) Br.length) (
 Q1 (Br[(((eD dX mz.2.1).getD 0):Int).toNat]?) fun O7 =>
 mw d dX zN kN nP wh mz true (Br.set ((((eD dX mz.2.1).getD 0):Int).toNat) kN) Bt) none) none) (
 aa (decide (0<=(((eD dX mz.2.1).getD 0):Int))) (
 aa (Nat.blt ((((eD dX mz.2.1).getD 0):Int).toNat) wh.length) (
 Q1 (wh[(((eD dX mz.2.1).getD 0):Int).toNat]?) fun Jr =>
 aa (decide (0<=Jr)) (
 aa (Nat.blt (Jr.toNat) Bt.length) (
 Q1 (Bt[Jr.toNat]?) fun n43 =>
 mw d dX zN kN nP wh mz false Br (Bt.set (Jr.toNat) kN)) none) none) none) none)) none) none) none) none)) none) none) (
 uQ wh Br Bt nP)) s.1 s.2.1 s.2.2.1 s.2.2.2.1 s.2.2.2.2
noncomputable def jq (d:Nat) (x1:t3) (LQ:ByteArray) (tW:Int) (dX:List t10) (eU:List t1) (F_ Lu v_ tR:List Int) (y_:List t4) (wg:List Int):Option t0 :=
 Q1 (zJ (d+1) [(-1)] (eU.length:Int)) fun sy =>
 Q1 (zJ (d+1) [(-1)] (eU.length:Int)) fun uC =>
 aa (decide (0<=(eU.length:Int))) (
 aa (decide (0<=(eU.length:Int))) (
 aa (Nat.ble ((eU.length:Int).toNat) ((eU.length:Int).toNat)&&Nat.ble (((eU.length:Int).toNat)*8) Q7) (
 aa (decide (0<=(eU.length:Int))) (
 aa (decide (0<=(eU.length:Int))) (
 aa (Nat.ble ((eU.length:Int).toNat) ((eU.length:Int).toNat)&&Nat.ble (((eU.length:Int).toNat)*8) Q7) (
 Q1 (zJ (d+1) [(-1)] (eU.length:Int)) fun zO =>
 Q8 (ia d dX eU (zM d x1 LQ tW dX eU y_ wg)) Qc (0,sy,uC,(List.replicate ((eU.length:Int).toNat) (0:Int)),zO)) none) none) none) none) none) none
noncomputable def mA (d:Nat) (x1:t3) (pz:t6) (uR:ByteArray->Int->(List t10)->(List t1)->(List Int)->(List Int)->(List Int)->(List Int)->(List t4)->(List Int)->Option t0) (GM:(Int×t0×(List (List (List t10))))->Option t0) (s:(Int×t0×(List (List (List t10))))):Option t0 :=
(fun eK (nJ:t0) (dX:List (List (List t10))) =>
 aa (decide (eK < (pz.2.2.1.length:Int))) (
 aa (decide (0<=eK)) (
 aa (Nat.blt (eK.toNat) pz.2.2.1.length) (
 Q1 (pz.2.2.1[eK.toNat]?) fun pP =>
 aa (decide (0<=pP)) (
 Q1 (x1.2.1[pP.toNat]?) fun Uy =>
 aa (Nat.ble ((nJ.2.1.length+[Uy].length)*64) Q7) (
 aa (decide (0<=pP)) (
 Q1 (x1.2.1[pP.toNat]?) fun x23 =>
 GM ((i64.wrap (eK+1)),(nJ.1,(nJ.2.1++[Uy]),nJ.2.2),([[(gW (CC dX) x23.1 eK)]]:List (List (List t10))))) none) none) none) none) none) (
 uR nJ.1 nJ.2.2.2.2.2.2.2.2 (CC dX) nJ.2.1 nJ.2.2.1 nJ.2.2.2.1 nJ.2.2.2.2.1 nJ.2.2.2.2.2.1 nJ.2.2.2.2.2.2.1 nJ.2.2.2.2.2.2.2.1)) s.1 s.2.1 s.2.2
noncomputable def jr (d:Nat) (x1:t3) (r2:List t4) (s8:ByteArray) (l9:List t1) (l10:List t4) (iB:Int) (Eo:List ByteArray) (fc kK iA:List Int):Option t0 :=
 Q1 (nQ d ((s8,l9,l10,iB),Eo,fc,kK,iA) 0 (⟨#[125]⟩:ByteArray)) fun pz =>
 Q8 (mA d x1 pz (jq d x1)) Qc (0,(x1.1,[],[],[],[],[],r2,[],(-1)),([[([]:List t10)]]:List (List (List t10))))
noncomputable def gb (d:Nat) (x1:t3) (j8:ByteArray->(List t1)->(List t4)->Int->(List ByteArray)->(List Int)->(List Int)->(List Int)->Option t0) (Uq:(Int×t6)->Option t0) (s:(Int×t6)):Option t0 :=
(fun n8 (x9:t6) =>
 aa (decide (n8 < (x1.2.2.1.length:Int))) (
 aa (decide (0<=n8)) (
 Q1 (x1.2.2.1[n8.toNat]?) fun aR =>
 Q1 (GU d aR) fun gz =>
 Q1 (nQ d x9 1 gz) fun mZ =>
 Uq ((i64.wrap (n8+1)),mZ)) none) (
 j8 x9.1.1 x9.1.2.1 x9.1.2.2.1 x9.1.2.2.2 x9.2.1 x9.2.2.1 x9.2.2.2.1 x9.2.2.2.2)) s.1 s.2
noncomputable def eN (d:Nat) (x1:t3) (r2:List t4) (s3:ByteArray):Option t0 :=
 aa (Nat.ble (s3.size+((⟨#[32,123]⟩:ByteArray):ByteArray).size) 9223372036854775807) (
 Q1 (nQ d (x1,[],[],(List.replicate ((x1.2.1.length:Int).toNat) (0:Int)),(List.replicate ((x1.2.1.length:Int).toNat) (0:Int))) 0 (s3++((⟨#[32,123]⟩:ByteArray):ByteArray))) fun r4 =>
 Q1 (GS d x1) fun r5 =>
 Q1 (Cz d r4 r5 1) fun r6 =>
 Q8 (gb d x1 (jr d x1 r2)) Qc (0,r6)) none
theorem UR (d:Nat) (x1:t3):CD (d+2) x1 =
 Q1 (zm (d+1) x1.2.2.1) fun r2 =>
 aa (decide (0<=(x1.2.1.length:Int))) (
 aa (decide (0<=(x1.2.1.length:Int))) (
 aa (Nat.ble ((x1.2.1.length:Int).toNat) ((x1.2.1.length:Int).toNat)&&Nat.ble (((x1.2.1.length:Int).toNat)*8) Q7) (
 aa (decide (0<=(x1.2.1.length:Int))) (
 aa (decide (0<=(x1.2.1.length:Int))) (
 aa (Nat.ble ((x1.2.1.length:Int).toNat) ((x1.2.1.length:Int).toNat)&&Nat.ble (((x1.2.1.length:Int).toNat)*8) Q7) (
 aa (Nat.ble (((⟨#[113,100,105,115,99,32]⟩:ByteArray):ByteArray).size+x1.1.size) 9223372036854775807) (
 aa (x1.2.2.2 != 0) (
 Q1 (j6 d x1.2.2.2) fun r3 =>
 aa (Nat.ble (((⟨#[32,100,101,102,97,117,108,116,32]⟩:ByteArray):ByteArray).size+r3.size) 9223372036854775807) (
 aa (Nat.ble (((((⟨#[113,100,105,115,99,32]⟩:ByteArray):ByteArray)++x1.1):ByteArray).size+((((⟨#[32,100,101,102,97,117,108,116,32]⟩:ByteArray):ByteArray)++r3):ByteArray).size) 9223372036854775807) (
 eN d x1 r2 (((((⟨#[113,100,105,115,99,32]⟩:ByteArray):ByteArray)++x1.1):ByteArray)++((((⟨#[32,100,101,102,97,117,108,116,32]⟩:ByteArray):ByteArray)++r3):ByteArray))) none) none) (
 eN d x1 r2 (((⟨#[113,100,105,115,99,32]⟩:ByteArray):ByteArray)++x1.1))) none) none) none) none) none) none) none:=by kernel_rfl
noncomputable def GV (d:Nat) (b4:Bool):Option Bool :=
 some true
noncomputable def qC (d:Nat) (l1 l2:List t1) (uS:Bool->Option Bool) (bM:t9->Option Bool) (s:t9):Option Bool :=
(fun (b4:Bool) n5 =>
 aa (decide (n5 < (l1.length:Int))) (
 aa (decide (0<=n5)) (
 Q1 (l1[n5.toNat]?) fun x6 =>
 aa (decide (0<=n5)) (
 Q1 (l2[n5.toNat]?) fun x7 =>
 aa (!((x6.1==x7.1)&&((x6.2.1==x7.2.1)&&((x6.2.2.1==x7.2.2.1)&&((x6.2.2.2.1==x7.2.2.2.1)&&((x6.2.2.2.2.1==x7.2.2.2.2.1)&&((x6.2.2.2.2.2.1==x7.2.2.2.2.2.1)&&((x6.2.2.2.2.2.2.1==x7.2.2.2.2.2.2.1)&&((x6.2.2.2.2.2.2.2==x7.2.2.2.2.2.2.2)&&true))))))))) (
 some false) (
 bM (b4,(i64.wrap (n5+1))))) none) none) (
 uS b4)) s.1 s.2
theorem US (d:Nat) (l1 l2:List t1):GX (d+1) l1 l2 =
 aa ((l1.length:Int) != (l2.length:Int)) (
 some false) (
 Q8 (qC d l1 l2 (GV d)) Qc (false,0)):=by kernel_rfl
noncomputable def GY (d:Nat) (b4:Bool):Option Bool :=
 some true
noncomputable def qD (d:Nat) (l1 l2:List Int) (uT:Bool->Option Bool) (bM:t9->Option Bool) (s:t9):Option Bool :=
(fun (b4:Bool) n5 =>
 aa (decide (n5 < (l1.length:Int))) (
 aa (decide (0<=n5)) (
 Q1 (l1[n5.toNat]?) fun n6 =>
 aa (decide (0<=n5)) (
 Q1 (l2[n5.toNat]?) fun n7 =>
 aa (n6 != n7) (
 some false) (
 bM (b4,(i64.wrap (n5+1))))) none) none) (
 uT b4)) s.1 s.2
theorem UT (d:Nat) (l1 l2:List Int):qE (d+1) l1 l2 =
 aa ((l1.length:Int) != (l2.length:Int)) (
 some false) (
 Q8 (qD d l1 l2 (GY d)) Qc (false,0)):=by kernel_rfl
noncomputable def qF (d:Nat) (x1:t0) (b2:Bool):Option Bool :=
 aa b2 (
 some false) (
 Q1 (LJ d x1) fun r3 =>
 Q1 (Jn d r3) fun r4 =>
 aa (!r4) (
 some false) (
 Q1 (CD d r3) fun r5 =>
 Q1 (GX d x1.2.1 r5.2.1) fun r6 =>
 aa r6 (
 Q1 (qE d x1.2.2.1 r5.2.2.1) fun r7 =>
 aa r7 (
 Q1 (qE d x1.2.2.2.1 r5.2.2.2.1) fun r8 =>
 aa r8 (
 Q1 (qE d x1.2.2.2.2.1 r5.2.2.2.2.1) fun r9 =>
 aa r9 (
 Q1 (qE d x1.2.2.2.2.2.1 r5.2.2.2.2.2.1) fun oJ =>
 aa oJ (
 Q1 (qE d x1.2.2.2.2.2.2.2.1 r5.2.2.2.2.2.2.2.1) fun gz =>
 aa gz (
 some (x1.2.2.2.2.2.2.2.2==r5.2.2.2.2.2.2.2.2)) (
 some false)) (
 some false)) (
 some false)) (
 some false)) (
 some false)) (
 some false)))
theorem UU (d:Nat) (x1:t0):GZ (d+1) x1 =
 aa (decide ((x1.2.1.length:Int) > 24)) (
 qF d x1 true) (
 qF d x1 (decide ((x1.2.2.2.2.2.2.1.length:Int) > 16))):=by kernel_rfl
noncomputable def G0 (d:Nat) (b5:Bool):Option Bool :=
 some true
noncomputable def jt (d:Nat) (iH:t9->Option Bool) (b5:Bool) (n6 n8 n9:Int) (F2 yu F3 v7 b14 b15 b16:Bool):Option Bool :=
 aa b16 (
 some false) (
 iH (b5,(i64.wrap (n6+1))))
noncomputable def qG (d:Nat) (x1:t0) (x2:t7) (uU:Bool->Option Bool) (iH:t9->Option Bool) (s:t9):Option Bool :=
(fun (b5:Bool) n6 =>
 aa (decide (n6 < (x1.2.1.length:Int))) (
 aa (decide (0<=n6)) (
 Q1 (x1.2.1[n6.toNat]?) fun x7 =>
 aa (decide (0<=n6)) (
 Q1 (x2.1[n6.toNat]?) fun n8 =>
 aa (decide (n8 < 0)) (
 jt d iH b5 n6 n8 n8 (decide (n8 < 0)) true true true true true true) (
 aa (decide (0<=n6)) (
 Q1 (x2.1[n6.toNat]?) fun n9 =>
 aa (decide (n9 > x7.2.2.2.2.1)) (
 jt d iH b5 n6 n8 n8 (decide (n8 < 0)) false (decide (n9 > x7.2.2.2.2.1)) true true true true) (
 aa (decide (0<=n6)) (
 Q1 (x2.2[n6.toNat]?) fun cQ =>
 aa (decide (cQ < 0)) (
 jt d iH b5 n6 n8 n8 (decide (n8 < 0)) false (decide (n9 > x7.2.2.2.2.1)) false (decide (cQ < 0)) true true) (
 aa (decide (0<=n6)) (
 Q1 (x2.2[n6.toNat]?) fun iB =>
 jt d iH b5 n6 n8 n8 (decide (n8 < 0)) false (decide (n9 > x7.2.2.2.2.1)) false (decide (cQ < 0)) false (decide (iB > x7.2.2.2.2.2.1))) none)) none)) none)) none) none) (
 uU b5)) s.1 s.2
noncomputable def qH (d:Nat) (x1:t0) (x2:t7) (b3:Bool):Option Bool :=
 aa b3 (
 some false) (
 Q8 (qG d x1 x2 (G0 d)) Qc (false,0))
theorem UW (d:Nat) (x1:t0) (x2:t7):G3 (d+1) x1 x2 =
 aa ((x2.1.length:Int) != (x1.2.1.length:Int)) (
 qH d x1 x2 true) (
 qH d x1 x2 ((x2.2.length:Int) != (x1.2.1.length:Int))):=by kernel_rfl
noncomputable def G4 (d:Nat) (l3:List Int):Option (List Int) :=
 some l3
noncomputable def qI (d:Nat) (x1:t0) (uV:(List Int)->Option (List Int)) (bW:t16->Option (List Int)) (s:t16):Option (List Int) :=
(fun (l3:List Int) n4 =>
 aa (decide (n4 < (x1.2.1.length:Int))) (
 aa (decide (0<=n4)) (
 Q1 (x1.2.2.2.1[n4.toNat]?) fun n5 =>
 aa (decide (n5 < 0)) (
 aa (Nat.ble ((l3.length+[n4].length)*8) Q7) (
 bW ((l3++[n4]),(i64.wrap (n4+1)))) none) (
 bW (l3,(i64.wrap (n4+1))))) none) (
 uV l3)) s.1 s.2
theorem UX (d:Nat) (x1:t0):nR (d+1) x1 =
 Q8 (qI d x1 (G4 d)) Qc (([]:List Int),0):=by kernel_rfl
theorem LU (d:Nat) (x1:t5):G5 (d+1) x1 =
 some (x1.2.1,x1.2.2.1,x1.2.2.2.1,x1.2.2.2.2.1):=by kernel_rfl
noncomputable def qJ (d:Nat) (x1:t5) (b4:Bool):Option Bool :=
 aa (decide (x1.1>=1)) (
 aa (decide (x1.1<=100000)) (
 aa (decide (x1.2.2.2.2.2>=1)) (
 some (decide (x1.2.2.2.2.2<=1500))) (
 some false)) (
 some false)) (
 some false)
noncomputable def zP (d:Nat) (r2:(Int×Int×Int×Int)) (uW:Bool->Option Bool) (bM:t9->Option Bool) (s:t9):Option Bool :=
(fun (b4:Bool) n5 =>
 aa (decide (n5 < 4)) (
 aa (decide (0<=n5)) (
 Q1 (([r2.1,r2.2.1,r2.2.2.1,r2.2.2.2]:List Int)[n5.toNat]?) fun n6 =>
 aa (decide (n6 < 0)) (
 some false) (
 aa (decide (n6 > 65535)) (
 some false) (
 bM (b4,(i64.wrap (n5+1)))))) none) (
 uW b4)) s.1 s.2
theorem UY (d:Nat) (x1:t5):CE (d+1) x1 =
 Q1 (G5 d x1) fun r2 =>
 Q8 (zP d r2 (qJ d x1)) Qc (false,0):=by kernel_rfl
theorem UZ (d:Nat) (x1:t4) (x2:t5):G6 (d+1) x1 x2 =
 Q1 (G5 d x2) fun r3 =>
 aa (decide (0<=x1.2.1)) (
 Q1 (([r3.1,r3.2.1,r3.2.2.1,r3.2.2.2]:List Int)[x1.2.1.toNat]?) fun n4 =>
 some (((i64.wrap ((BitVec.ofInt i64.bits n4 &&& BitVec.ofInt i64.bits x1.2.2.1).toNat:Int)):Int)==x1.2.2.2.1)) none:=by kernel_rfl
noncomputable def G7 (d:Nat) (n4:Int):Option Int :=
 some (-1)
noncomputable def qK (d:Nat) (l1:List t4) (x2:t5) (uX:Int->Option Int) (bM:t10->Option Int) (s:t10):Option Int :=
(fun n4 n5 =>
 aa (decide (n5 < (l1.length:Int))) (
 aa (decide (0<=n5)) (
 Q1 (l1[n5.toNat]?) fun x6 =>
 Q1 (G6 d x6 x2) fun r7 =>
 aa r7 (
 some n5) (
 bM (n4,(i64.wrap (n5+1))))) none) (
 uX n4)) s.1 s.2
theorem U0 (d:Nat) (l1:List t4) (x2:t5):G8 (d+1) l1 x2 =
 Q8 (qK d l1 x2 (G7 d)) Qc (0,0):=by kernel_rfl
theorem U3 (d:Nat) (x1:t0) (x2:t5):CF (d+1) x1 x2 =
 Q1 (G8 d x1.2.2.2.2.2.2.1 x2) fun r3 =>
 aa (decide (r3>=0)) (
 aa (decide (0<=r3)) (
 Q1 (x1.2.2.2.2.2.2.2.1[r3.toNat]?) fun n4 =>
 some n4) none) (
 some x1.2.2.2.2.2.2.2.2):=by kernel_rfl
noncomputable def ju (d:Nat) (n4:Int):Option Bool :=
 some (decide (((-1):Int)>=0))
noncomputable def dP (d:Nat) (l1:List t5) (n2:Int) (gE:Int->Option Bool) (bM:t10->Option Bool) (s:t10):Option Bool :=
(fun n4 n5 =>
 aa (decide (n5 < (l1.length:Int))) (
 aa (decide (0<=n5)) (
 Q1 (l1[n5.toNat]?) fun x6 =>
 aa (x6.1==n2) (
 some (decide (n5>=0))) (
 bM (n4,(i64.wrap (n5+1))))) none) (
 gE n4)) s.1 s.2
theorem U4 (d:Nat) (l1:List t5) (n2:Int):G9 (d+4) l1 n2 =
 Q8 (dP d l1 n2 (ju d)) Qc (0,0):=by kernel_rfl
noncomputable def G_ (d:Nat) (b3:Bool):Option Bool :=
 some true
noncomputable def qL (d:Nat) (l1:List t5) (uY:Bool->Option Bool) (bW:t9->Option Bool) (s:t9):Option Bool :=
(fun (b3:Bool) n4 =>
 aa (decide (n4 < (l1.length:Int))) (
 aa (decide (0<=n4)) (
 Q1 (l1[n4.toNat]?) fun x5 =>
 Q1 (CE d x5) fun r6 =>
 aa (!r6) (
 some false) (
 aa (decide (0<=n4)) (
 aa (Nat.ble (n4.toNat) l1.length) (
 Q1 (G9 d (l1.take (n4.toNat)) x5.1) fun r7 =>
 aa r7 (
 some false) (
 bW (b3,(i64.wrap (n4+1))))) none) none)) none) (
 uY b3)) s.1 s.2
theorem U5 (d:Nat) (l1:List t5):He (d+1) l1 =
 Q8 (qL d l1 (G_ d)) Qc (false,0):=by kernel_rfl
noncomputable def zQ (d:Nat) (l5:List t5):Option (List t5) :=
 some l5
noncomputable def mB (d:Nat) (l1:List (List t5)) (ic:(List t5)->Option (List t5)) (iH:((List t5)×Int)->Option (List t5)) (s:((List t5)×Int)):Option (List t5) :=
(fun (l5:List t5) n6 =>
 aa (decide (n6 < (l1.length:Int))) (
 aa (decide (0<=n6)) (
 Q1 (l1[n6.toNat]?) fun l7 =>
 aa (Nat.ble ((l5.length+l7.length)*48) Q7) (
 iH ((l5++l7),(i64.wrap (n6+1)))) none) none) (
 ic l5)) s.1 s.2
noncomputable def zS (d:Nat) (l9:List t5):Option (List t5) :=
 some l9
noncomputable def iR (d:Nat) (l1:List (List t5)) (ic:(List t5)->Option (List t5)) (oL:((List t5)×Int)->Option (List t5)) (s:((List t5)×Int)):Option (List t5) :=
(fun (l9:List t5) cQ =>
 aa (decide (cQ < (l1.length:Int))) (
 aa (decide (0<=cQ)) (
 Q1 (l1[cQ.toNat]?) fun lH =>
 aa (Nat.ble ((l9.length+lH.length)*48) Q7) (
 oL ((l9++lH),(i64.wrap (cQ+1)))) none) none) (
 ic l9)) s.1 s.2
noncomputable def mD (d:Nat) (l1:List (List t5)) (n3:Int):Option (List t5) :=
 aa (decide (n3 < 0)) (
 none) (
 aa (decide (((i64.wrap (n3 - (i64.wrap ((0:Int) - ((0:Nat):Int))))):Int) > 0)) (
 aa (Nat.ble 0 0) (
 aa (decide (0<=((i64.wrap (n3 - (i64.wrap ((0:Int) - ((0:Nat):Int))))):Int))&&decide (((i64.wrap (n3 - (i64.wrap ((0:Int) - ((0:Nat):Int))))):Int)*((48:Nat):Int)<=(Q7:Int))) (
 aa (Nat.ble ((List.replicate ((i64.wrap (n3 - (i64.wrap ((0:Int) - ((0:Nat):Int))))):Int).toNat ((0,0,0,0,0,0):t5)).length*48) Q7) (
 aa (decide (0<=(((0:Nat):Int):Int))) (
 aa (Nat.ble ((((0:Nat):Int):Int).toNat) ((List.replicate ((i64.wrap (n3 - (i64.wrap ((0:Int) - ((0:Nat):Int))))):Int).toNat ((0,0,0,0,0,0):t5)).length)) (
 Q8 (mB d l1 (zQ d)) Qc (((List.replicate ((i64.wrap (n3 - (i64.wrap ((0:Int) - ((0:Nat):Int))))):Int).toNat ((0,0,0,0,0,0):t5)).take ((((0:Nat):Int):Int).toNat)),0)) none) none) none) none) none) (
 Q8 (iR d l1 (zS d)) Qc ([],0)))
noncomputable def mE (d:Nat) (l1:List (List t5)) (uZ:Int->Option (List t5)) (bW:t10->Option (List t5)) (s:t10):Option (List t5) :=
(fun n3 n4 =>
 aa (decide (n4 < (l1.length:Int))) (
 aa (decide (0<=n4)) (
 Q1 (l1[n4.toNat]?) fun l5 =>
 aa (decide (((i64.wrap (n3+(l5.length:Int))):Int) < 0)) (
 none) (
 bW ((i64.wrap (n3+(l5.length:Int))),(i64.wrap (n4+1))))) none) (
 uZ n3)) s.1 s.2
theorem U6 (d:Nat) (l1:List (List t5)):Hf (d+2) l1 =
 Q8 (mE d l1 (mD d l1)) Qc (0,0):=by kernel_rfl
noncomputable def zT (d:Nat) (x1:t2) (b6:Bool):Option Bool :=
 Q1 (Hf d x1.2.2.1) fun r7 =>
 Q1 (He d r7) fun r8 =>
 some r8
noncomputable def Es (d:Nat) (fZ:t9->Option Bool) (n7:Int) (v7:Bool) (nK:Int):Option Bool :=
 fZ (v7,(i64.wrap (n7+1)))
noncomputable def zU (d:Nat) (x1:t2) (n8:Int) (lH:List t5) (zV:Bool->Int->Option Bool) (Gc:t9->Option Bool) (s:t9):Option Bool :=
(fun (v7:Bool) nK =>
 aa (decide (nK < (lH.length:Int))) (
 aa (decide (0<=nK)) (
 Q1 (lH[nK.toNat]?) fun O4 =>
 Q1 (CE d O4) fun pz =>
 aa (!pz) (
 some false) (
 Q1 (CF d x1.1 O4) fun F4 =>
 aa (F4 != n8) (
 some false) (
 Gc (v7,(i64.wrap (nK+1)))))) none) (
 zV v7 nK)) s.1 s.2
noncomputable def zW (d:Nat) (x1:t2) (r3:List Int) (zX:Bool->Option Bool) (fZ:t9->Option Bool) (s:t9):Option Bool :=
(fun (b6:Bool) n7 =>
 aa (decide (n7 < (r3.length:Int))) (
 aa (decide (0<=n7)) (
 aa (Nat.blt (n7.toNat) r3.length) (
 Q1 (r3[n7.toNat]?) fun n8 =>
 aa (decide (0<=n7)) (
 Q1 (x1.2.2.1[n7.toNat]?) fun l9 =>
 aa (decide (0<=n8)) (
 Q1 (x1.1.2.1[n8.toNat]?) fun aR =>
 aa (decide ((l9.length:Int) > aR.2.2.2.2.2.2.2)) (
 some false) (
 aa (decide (0<=n7)) (
 Q1 (x1.2.2.1[n7.toNat]?) fun lH =>
 Q8 (zU d x1 n8 lH (Es d fZ n7)) Qc (b6,0)) none)) none) none) none) none) (
 zX b6)) s.1 s.2
noncomputable def kO (d:Nat) (x1:t2) (r3:List Int) (b4:Bool):Option Bool :=
 aa b4 (
 some false) (
 Q8 (zW d x1 r3 (zT d x1)) Qc (false,0))
noncomputable def zY (d:Nat) (x1:t2) (b2:Bool):Option Bool :=
 aa b2 (
 some false) (
 Q1 (nR d x1.1) fun r3 =>
 aa ((x1.2.2.1.length:Int) != (r3.length:Int)) (
 kO d x1 r3 true) (
 aa (decide (x1.2.2.2.1 < (-1))) (
 kO d x1 r3 true) (
 aa (decide (x1.2.2.2.1>=(r3.length:Int))) (
 kO d x1 r3 true) (
 aa (decide (x1.2.2.2.2 < 0)) (
 kO d x1 r3 true) (
 kO d x1 r3 (decide (x1.2.2.2.2 > 1000000)))))))
theorem e70 (d:Nat) (x1:t2):O8 (d+1) x1 =
 Q1 (GZ d x1.1) fun r2 =>
 aa (!r2) (
 zY d x1 true) (
 Q1 (G3 d x1.1 x1.2.1) fun r3 =>
 zY d x1 (!r3)):=by kernel_rfl
noncomputable def Hg (d:Nat) (l3 l4:List Int):Option t7 :=
 some (l3,l4)
noncomputable def qM (d:Nat) (x1:t0) (u9:(List Int)->(List Int)->Option t7) (bW:(Int×t7)->Option t7) (s:(Int×t7)):Option t7 :=
(fun n3 (x4:t7) =>
 aa (decide (n3 < (x1.2.1.length:Int))) (
 aa (decide (0<=n3)) (
 Q1 (x1.2.1[n3.toNat]?) fun x5 =>
 aa (Nat.ble ((x4.1.length+[x5.2.2.2.2.1].length)*8) Q7) (
 aa (Nat.ble ((x4.2.length+[x5.2.2.2.2.2.1].length)*8) Q7) (
 bW ((i64.wrap (n3+1)),((x4.1++[x5.2.2.2.2.1]),(x4.2++[x5.2.2.2.2.2.1])))) none) none) none) (
 u9 x4.1 x4.2)) s.1 s.2
theorem U7 (d:Nat) (x1:t0):Hh (d+1) x1 =
 Q8 (qM d x1 (Hg d)) Qc (0,([],[])):=by kernel_rfl
noncomputable def qN (d:Nat) (x1:t2) (r3:t0) (l7 l8 l10:List Int) (lH:List (List t5)) (eo:Int):Option t8 :=
 some ((r3,(l7,l8),lH,(-1),x1.2.2.2.2),l10)
noncomputable def fY (d:Nat) (x1:t2) (r3:t0) (l7 l8 l10:List Int) (lH:List (List t5)) (kH:t1) (v8:List Int) (j9:Int->Option t8) (Ga:t10->Option t8) (s:t10):Option t8 :=
(fun eo eK =>
 aa (decide (eK < (v8.length:Int))) (
 aa (decide (0<=eK)) (
 aa (Nat.blt (eK.toNat) v8.length) (
 Q1 (v8[eK.toNat]?) fun tW =>
 aa (decide (0<=tW)) (
 aa (Nat.blt (tW.toNat) r3.2.1.length) (
 Q1 (r3.2.1[tW.toNat]?) fun Ct =>
 aa (Ct.1==kH.1) (
 some ((r3,(l7,l8),lH,eK,x1.2.2.2.2),l10)) (
 Ga (eo,(i64.wrap (eK+1))))) none) none) none) none) (
 j9 eo)) s.1 s.2
noncomputable def o8 (d:Nat) (x1:t2) (r3:t0) (l7 l8 l10:List Int) (lH:List (List t5)):Option t8 :=
 aa (decide (x1.2.2.2.1>=0)) (
 Q1 (nR (d+2) x1.1) fun mZ =>
 aa (decide (0<=x1.2.2.2.1)) (
 aa (Nat.blt (x1.2.2.2.1.toNat) mZ.length) (
 Q1 (mZ[x1.2.2.2.1.toNat]?) fun j4 =>
 aa (decide (0<=j4)) (
 Q1 (x1.1.2.1[j4.toNat]?) fun kH =>
 Q1 (nR (d+2) r3) fun v8 =>
 Q8 (fY d x1 r3 l7 l8 l10 lH kH v8 (qN d x1 r3 l7 l8 l10 lH)) Qc (0,0)) none) none) none) (
 some ((r3,(l7,l8),lH,(-1),x1.2.2.2.2),l10))
noncomputable def w7 (d:Nat) (uE:t12->Option t8) (iB eV:Int) (pU:List Int) (fQ:List (List t5)):Option t8 :=
 uE (pU,(i64.wrap (iB+1)),fQ)
noncomputable def cB (d:Nat) (gC:t12->Option t8) (iA:List Int) (cT:Int) (f_:t5) (tW n20:Int) (eU:List (List t5)):Option t8 :=
 aa (tW != 1) (
 aa (Nat.ble ((iA.length+[f_.1].length)*8) Q7) (
 gC ((iA++[f_.1]),(i64.wrap (cT+1)),eU)) none) (
 gC (iA,(i64.wrap (cT+1)),eU))
noncomputable def lq (d:Nat) (r3:t0) (fc:List t5) (u_:Int->(List Int)->(List (List t5))->Option t8) (gC:t12->Option t8) (s:t12):Option t8 :=
(fun (iA:List Int) cT (fQ:List (List t5)) =>
 aa (decide (cT < (fc.length:Int))) (
 aa (decide (0<=cT)) (
 Q1 (fc[cT.toNat]?) fun f_ =>
 Q1 (CF (d+1) r3 f_) fun sq =>
 aa (decide (sq < 0)) (
 cB d gC iA cT f_ 3 0 fQ) (
 aa (decide (0<=sq)) (
 aa (Nat.blt (sq.toNat) r3.2.1.length) (
 Q1 (r3.2.1[sq.toNat]?) fun Ct =>
 Q1 (nR (d+1) r3) fun U8 =>
 Q1 (zd (d+1) U8 sq) fun sw =>
 aa (decide (0<=sw)) (
 aa (Nat.blt (sw.toNat) fQ.length) (
 Q1 (fQ[sw.toNat]?) fun Lu =>
 aa ((Lu.length:Int)==Ct.2.2.2.2.2.2.2) (
 cB d gC iA cT f_ 2 Ct.1 fQ) (
 aa (decide (0<=sw)) (
 aa (Nat.blt (sw.toNat) fQ.length) (
 Q1 (fQ[sw.toNat]?) fun v_ =>
 aa (Nat.ble ((v_.length+[f_].length)*48) Q7) (
 aa (decide (0<=sw)) (
 aa (Nat.blt (sw.toNat) fQ.length) (
 aa (Nat.beq (sw.toNat) (sw.toNat)) (
 Q1 (fQ[sw.toNat]?) fun tR =>
 cB d gC iA cT f_ 1 Ct.1 (fQ.set (sw.toNat) (v_++[f_]))) none) none) none) none) none) none)) none) none) none) none)) none) (
 u_ cT iA fQ)) s.1 s.2.1 s.2.2
noncomputable def lu (d:Nat) (x1:t2) (r3:t0) (vb:(List Int)->(List (List t5))->Option t8) (uE:t12->Option t8) (s:t12):Option t8 :=
(fun (l10:List Int) iB (Eo:List (List t5)) =>
 aa (decide (iB < (x1.2.2.1.length:Int))) (
 aa (decide (0<=iB)) (
 Q1 (x1.2.2.1[iB.toNat]?) fun fc =>
 Q8 (lq d r3 fc (w7 d uE iB)) Qc (l10,0,Eo)) none) (
 vb l10 Eo)) s.1 s.2.1 s.2.2
noncomputable def w8 (d:Nat) (x1:t2) (r3:t0) (r5 l7 l8:List Int):Option t8 :=
 Q8 (lu d x1 r3 (o8 d x1 r3 l7 l8)) Qc (([]:List Int),0,(List.replicate ((r5.length:Int).toNat) ([]:List t5)))
noncomputable def cA (d:Nat) (x1:t2) (gA:t17->Option t8) (n7:Int) (l8 l9:List Int) (aR:t1) (iB:Int):Option t8 :=
 aa (decide (iB>=0)) (
 aa (decide (0<=iB)) (
 Q1 (x1.2.1.1[iB.toNat]?) fun su =>
 aa (decide (0<=n7)) (
 aa (Nat.blt (n7.toNat) l8.length) (
 Q1 (l8[n7.toNat]?) fun j4 =>
 aa (decide (0<=iB)) (
 Q1 (x1.2.1.2[iB.toNat]?) fun nK =>
 aa (decide (0<=n7)) (
 aa (Nat.blt (n7.toNat) l9.length) (
 Q1 (l9[n7.toNat]?) fun eV =>
 gA ((i64.wrap (n7+1)),(l8.set (n7.toNat) (if aR.2.2.2.2.1 < su then aR.2.2.2.2.1 else su)),(l9.set (n7.toNat) (if aR.2.2.2.2.2.1 < nK then aR.2.2.2.2.2.1 else nK)))) none) none) none) none) none) none) (
 gA ((i64.wrap (n7+1)),l8,l9))
noncomputable def qO (d:Nat) (x1:t2) (gA:t17->Option t8) (n7:Int) (l8 l9:List Int) (aR:t1) (su:Int):Option t8 :=
 cA d x1 gA n7 l8 l9 aR (-1)
noncomputable def fX (d:Nat) (x1:t2) (gA:t17->Option t8) (n7:Int) (l8 l9:List Int) (aR:t1) (j_:Int->Option t8) (U9:t10->Option t8) (s:t10):Option t8 :=
(fun su j4 =>
 aa (decide (j4 < (x1.1.2.1.length:Int))) (
 aa (decide (0<=j4)) (
 Q1 (x1.1.2.1[j4.toNat]?) fun kH =>
 aa (kH.1==aR.1) (
 cA d x1 gA n7 l8 l9 aR j4) (
 U9 (su,(i64.wrap (j4+1))))) none) (
 j_ su)) s.1 s.2
noncomputable def lp (d:Nat) (x1:t2) (r3:t0) (vc:(List Int)->(List Int)->Option t8) (gA:t17->Option t8) (s:t17):Option t8 :=
(fun n7 (l8:List Int) (l9:List Int) =>
 aa (decide (n7 < (r3.2.1.length:Int))) (
 aa (decide (0<=n7)) (
 aa (Nat.blt (n7.toNat) r3.2.1.length) (
 Q1 (r3.2.1[n7.toNat]?) fun aR =>
 Q8 (fX d x1 gA n7 l8 l9 aR (qO d x1 gA n7 l8 l9 aR)) Qc (0,0)) none) none) (
 vc l8 l9)) s.1 s.2.1 s.2.2
theorem Sw (d:Nat) (x1:t2) (x2:t3):FO (d+3) x1 x2 =
 Q1 (CD (d+2) x2) fun r3 =>
 Q1 (Hh (d+2) r3) fun r4 =>
 Q1 (nR (d+2) r3) fun r5 =>
 aa (decide (0<=(r5.length:Int))) (
 aa (decide (0<=(r5.length:Int))) (
 aa (Nat.ble ((r5.length:Int).toNat) ((r5.length:Int).toNat)&&Nat.ble (((r5.length:Int).toNat)*24) Q7) (
 Q8 (lp d x1 r3 (w8 d x1 r3 r5)) Qc (0,r4.1,r4.2)) none) none) none:=by kernel_rfl
noncomputable def xh (d:Nat) (x1:t2) (x2:t3) (b3:Bool):Option t15 :=
 aa b3 (
 some ((((⟨#[]⟩:ByteArray),[],[],[],[],[],[],[],0),([],[]),[],0,0),[],false)) (
 Q1 (FO d x1 x2) fun r4 =>
 some (r4.1,r4.2,true))
theorem e72 (d:Nat) (x1:t2) (x2:t3):OS (d+1) x1 x2 =
 Q1 (O8 d x1) fun r3 =>
 aa (!r3) (
 xh d x1 x2 true) (
 Q1 (Jn d x2) fun r4 =>
 xh d x1 x2 (!r4)):=by kernel_rfl
theorem e20 (d:Nat) (x1:t2) (x2:t1):g20 (d+3) x1 x2 =
 Q1 (O8 (d+1) x1) fun r3 =>
 aa (!r3) (
 some ((((⟨#[]⟩:ByteArray),[],[],[],[],[],[],[],0),([],[]),[],0,0),[],false)) (
 Q1 (LJ (d+1) x1.1) fun r4 =>
 Q1 (SZ d r4 x2) fun r5 =>
 aa (!r5.2) (
 some ((((⟨#[]⟩:ByteArray),[],[],[],[],[],[],[],0),([],[]),[],0,0),[],false)) (
 Q1 (OS (d+1) x1 r5.1) fun r6 =>
 some (r6.1,r6.2.1,r6.2.2))):=by kernel_rfl
noncomputable def zZ (d:Nat) (n4:Int) (l5:List t1):Option t13 :=
 some (n4,l5)
noncomputable def sC (d:Nat) (z_:Int->(List t1)->Option t13) (bM:(Int×Int×(List t1))->Option t13) (s:(Int×Int×(List t1))):Option t13 :=
(fun n4 n5 (l6:List t1) =>
 aa (decide (n5 < (l6.length:Int))) (
 aa (decide (0<=n5)) (
 aa (Nat.blt (n5.toNat) l6.length) (
 Q1 (l6[n5.toNat]?) fun x7 =>
 aa (decide (0<=n5)) (
 aa (Nat.blt (n5.toNat) ((l6.set (n5.toNat) (n4,x7.2)).length)) (
 Q1 ((l6.set (n5.toNat) (n4,x7.2))[n5.toNat]?) fun x8 =>
 aa (decide (0<=n5)) (
 aa (Nat.blt (n5.toNat) (((l6.set (n5.toNat) (n4,x7.2)).set (n5.toNat) (x8.1,(i64.wrap (n4+1)),x8.2.2)).length)) (
 Q1 (((l6.set (n5.toNat) (n4,x7.2)).set (n5.toNat) (x8.1,(i64.wrap (n4+1)),x8.2.2))[n5.toNat]?) fun x9 =>
 aa (decide (0<=n5)) (
 aa (Nat.blt (n5.toNat) ((((l6.set (n5.toNat) (n4,x7.2)).set (n5.toNat) (x8.1,(i64.wrap (n4+1)),x8.2.2)).set (n5.toNat) (x9.1,x9.2.1,(i64.wrap ((i64.wrap (n4+1))+1)),x9.2.2.2)).length)) (
 Q1 ((((l6.set (n5.toNat) (n4,x7.2)).set (n5.toNat) (x8.1,(i64.wrap (n4+1)),x8.2.2)).set (n5.toNat) (x9.1,x9.2.1,(i64.wrap ((i64.wrap (n4+1))+1)),x9.2.2.2))[n5.toNat]?) fun aR =>
 aa (decide (0<=n5)) (
 aa (Nat.blt (n5.toNat) (((((l6.set (n5.toNat) (n4,x7.2)).set (n5.toNat) (x8.1,(i64.wrap (n4+1)),x8.2.2)).set (n5.toNat) (x9.1,x9.2.1,(i64.wrap ((i64.wrap (n4+1))+1)),x9.2.2.2)).set (n5.toNat) (aR.1,aR.2.1,aR.2.2.1,(i64.wrap ((i64.wrap ((i64.wrap (n4+1))+1))+1)),aR.2.2.2.2)).length)) (
 Q1 (((((l6.set (n5.toNat) (n4,x7.2)).set (n5.toNat) (x8.1,(i64.wrap (n4+1)),x8.2.2)).set (n5.toNat) (x9.1,x9.2.1,(i64.wrap ((i64.wrap (n4+1))+1)),x9.2.2.2)).set (n5.toNat) (aR.1,aR.2.1,aR.2.2.1,(i64.wrap ((i64.wrap ((i64.wrap (n4+1))+1))+1)),aR.2.2.2.2))[n5.toNat]?) fun bN =>
 aa (decide (0<=n5)) (
 aa (Nat.blt (n5.toNat) ((((((l6.set (n5.toNat) (n4,x7.2)).set (n5.toNat) (x8.1,(i64.wrap (n4+1)),x8.2.2)).set (n5.toNat) (x9.1,x9.2.1,(i64.wrap ((i64.wrap (n4+1))+1)),x9.2.2.2)).set (n5.toNat) (aR.1,aR.2.1,aR.2.2.1,(i64.wrap ((i64.wrap ((i64.wrap (n4+1))+1))+1)),aR.2.2.2.2)).set (n5.toNat) (bN.1,bN.2.1,bN.2.2.1,bN.2.2.2.1,(i64.wrap ((i64.wrap ((i64.wrap ((i64.wrap (n4+1))+1))+1))+1)),bN.2.2.2.2.2)).length)) (
 Q1 ((((((l6.set (n5.toNat) (n4,x7.2)).set (n5.toNat) (x8.1,(i64.wrap (n4+1)),x8.2.2)).set (n5.toNat) (x9.1,x9.2.1,(i64.wrap ((i64.wrap (n4+1))+1)),x9.2.2.2)).set (n5.toNat) (aR.1,aR.2.1,aR.2.2.1,(i64.wrap ((i64.wrap ((i64.wrap (n4+1))+1))+1)),aR.2.2.2.2)).set (n5.toNat) (bN.1,bN.2.1,bN.2.2.1,bN.2.2.2.1,(i64.wrap ((i64.wrap ((i64.wrap ((i64.wrap (n4+1))+1))+1))+1)),bN.2.2.2.2.2))[n5.toNat]?) fun dy =>
 aa (decide (0<=n5)) (
 aa (Nat.blt (n5.toNat) (((((((l6.set (n5.toNat) (n4,x7.2)).set (n5.toNat) (x8.1,(i64.wrap (n4+1)),x8.2.2)).set (n5.toNat) (x9.1,x9.2.1,(i64.wrap ((i64.wrap (n4+1))+1)),x9.2.2.2)).set (n5.toNat) (aR.1,aR.2.1,aR.2.2.1,(i64.wrap ((i64.wrap ((i64.wrap (n4+1))+1))+1)),aR.2.2.2.2)).set (n5.toNat) (bN.1,bN.2.1,bN.2.2.1,bN.2.2.2.1,(i64.wrap ((i64.wrap ((i64.wrap ((i64.wrap (n4+1))+1))+1))+1)),bN.2.2.2.2.2)).set (n5.toNat) (dy.1,dy.2.1,dy.2.2.1,dy.2.2.2.1,dy.2.2.2.2.1,(i64.wrap ((i64.wrap ((i64.wrap ((i64.wrap ((i64.wrap (n4+1))+1))+1))+1))+1)),dy.2.2.2.2.2.2)).length)) (
 Q1 (((((((l6.set (n5.toNat) (n4,x7.2)).set (n5.toNat) (x8.1,(i64.wrap (n4+1)),x8.2.2)).set (n5.toNat) (x9.1,x9.2.1,(i64.wrap ((i64.wrap (n4+1))+1)),x9.2.2.2)).set (n5.toNat) (aR.1,aR.2.1,aR.2.2.1,(i64.wrap ((i64.wrap ((i64.wrap (n4+1))+1))+1)),aR.2.2.2.2)).set (n5.toNat) (bN.1,bN.2.1,bN.2.2.1,bN.2.2.2.1,(i64.wrap ((i64.wrap ((i64.wrap ((i64.wrap (n4+1))+1))+1))+1)),bN.2.2.2.2.2)).set (n5.toNat) (dy.1,dy.2.1,dy.2.2.1,dy.2.2.2.1,dy.2.2.2.2.1,(i64.wrap ((i64.wrap ((i64.wrap ((i64.wrap ((i64.wrap (n4+1))+1))+1))+1))+1)),dy.2.2.2.2.2.2))[n5.toNat]?) fun fP =>
 aa (decide (0<=n5)) (
 aa (Nat.blt (n5.toNat) ((((((((l6.set (n5.toNat) (n4,x7.2)).set (n5.toNat) (x8.1,(i64.wrap (n4+1)),x8.2.2)).set (n5.toNat) (x9.1,x9.2.1,(i64.wrap ((i64.wrap (n4+1))+1)),x9.2.2.2)).set (n5.toNat) (aR.1,aR.2.1,aR.2.2.1,(i64.wrap ((i64.wrap ((i64.wrap (n4+1))+1))+1)),aR.2.2.2.2)).set (n5.toNat) (bN.1,bN.2.1,bN.2.2.1,bN.2.2.2.1,(i64.wrap ((i64.wrap ((i64.wrap ((i64.wrap (n4+1))+1))+1))+1)),bN.2.2.2.2.2)).set (n5.toNat) (dy.1,dy.2.1,dy.2.2.1,dy.2.2.2.1,dy.2.2.2.2.1,(i64.wrap ((i64.wrap ((i64.wrap ((i64.wrap ((i64.wrap (n4+1))+1))+1))+1))+1)),dy.2.2.2.2.2.2)).set (n5.toNat) (fP.1,fP.2.1,fP.2.2.1,fP.2.2.2.1,fP.2.2.2.2.1,fP.2.2.2.2.2.1,(i64.wrap ((i64.wrap ((i64.wrap ((i64.wrap ((i64.wrap ((i64.wrap (n4+1))+1))+1))+1))+1))+1)),fP.2.2.2.2.2.2.2)).length)) (
 Q1 ((((((((l6.set (n5.toNat) (n4,x7.2)).set (n5.toNat) (x8.1,(i64.wrap (n4+1)),x8.2.2)).set (n5.toNat) (x9.1,x9.2.1,(i64.wrap ((i64.wrap (n4+1))+1)),x9.2.2.2)).set (n5.toNat) (aR.1,aR.2.1,aR.2.2.1,(i64.wrap ((i64.wrap ((i64.wrap (n4+1))+1))+1)),aR.2.2.2.2)).set (n5.toNat) (bN.1,bN.2.1,bN.2.2.1,bN.2.2.2.1,(i64.wrap ((i64.wrap ((i64.wrap ((i64.wrap (n4+1))+1))+1))+1)),bN.2.2.2.2.2)).set (n5.toNat) (dy.1,dy.2.1,dy.2.2.1,dy.2.2.2.1,dy.2.2.2.2.1,(i64.wrap ((i64.wrap ((i64.wrap ((i64.wrap ((i64.wrap (n4+1))+1))+1))+1))+1)),dy.2.2.2.2.2.2)).set (n5.toNat) (fP.1,fP.2.1,fP.2.2.1,fP.2.2.2.1,fP.2.2.2.2.1,fP.2.2.2.2.2.1,(i64.wrap ((i64.wrap ((i64.wrap ((i64.wrap ((i64.wrap ((i64.wrap (n4+1))+1))+1))+1))+1))+1)),fP.2.2.2.2.2.2.2))[n5.toNat]?) fun kH =>
 bM ((i64.wrap ((i64.wrap ((i64.wrap ((i64.wrap ((i64.wrap ((i64.wrap ((i64.wrap ((i64.wrap (n4+1))+1))+1))+1))+1))+1))+1))+1)),(i64.wrap (n5+1)),((((((((l6.set (n5.toNat) (n4,x7.2)).set (n5.toNat) (x8.1,(i64.wrap (n4+1)),x8.2.2)).set (n5.toNat) (x9.1,x9.2.1,(i64.wrap ((i64.wrap (n4+1))+1)),x9.2.2.2)).set (n5.toNat) (aR.1,aR.2.1,aR.2.2.1,(i64.wrap ((i64.wrap ((i64.wrap (n4+1))+1))+1)),aR.2.2.2.2)).set (n5.toNat) (bN.1,bN.2.1,bN.2.2.1,bN.2.2.2.1,(i64.wrap ((i64.wrap ((i64.wrap ((i64.wrap (n4+1))+1))+1))+1)),bN.2.2.2.2.2)).set (n5.toNat) (dy.1,dy.2.1,dy.2.2.1,dy.2.2.2.1,dy.2.2.2.2.1,(i64.wrap ((i64.wrap ((i64.wrap ((i64.wrap ((i64.wrap (n4+1))+1))+1))+1))+1)),dy.2.2.2.2.2.2)).set (n5.toNat) (fP.1,fP.2.1,fP.2.2.1,fP.2.2.2.1,fP.2.2.2.2.1,fP.2.2.2.2.2.1,(i64.wrap ((i64.wrap ((i64.wrap ((i64.wrap ((i64.wrap ((i64.wrap (n4+1))+1))+1))+1))+1))+1)),fP.2.2.2.2.2.2.2)).set (n5.toNat) (kH.1,kH.2.1,kH.2.2.1,kH.2.2.2.1,kH.2.2.2.2.1,kH.2.2.2.2.2.1,kH.2.2.2.2.2.2.1,(i64.wrap ((i64.wrap ((i64.wrap ((i64.wrap ((i64.wrap ((i64.wrap ((i64.wrap (n4+1))+1))+1))+1))+1))+1))+1)))))) none) none) none) none) none) none) none) none) none) none) none) none) none) none) none) none) (
 z_ n4 l6)) s.1 s.2.1 s.2.2
theorem e81 (d:Nat) (l1:List t1) (n2:Int):O9 (d+1) l1 n2 =
 Q8 (sC d (zZ d)) Qc (n2,0,l1):=by kernel_rfl
noncomputable def Aa (d:Nat) (n4:Int) (l5:List t4):Option t14 :=
 some (n4,l5)
noncomputable def sD (d:Nat) (Ac:Int->(List t4)->Option t14) (bM:(Int×Int×(List t4))->Option t14) (s:(Int×Int×(List t4))):Option t14 :=
(fun n4 n5 (l6:List t4) =>
 aa (decide (n5 < (l6.length:Int))) (
 aa (decide (0<=n5)) (
 aa (Nat.blt (n5.toNat) l6.length) (
 Q1 (l6[n5.toNat]?) fun x7 =>
 aa (decide (0<=n5)) (
 aa (Nat.blt (n5.toNat) ((l6.set (n5.toNat) (n4,x7.2)).length)) (
 Q1 ((l6.set (n5.toNat) (n4,x7.2))[n5.toNat]?) fun x8 =>
 aa (decide (0<=n5)) (
 aa (Nat.blt (n5.toNat) (((l6.set (n5.toNat) (n4,x7.2)).set (n5.toNat) (x8.1,(i64.wrap (n4+1)),x8.2.2)).length)) (
 Q1 (((l6.set (n5.toNat) (n4,x7.2)).set (n5.toNat) (x8.1,(i64.wrap (n4+1)),x8.2.2))[n5.toNat]?) fun x9 =>
 aa (decide (0<=n5)) (
 aa (Nat.blt (n5.toNat) ((((l6.set (n5.toNat) (n4,x7.2)).set (n5.toNat) (x8.1,(i64.wrap (n4+1)),x8.2.2)).set (n5.toNat) (x9.1,x9.2.1,(i64.wrap ((i64.wrap (n4+1))+1)),x9.2.2.2)).length)) (
 Q1 ((((l6.set (n5.toNat) (n4,x7.2)).set (n5.toNat) (x8.1,(i64.wrap (n4+1)),x8.2.2)).set (n5.toNat) (x9.1,x9.2.1,(i64.wrap ((i64.wrap (n4+1))+1)),x9.2.2.2))[n5.toNat]?) fun aR =>
 aa (decide (0<=n5)) (
 aa (Nat.blt (n5.toNat) (((((l6.set (n5.toNat) (n4,x7.2)).set (n5.toNat) (x8.1,(i64.wrap (n4+1)),x8.2.2)).set (n5.toNat) (x9.1,x9.2.1,(i64.wrap ((i64.wrap (n4+1))+1)),x9.2.2.2)).set (n5.toNat) (aR.1,aR.2.1,aR.2.2.1,(i64.wrap ((i64.wrap ((i64.wrap (n4+1))+1))+1)),aR.2.2.2.2)).length)) (
 Q1 (((((l6.set (n5.toNat) (n4,x7.2)).set (n5.toNat) (x8.1,(i64.wrap (n4+1)),x8.2.2)).set (n5.toNat) (x9.1,x9.2.1,(i64.wrap ((i64.wrap (n4+1))+1)),x9.2.2.2)).set (n5.toNat) (aR.1,aR.2.1,aR.2.2.1,(i64.wrap ((i64.wrap ((i64.wrap (n4+1))+1))+1)),aR.2.2.2.2))[n5.toNat]?) fun bN =>
 bM ((i64.wrap ((i64.wrap ((i64.wrap ((i64.wrap ((i64.wrap (n4+1))+1))+1))+1))+1)),(i64.wrap (n5+1)),(((((l6.set (n5.toNat) (n4,x7.2)).set (n5.toNat) (x8.1,(i64.wrap (n4+1)),x8.2.2)).set (n5.toNat) (x9.1,x9.2.1,(i64.wrap ((i64.wrap (n4+1))+1)),x9.2.2.2)).set (n5.toNat) (aR.1,aR.2.1,aR.2.2.1,(i64.wrap ((i64.wrap ((i64.wrap (n4+1))+1))+1)),aR.2.2.2.2)).set (n5.toNat) (bN.1,bN.2.1,bN.2.2.1,bN.2.2.2.1,(i64.wrap ((i64.wrap ((i64.wrap ((i64.wrap (n4+1))+1))+1))+1)))))) none) none) none) none) none) none) none) none) none) none) (
 Ac n4 l6)) s.1 s.2.1 s.2.2
theorem e82 (d:Nat) (l1:List t4) (n2:Int):O_ (d+1) l1 n2 =
 Q8 (sD d (Aa d)) Qc (n2,0,l1):=by kernel_rfl
noncomputable def Ad (d:Nat) (n4:Int) (l5:List t5):Option (Int×(List t5)) :=
 some (n4,l5)
noncomputable def sG (d:Nat) (Ae:Int->(List t5)->Option (Int×(List t5))) (bM:(Int×Int×(List t5))->Option (Int×(List t5))) (s:(Int×Int×(List t5))):Option (Int×(List t5)) :=
(fun n4 n5 (l6:List t5) =>
 aa (decide (n5 < (l6.length:Int))) (
 aa (decide (0<=n5)) (
 aa (Nat.blt (n5.toNat) l6.length) (
 Q1 (l6[n5.toNat]?) fun x7 =>
 aa (decide (0<=n5)) (
 aa (Nat.blt (n5.toNat) ((l6.set (n5.toNat) (n4,x7.2)).length)) (
 Q1 ((l6.set (n5.toNat) (n4,x7.2))[n5.toNat]?) fun x8 =>
 aa (decide (0<=n5)) (
 aa (Nat.blt (n5.toNat) (((l6.set (n5.toNat) (n4,x7.2)).set (n5.toNat) (x8.1,(i64.wrap (n4+1)),x8.2.2)).length)) (
 Q1 (((l6.set (n5.toNat) (n4,x7.2)).set (n5.toNat) (x8.1,(i64.wrap (n4+1)),x8.2.2))[n5.toNat]?) fun x9 =>
 aa (decide (0<=n5)) (
 aa (Nat.blt (n5.toNat) ((((l6.set (n5.toNat) (n4,x7.2)).set (n5.toNat) (x8.1,(i64.wrap (n4+1)),x8.2.2)).set (n5.toNat) (x9.1,x9.2.1,(i64.wrap ((i64.wrap (n4+1))+1)),x9.2.2.2)).length)) (
 Q1 ((((l6.set (n5.toNat) (n4,x7.2)).set (n5.toNat) (x8.1,(i64.wrap (n4+1)),x8.2.2)).set (n5.toNat) (x9.1,x9.2.1,(i64.wrap ((i64.wrap (n4+1))+1)),x9.2.2.2))[n5.toNat]?) fun aR =>
 aa (decide (0<=n5)) (
 aa (Nat.blt (n5.toNat) (((((l6.set (n5.toNat) (n4,x7.2)).set (n5.toNat) (x8.1,(i64.wrap (n4+1)),x8.2.2)).set (n5.toNat) (x9.1,x9.2.1,(i64.wrap ((i64.wrap (n4+1))+1)),x9.2.2.2)).set (n5.toNat) (aR.1,aR.2.1,aR.2.2.1,(i64.wrap ((i64.wrap ((i64.wrap (n4+1))+1))+1)),aR.2.2.2.2)).length)) (
 Q1 (((((l6.set (n5.toNat) (n4,x7.2)).set (n5.toNat) (x8.1,(i64.wrap (n4+1)),x8.2.2)).set (n5.toNat) (x9.1,x9.2.1,(i64.wrap ((i64.wrap (n4+1))+1)),x9.2.2.2)).set (n5.toNat) (aR.1,aR.2.1,aR.2.2.1,(i64.wrap ((i64.wrap ((i64.wrap (n4+1))+1))+1)),aR.2.2.2.2))[n5.toNat]?) fun bN =>
 aa (decide (0<=n5)) (
 aa (Nat.blt (n5.toNat) ((((((l6.set (n5.toNat) (n4,x7.2)).set (n5.toNat) (x8.1,(i64.wrap (n4+1)),x8.2.2)).set (n5.toNat) (x9.1,x9.2.1,(i64.wrap ((i64.wrap (n4+1))+1)),x9.2.2.2)).set (n5.toNat) (aR.1,aR.2.1,aR.2.2.1,(i64.wrap ((i64.wrap ((i64.wrap (n4+1))+1))+1)),aR.2.2.2.2)).set (n5.toNat) (bN.1,bN.2.1,bN.2.2.1,bN.2.2.2.1,(i64.wrap ((i64.wrap ((i64.wrap ((i64.wrap (n4+1))+1))+1))+1)),bN.2.2.2.2.2)).length)) (
 Q1 ((((((l6.set (n5.toNat) (n4,x7.2)).set (n5.toNat) (x8.1,(i64.wrap (n4+1)),x8.2.2)).set (n5.toNat) (x9.1,x9.2.1,(i64.wrap ((i64.wrap (n4+1))+1)),x9.2.2.2)).set (n5.toNat) (aR.1,aR.2.1,aR.2.2.1,(i64.wrap ((i64.wrap ((i64.wrap (n4+1))+1))+1)),aR.2.2.2.2)).set (n5.toNat) (bN.1,bN.2.1,bN.2.2.1,bN.2.2.2.1,(i64.wrap ((i64.wrap ((i64.wrap ((i64.wrap (n4+1))+1))+1))+1)),bN.2.2.2.2.2))[n5.toNat]?) fun dy =>
 bM ((i64.wrap ((i64.wrap ((i64.wrap ((i64.wrap ((i64.wrap ((i64.wrap (n4+1))+1))+1))+1))+1))+1)),(i64.wrap (n5+1)),((((((l6.set (n5.toNat) (n4,x7.2)).set (n5.toNat) (x8.1,(i64.wrap (n4+1)),x8.2.2)).set (n5.toNat) (x9.1,x9.2.1,(i64.wrap ((i64.wrap (n4+1))+1)),x9.2.2.2)).set (n5.toNat) (aR.1,aR.2.1,aR.2.2.1,(i64.wrap ((i64.wrap ((i64.wrap (n4+1))+1))+1)),aR.2.2.2.2)).set (n5.toNat) (bN.1,bN.2.1,bN.2.2.1,bN.2.2.2.1,(i64.wrap ((i64.wrap ((i64.wrap ((i64.wrap (n4+1))+1))+1))+1)),bN.2.2.2.2.2)).set (n5.toNat) (dy.1,dy.2.1,dy.2.2.1,dy.2.2.2.1,dy.2.2.2.2.1,(i64.wrap ((i64.wrap ((i64.wrap ((i64.wrap ((i64.wrap (n4+1))+1))+1))+1))+1)))))) none) none) none) none) none) none) none) none) none) none) none) none) (
 Ae n4 l6)) s.1 s.2.1 s.2.2
theorem e83 (d:Nat) (l1:List t5) (n2:Int):LV (d+1) l1 n2 =
 Q8 (sG d (Ad d)) Qc (n2,0,l1):=by kernel_rfl
noncomputable def Cl (d:Nat) (r9:t15) (pO:t13) (CG sy uC zO:t11) (uB:t14) (CI lO CJ:t11) (Bn:List (List t5)) (Et:t11) (b44:Bool):Option Bool :=
 aa b44 (
 some false) (
 Q1 (g14 (d+2) ((r9.1.1.1,pO.2,CG.2,sy.2,uC.2,zO.2,uB.2,CI.2,r9.1.1.2.2.2.2.2.2.2.2),(lO.2,CJ.2),Bn,r9.1.2.2.2) 1) fun Pa =>
 aa (decide (Pa < 0)) (
 some false) (
 Q1 (g15 (d+2) Et.2 Pa) fun r46 =>
 aa (decide (r46 < 0)) (
 some false) (
 aa (r46 != Et.1) (
 some false) (
 some true))))
noncomputable def jf (d:Nat) (x1:t2) (x2:t1) (r6 r9:t15) (pO:t13) (CG sy uC zO:t11) (uB:t14) (CI lO CJ:t11) (jj:Int) (Bn:List (List t5)):Option Bool :=
 Q1 (g13 (d+2) r9.2.1 jj) fun Et =>
 Q1 (g14 (d+2) ((r9.1.1.1,pO.2,CG.2,sy.2,uC.2,zO.2,uB.2,CI.2,r9.1.1.2.2.2.2.2.2.2.2),(lO.2,CJ.2),Bn,r9.1.2.2.2) 1) fun r39 =>
 aa (decide (r39 < 0)) (
 some false) (
 Q1 (g15 (d+2) Et.2 r39) fun r40 =>
 aa (decide (r40 < 0)) (
 some false) (
 aa (r40 != Et.1) (
 some false) (
 Q1 (g8 (d+2) x1) fun Pb =>
 Q1 (g19 (d+2) x2) fun r42 =>
 Q1 (g20 (d+2) Pb r42) fun U_ =>
 Q1 (g10 (d+2) U_.1 r6.1) fun r44 =>
 aa (!r44) (
 Cl d r9 pO CG sy uC zO uB CI lO CJ Bn Et true) (
 Q1 (g11 (d+2) U_.2.1 r6.2.1) fun Pa =>
 aa (!Pa) (
 Cl d r9 pO CG sy uC zO uB CI lO CJ Bn Et true) (
 Cl d r9 pO CG sy uC zO uB CI lO CJ Bn Et (!(U_.2.2==r6.2.2)))))))
noncomputable def qP (d:Nat) (eu:Int->(List (List t5))->Option Bool) (Gh:(Int×Int×(List (List t5)))->Option Bool) (s:(Int×Int×(List (List t5)))):Option Bool :=
(fun jj fe (lN:List (List t5)) =>
 aa (decide (fe < (lN.length:Int))) (
 aa (decide (0<=fe)) (
 aa (Nat.blt (fe.toNat) lN.length) (
 Q1 (lN[fe.toNat]?) fun T4 =>
 Q1 (lN[fe.toNat]?) fun l40 =>
 aa (Nat.beq l40.length T4.length) (
 Q1 (LV d T4 jj) fun Pb =>
 Gh (Pb.1,(i64.wrap (fe+1)),(lN.set (fe.toNat) Pb.2))) none) none) none) (
 eu jj lN)) s.1 s.2.1 s.2.2
noncomputable def xA (d:Nat) (x1:t2) (x2:t1) (r6 r9:t15) (b25:Bool):Option Bool :=
 aa b25 (
 some false) (
 Q1 (O9 d r9.1.1.2.1 1) fun pO =>
 Q1 (g13 d r9.1.1.2.2.1 pO.1) fun CG =>
 Q1 (g13 d r9.1.1.2.2.2.1 CG.1) fun sy =>
 Q1 (g13 d r9.1.1.2.2.2.2.1 sy.1) fun uC =>
 Q1 (g13 d r9.1.1.2.2.2.2.2.1 uC.1) fun zO =>
 Q1 (O_ d r9.1.1.2.2.2.2.2.2.1 zO.1) fun uB =>
 Q1 (g13 d r9.1.1.2.2.2.2.2.2.2.1 uB.1) fun CI =>
 Q1 (g13 d r9.1.2.1.1 CI.1) fun lO =>
 Q1 (g13 d r9.1.2.1.2 lO.1) fun CJ =>
 Q8 (qP d (jf d x1 x2 r6 r9 pO CG sy uC zO uB CI lO CJ)) Qc (CJ.1,0,r9.1.2.2.1))
noncomputable def je (d:Nat) (x1:t2) (x2:t1) (r6 r9:t15) (Pc:Int) (v_:List (List t5)):Option Bool :=
 aa (decide (Pc < 0)) (
 xA d x1 x2 r6 r9 true) (
 Q1 (g10 (d+2) r9.1 r6.1) fun r25 =>
 aa (!r25) (
 xA d x1 x2 r6 r9 true) (
 Q1 (g11 (d+2) r9.2.1 r6.2.1) fun pO =>
 aa (!pO) (
 xA d x1 x2 r6 r9 true) (
 xA d x1 x2 r6 r9 (!(r9.2.2==r6.2.2)))))
noncomputable def nS (d:Nat) (eu:Int->(List (List t5))->Option Bool) (Vc:(Int×Int×(List (List t5)))->Option Bool) (s:(Int×Int×(List (List t5)))):Option Bool :=
(fun Pc ef (tR:List (List t5)) =>
 aa (decide (ef < (tR.length:Int))) (
 aa (decide (0<=ef)) (
 aa (Nat.blt (ef.toNat) tR.length) (
 Q1 (tR[ef.toNat]?) fun y_ =>
 Q1 (tR[ef.toNat]?) fun wg =>
 aa (Nat.beq wg.length y_.length) (
 Q1 (LV d y_ Pc) fun sy =>
 Vc (sy.1,(i64.wrap (ef+1)),(tR.set (ef.toNat) sy.2))) none) none) none) (
 eu Pc tR)) s.1 s.2.1 s.2.2
noncomputable def Cj (d:Nat) (x1:t2) (x2:t1) (r6:t15) (r7:t2) (r9:t15) (F2:Bool):Option Bool :=
 aa F2 (
 some false) (
 Q1 (g8 (d+2) x1) fun gz =>
 Q1 (g10 (d+2) r7 gz) fun mZ =>
 aa (!mZ) (
 some false) (
 Q1 (O9 d r7.1.2.1 1) fun pV =>
 Q1 (g13 d r7.1.2.2.1 pV.1) fun jN =>
 Q1 (g13 d r7.1.2.2.2.1 jN.1) fun v8 =>
 Q1 (g13 d r7.1.2.2.2.2.1 v8.1) fun pz =>
 Q1 (g13 d r7.1.2.2.2.2.2.1 pz.1) fun F4 =>
 Q1 (O_ d r7.1.2.2.2.2.2.2.1 F4.1) fun yS =>
 Q1 (g13 d r7.1.2.2.2.2.2.2.2.1 yS.1) fun sq =>
 Q1 (g13 d r7.2.1.1 sq.1) fun Co =>
 Q1 (g13 d r7.2.1.2 Co.1) fun U8 =>
 Q8 (nS d (je d x1 x2 r6 r9)) Qc (U8.1,0,r7.2.2.1)))
theorem e5 (d:Nat) (x1:t2) (x2:t1):g5 (d+3) x1 x2 =
 Q1 (g6 (d+2) x1 1048576) fun r3 =>
 aa (decide (r3 < 0)) (
 some true) (
 Q1 (g8 (d+2) x1) fun r4 =>
 Q1 (g19 (d+2) x2) fun r5 =>
 Q1 (g18 (d+2) r4 r5) fun r6 =>
 Q1 (g8 (d+2) x1) fun r7 =>
 Q1 (g19 (d+2) x2) fun r8 =>
 Q1 (g20 (d+2) r7 r8) fun r9 =>
 Q1 (g10 (d+2) r9.1 r6.1) fun oJ =>
 aa (!oJ) (
 Cj d x1 x2 r6 r7 r9 true) (
 Q1 (g11 (d+2) r9.2.1 r6.2.1) fun gz =>
 aa (!gz) (
 Cj d x1 x2 r6 r7 r9 true) (
 Cj d x1 x2 r6 r7 r9 (!(r9.2.2==r6.2.2))))):=by kernel_rfl
end Go.Proofs.YtcoimfbmgjhcjabGreatDoor
