/-
  The residual forms of the program's functions under the interpreter by value, printed by program (wip/pv/gen2.py); each equation is checked by the kernel.
  Conditions: none.
-/
import Derived.Test.YtcoimfbmgjhcjabGreatDoorFnExactDropLiveResA
import Derived.KernelRfl
set_option linter.all false
set_option maxRecDepth 1000000
namespace Go.Proofs.YtcoimfbmgjhcjabGreatDoor
open Go.Ev Go.Pv
open IntKind (i64 u64)
theorem e49 (d:Nat) (l1:List t1) (n2:Int):S6 (d+1) l1 n2 =
 aa (decide (((i64.wrap (n2 - (l1.length:Int))):Int) < 0)) (
 some (-1)) (
 some (i64.wrap (n2 - (l1.length:Int)))):=by kernel_rfl
theorem e50 (d:Nat) (l1:List Int) (n2:Int):Cb (d+1) l1 n2 =
 aa (decide (((i64.wrap (n2 - (l1.length:Int))):Int) < 0)) (
 some (-1)) (
 some (i64.wrap (n2 - (l1.length:Int)))):=by kernel_rfl
theorem e51 (d:Nat) (l1:List t5) (n2:Int):S7 (d+1) l1 n2 =
 aa (decide (((i64.wrap (n2 - (l1.length:Int))):Int) < 0)) (
 some (-1)) (
 some (i64.wrap (n2 - (l1.length:Int)))):=by kernel_rfl
theorem e21 (d:Nat) (x1:t0) (n2:Int):g21 (d+1) x1 n2 =
 aa (decide (((i64.wrap (n2 - (x1.1.size:Int))):Int) < 0)) (
 some (-1)) (
 Q1 (S6 d x1.2.1 (i64.wrap (n2 - (x1.1.size:Int)))) fun r3 =>
 aa (decide (r3 < 0)) (
 some (-1)) (
 Q1 (Cb d x1.2.2.1 r3) fun r4 =>
 aa (decide (r4 < 0)) (
 some (-1)) (
 Q1 (Cb d x1.2.2.2.1 r4) fun r5 =>
 aa (decide (r5 < 0)) (
 some (-1)) (
 Q1 (Cb d x1.2.2.2.2.1 r5) fun r6 =>
 aa (decide (r6 < 0)) (
 some (-1)) (
 Q1 (Cb d x1.2.2.2.2.2.1 r6) fun r7 =>
 aa (decide (r7 < 0)) (
 some (-1)) (
 Q1 (S7 d x1.2.2.2.2.2.2.1 r7) fun r8 =>
 aa (decide (r8 < 0)) (
 some (-1)) (
 Q1 (Cb d x1.2.2.2.2.2.2.2.1 r8) fun r9 =>
 aa (decide (r9 < 0)) (
 some (-1)) (
 some r9)))))))):=by kernel_rfl
theorem e22 (d:Nat) (x1:t7) (n2:Int):g22 (d+1) x1 n2 =
 Q1 (Cb d x1.1 n2) fun r3 =>
 aa (decide (r3 < 0)) (
 some (-1)) (
 Q1 (Cb d x1.2 r3) fun r4 =>
 aa (decide (r4 < 0)) (
 some (-1)) (
 some r4)):=by kernel_rfl
theorem e52 (d:Nat) (l1:List t4) (n2:Int):g52 (d+1) l1 n2 =
 aa (decide (((i64.wrap (n2 - (l1.length:Int))):Int) < 0)) (
 some (-1)) (
 some (i64.wrap (n2 - (l1.length:Int)))):=by kernel_rfl
noncomputable def Lj (d:Nat) (n4 n5:Int):Option Int :=
 some n4
noncomputable def xu (d:Nat) (l1:List (List t4)) (xw:Int->Int->Option Int) (bP:(Int×Int×Int)->Option Int) (s:(Int×Int×Int)):Option Int :=
(fun n4 n5 n6 =>
 aa (decide (n6 < (l1.length:Int))) (
 aa (decide (0<=n6)) (
 Q1 (l1[n6.toNat]?) fun l7 =>
 Q1 (g52 d l7 n4) fun r8 =>
 aa (decide (r8 < 0)) (
 some (-1)) (
 bP (r8,n5,(i64.wrap (n6+1))))) none) (
 xw n4 n5)) s.1 s.2.1 s.2.2
theorem e23 (d:Nat) (l1:List (List t4)) (n2:Int):g23 (d+1) l1 n2 =
 aa (decide (((i64.wrap (n2 - (l1.length:Int))):Int) < 0)) (
 some (-1)) (
 Q9 (xu d l1 (Lj d)) Qd ((i64.wrap (n2 - (l1.length:Int))),0,0)):=by kernel_rfl
theorem e6 (d:Nat) (x1:t2) (n2:Int):g6 (d+1) x1 n2 =
 Q1 (g21 d x1.1 n2) fun r3 =>
 aa (decide (r3 < 0)) (
 some (-1)) (
 Q1 (g22 d x1.2.1 r3) fun r4 =>
 aa (decide (r4 < 0)) (
 some (-1)) (
 Q1 (g23 d x1.2.2.1 r4) fun r5 =>
 aa (decide (r5 < 0)) (
 some (-1)) (
 some r5))):=by kernel_rfl
theorem e19 (d:Nat) (x1:t1):g19 (d+1) x1 =
 some x1:=by kernel_rfl
noncomputable def D4 (d:Nat) (l3:List t1):Option (List t1) :=
 some l3
noncomputable def D5 (d:Nat) (l1:List t1) (xx:(List t1)->Option (List t1)) (bW:t13->Option (List t1)) (s:t13):Option (List t1) :=
(fun n3 (l4:List t1) =>
 aa (decide (n3 < (l1.length:Int))) (
 aa (decide (0<=n3)) (
 Q1 (l1[n3.toNat]?) fun x5 =>
 Q1 (g19 d x5) fun r6 =>
 aa (decide (0<=n3)) (
 aa (Nat.blt (n3.toNat) l4.length) (
 Q1 (l4[n3.toNat]?) fun x7 =>
 bW ((i64.wrap (n3+1)),(l4.set (n3.toNat) r6))) none) none) none) (
 xx l4)) s.1 s.2
theorem e66 (d:Nat) (l1:List t1):S8 (d+1) l1 =
 aa (decide (0<=(l1.length:Int))) (
 aa (decide (0<=(l1.length:Int))) (
 aa (Nat.ble ((l1.length:Int).toNat) ((l1.length:Int).toNat)&&Nat.ble (((l1.length:Int).toNat)*64) Q7) (
 Q9 (D5 d l1 (D4 d)) Qd (0,(List.replicate ((l1.length:Int).toNat) ((0,0,0,0,0,0,0,0):t1)))) none) none) none:=by kernel_rfl
noncomputable def D6 (d:Nat) (l3:List Int):Option (List Int) :=
 some l3
noncomputable def D7 (d:Nat) (l1:List Int) (xy:(List Int)->Option (List Int)) (bW:t11->Option (List Int)) (s:t11):Option (List Int) :=
(fun n3 (l4:List Int) =>
 aa (decide (n3 < (l1.length:Int))) (
 aa (decide (0<=n3)) (
 Q1 (l1[n3.toNat]?) fun n5 =>
 aa (decide (0<=n3)) (
 aa (Nat.blt (n3.toNat) l4.length) (
 Q1 (l4[n3.toNat]?) fun n6 =>
 bW ((i64.wrap (n3+1)),(l4.set (n3.toNat) n5))) none) none) none) (
 xy l4)) s.1 s.2
theorem e67 (d:Nat) (l1:List Int):Cc (d+1) l1 =
 aa (decide (0<=(l1.length:Int))) (
 aa (decide (0<=(l1.length:Int))) (
 aa (Nat.ble ((l1.length:Int).toNat) ((l1.length:Int).toNat)&&Nat.ble (((l1.length:Int).toNat)*8) Q7) (
 Q9 (D7 d l1 (D6 d)) Qd (0,(List.replicate ((l1.length:Int).toNat) (0:Int)))) none) none) none:=by kernel_rfl
theorem S9 (d:Nat) (x1:t5):Ll (d+1) x1 =
 some x1:=by kernel_rfl
noncomputable def D8 (d:Nat) (l3:List t5):Option (List t5) :=
 some l3
noncomputable def D9 (d:Nat) (l1:List t5) (xz:(List t5)->Option (List t5)) (bW:(Int×(List t5))->Option (List t5)) (s:(Int×(List t5))):Option (List t5) :=
(fun n3 (l4:List t5) =>
 aa (decide (n3 < (l1.length:Int))) (
 aa (decide (0<=n3)) (
 Q1 (l1[n3.toNat]?) fun x5 =>
 Q1 (Ll d x5) fun r6 =>
 aa (decide (0<=n3)) (
 aa (Nat.blt (n3.toNat) l4.length) (
 Q1 (l4[n3.toNat]?) fun x7 =>
 bW ((i64.wrap (n3+1)),(l4.set (n3.toNat) r6))) none) none) none) (
 xz l4)) s.1 s.2
theorem e68 (d:Nat) (l1:List t5):S_ (d+1) l1 =
 aa (decide (0<=(l1.length:Int))) (
 aa (decide (0<=(l1.length:Int))) (
 aa (Nat.ble ((l1.length:Int).toNat) ((l1.length:Int).toNat)&&Nat.ble (((l1.length:Int).toNat)*40) Q7) (
 Q9 (D9 d l1 (D8 d)) Qd (0,(List.replicate ((l1.length:Int).toNat) ((0,0,0,0,0):t5)))) none) none) none:=by kernel_rfl
theorem e28 (d:Nat) (x1:t0):Ta (d+1) x1 =
 Q1 (S8 d x1.2.1) fun r2 =>
 Q1 (Cc d x1.2.2.1) fun r3 =>
 Q1 (Cc d x1.2.2.2.1) fun r4 =>
 Q1 (Cc d x1.2.2.2.2.1) fun r5 =>
 Q1 (Cc d x1.2.2.2.2.2.1) fun r6 =>
 Q1 (S_ d x1.2.2.2.2.2.2.1) fun r7 =>
 Q1 (Cc d x1.2.2.2.2.2.2.2.1) fun r8 =>
 some (x1.1,r2,r3,r4,r5,r6,r7,r8,x1.2.2.2.2.2.2.2.2):=by kernel_rfl
theorem e29 (d:Nat) (x1:t7):Tb (d+1) x1 =
 Q1 (Cc d x1.1) fun r2 =>
 Q1 (Cc d x1.2) fun r3 =>
 some (r2,r3):=by kernel_rfl
theorem Tc (d:Nat) (x1:t4):Lm (d+1) x1 =
 some x1:=by kernel_rfl
noncomputable def D_ (d:Nat) (l3:List t4):Option (List t4) :=
 some l3
noncomputable def Ea (d:Nat) (l1:List t4) (xA:(List t4)->Option (List t4)) (bW:(Int×(List t4))->Option (List t4)) (s:(Int×(List t4))):Option (List t4) :=
(fun n3 (l4:List t4) =>
 aa (decide (n3 < (l1.length:Int))) (
 aa (decide (0<=n3)) (
 Q1 (l1[n3.toNat]?) fun x5 =>
 Q1 (Lm d x5) fun r6 =>
 aa (decide (0<=n3)) (
 aa (Nat.blt (n3.toNat) l4.length) (
 Q1 (l4[n3.toNat]?) fun x7 =>
 bW ((i64.wrap (n3+1)),(l4.set (n3.toNat) r6))) none) none) none) (
 xA l4)) s.1 s.2
theorem e69 (d:Nat) (l1:List t4):Td (d+1) l1 =
 aa (decide (0<=(l1.length:Int))) (
 aa (decide (0<=(l1.length:Int))) (
 aa (Nat.ble ((l1.length:Int).toNat) ((l1.length:Int).toNat)&&Nat.ble (((l1.length:Int).toNat)*48) Q7) (
 Q9 (Ea d l1 (D_ d)) Qd (0,(List.replicate ((l1.length:Int).toNat) ((0,0,0,0,0,0):t4)))) none) none) none:=by kernel_rfl
noncomputable def Eb (d:Nat) (l3:List (List t4)):Option (List (List t4)) :=
 some l3
noncomputable def Ec (d:Nat) (l1:List (List t4)) (xB:(List (List t4))->Option (List (List t4))) (bW:(Int×(List (List t4)))->Option (List (List t4))) (s:(Int×(List (List t4)))):Option (List (List t4)) :=
(fun n3 (l4:List (List t4)) =>
 aa (decide (n3 < (l1.length:Int))) (
 aa (decide (0<=n3)) (
 Q1 (l1[n3.toNat]?) fun l5 =>
 Q1 (Td d l5) fun r6 =>
 aa (decide (0<=n3)) (
 aa (Nat.blt (n3.toNat) l4.length) (
 Q1 (l4[n3.toNat]?) fun l7 =>
 bW ((i64.wrap (n3+1)),(l4.set (n3.toNat) r6))) none) none) none) (
 xB l4)) s.1 s.2
theorem e30 (d:Nat) (l1:List (List t4)):Te (d+1) l1 =
 aa (decide (0<=(l1.length:Int))) (
 aa (decide (0<=(l1.length:Int))) (
 aa (Nat.ble ((l1.length:Int).toNat) ((l1.length:Int).toNat)&&Nat.ble (((l1.length:Int).toNat)*24) Q7) (
 Q9 (Ec d l1 (Eb d)) Qd (0,(List.replicate ((l1.length:Int).toNat) ([]:List t4)))) none) none) none:=by kernel_rfl
theorem e8 (d:Nat) (x1:t2):g8 (d+1) x1 =
 Q1 (Ta d x1.1) fun r2 =>
 Q1 (Tb d x1.2.1) fun r3 =>
 Q1 (Te d x1.2.2.1) fun r4 =>
 some (r2,r3,r4,x1.2.2.2):=by kernel_rfl
noncomputable def Ed (d:Nat) (b4:Bool):Option Bool :=
 some true
noncomputable def xC (d:Nat) (l1 l2:List Int) (xD:Bool->Option Bool) (bP:t9->Option Bool) (s:t9):Option Bool :=
(fun (b4:Bool) n5 =>
 aa (decide (n5 < (l1.length:Int))) (
 aa (decide (0<=n5)) (
 Q1 (l1[n5.toNat]?) fun n6 =>
 aa (decide (0<=n5)) (
 Q1 (l2[n5.toNat]?) fun n7 =>
 aa (n6 != n7) (
 some false) (
 bP (b4,(i64.wrap (n5+1))))) none) none) (
 xD b4)) s.1 s.2
theorem e11 (d:Nat) (l1 l2:List Int):g11 (d+1) l1 l2 =
 aa ((l1.length:Int) != (l2.length:Int)) (
 some false) (
 Q9 (xC d l1 l2 (Ed d)) Qd (false,0)):=by kernel_rfl
theorem Tf (d:Nat) (x1 x2:t1):Ln (d+1) x1 x2 =
 aa (x1.1 != x2.1) (
 some false) (
 aa (x1.2.1 != x2.2.1) (
 some false) (
 aa (x1.2.2.1 != x2.2.2.1) (
 some false) (
 aa (x1.2.2.2.1 != x2.2.2.2.1) (
 some false) (
 aa (x1.2.2.2.2.1 != x2.2.2.2.2.1) (
 some false) (
 aa (x1.2.2.2.2.2.1 != x2.2.2.2.2.2.1) (
 some false) (
 aa (x1.2.2.2.2.2.2.1 != x2.2.2.2.2.2.2.1) (
 some false) (
 aa (x1.2.2.2.2.2.2.2 != x2.2.2.2.2.2.2.2) (
 some false) (
 some true)))))))):=by kernel_rfl
noncomputable def Ee (d:Nat) (b4:Bool):Option Bool :=
 some true
noncomputable def xE (d:Nat) (l1 l2:List t1) (xF:Bool->Option Bool) (bP:t9->Option Bool) (s:t9):Option Bool :=
(fun (b4:Bool) n5 =>
 aa (decide (n5 < (l1.length:Int))) (
 aa (decide (0<=n5)) (
 Q1 (l1[n5.toNat]?) fun x6 =>
 aa (decide (0<=n5)) (
 Q1 (l2[n5.toNat]?) fun x7 =>
 Q1 (Ln d x6 x7) fun r8 =>
 aa (!r8) (
 some false) (
 bP (b4,(i64.wrap (n5+1))))) none) none) (
 xF b4)) s.1 s.2
theorem e78 (d:Nat) (l1 l2:List t1):Tg (d+1) l1 l2 =
 aa ((l1.length:Int) != (l2.length:Int)) (
 some false) (
 Q9 (xE d l1 l2 (Ee d)) Qd (false,0)):=by kernel_rfl
theorem Th (d:Nat) (x1 x2:t5):Lo (d+1) x1 x2 =
 aa (x1.1 != x2.1) (
 some false) (
 aa (x1.2.1 != x2.2.1) (
 some false) (
 aa (x1.2.2.1 != x2.2.2.1) (
 some false) (
 aa (x1.2.2.2.1 != x2.2.2.2.1) (
 some false) (
 aa (x1.2.2.2.2 != x2.2.2.2.2) (
 some false) (
 some true))))):=by kernel_rfl
noncomputable def Ef (d:Nat) (b4:Bool):Option Bool :=
 some true
noncomputable def xG (d:Nat) (l1 l2:List t5) (xH:Bool->Option Bool) (bP:t9->Option Bool) (s:t9):Option Bool :=
(fun (b4:Bool) n5 =>
 aa (decide (n5 < (l1.length:Int))) (
 aa (decide (0<=n5)) (
 Q1 (l1[n5.toNat]?) fun x6 =>
 aa (decide (0<=n5)) (
 Q1 (l2[n5.toNat]?) fun x7 =>
 Q1 (Lo d x6 x7) fun r8 =>
 aa (!r8) (
 some false) (
 bP (b4,(i64.wrap (n5+1))))) none) none) (
 xH b4)) s.1 s.2
theorem e79 (d:Nat) (l1 l2:List t5):Ti (d+1) l1 l2 =
 aa ((l1.length:Int) != (l2.length:Int)) (
 some false) (
 Q9 (xG d l1 l2 (Ef d)) Qd (false,0)):=by kernel_rfl
theorem e34 (d:Nat) (x1 x2:t0):Tj (d+1) x1 x2 =
 aa (!(x1.1.toList==x2.1.toList)) (
 some false) (
 Q1 (Tg d x1.2.1 x2.2.1) fun r3 =>
 aa (!r3) (
 some false) (
 Q1 (g11 d x1.2.2.1 x2.2.2.1) fun r4 =>
 aa (!r4) (
 some false) (
 Q1 (g11 d x1.2.2.2.1 x2.2.2.2.1) fun r5 =>
 aa (!r5) (
 some false) (
 Q1 (g11 d x1.2.2.2.2.1 x2.2.2.2.2.1) fun r6 =>
 aa (!r6) (
 some false) (
 Q1 (g11 d x1.2.2.2.2.2.1 x2.2.2.2.2.2.1) fun r7 =>
 aa (!r7) (
 some false) (
 Q1 (Ti d x1.2.2.2.2.2.2.1 x2.2.2.2.2.2.2.1) fun r8 =>
 aa (!r8) (
 some false) (
 Q1 (g11 d x1.2.2.2.2.2.2.2.1 x2.2.2.2.2.2.2.2.1) fun r9 =>
 aa (!r9) (
 some false) (
 aa (x1.2.2.2.2.2.2.2.2 != x2.2.2.2.2.2.2.2.2) (
 some false) (
 some true))))))))):=by kernel_rfl
theorem e35 (d:Nat) (x1 x2:t7):Tl (d+1) x1 x2 =
 Q1 (g11 d x1.1 x2.1) fun r3 =>
 aa (!r3) (
 some false) (
 Q1 (g11 d x1.2 x2.2) fun r4 =>
 aa (!r4) (
 some false) (
 some true)):=by kernel_rfl
theorem Tm (d:Nat) (x1 x2:t4):Lp (d+1) x1 x2 =
 aa (x1.1 != x2.1) (
 some false) (
 aa (x1.2.1 != x2.2.1) (
 some false) (
 aa (x1.2.2.1 != x2.2.2.1) (
 some false) (
 aa (x1.2.2.2.1 != x2.2.2.2.1) (
 some false) (
 aa (x1.2.2.2.2.1 != x2.2.2.2.2.1) (
 some false) (
 aa (x1.2.2.2.2.2 != x2.2.2.2.2.2) (
 some false) (
 some true)))))):=by kernel_rfl
noncomputable def Eg (d:Nat) (b4:Bool):Option Bool :=
 some true
noncomputable def xI (d:Nat) (l1 l2:List t4) (xJ:Bool->Option Bool) (bP:t9->Option Bool) (s:t9):Option Bool :=
(fun (b4:Bool) n5 =>
 aa (decide (n5 < (l1.length:Int))) (
 aa (decide (0<=n5)) (
 Q1 (l1[n5.toNat]?) fun x6 =>
 aa (decide (0<=n5)) (
 Q1 (l2[n5.toNat]?) fun x7 =>
 Q1 (Lp d x6 x7) fun r8 =>
 aa (!r8) (
 some false) (
 bP (b4,(i64.wrap (n5+1))))) none) none) (
 xJ b4)) s.1 s.2
theorem e80 (d:Nat) (l1 l2:List t4):Tn (d+1) l1 l2 =
 aa ((l1.length:Int) != (l2.length:Int)) (
 some false) (
 Q9 (xI d l1 l2 (Eg d)) Qd (false,0)):=by kernel_rfl
noncomputable def Eh (d:Nat) (b4:Bool):Option Bool :=
 some true
noncomputable def xK (d:Nat) (l1 l2:List (List t4)) (xL:Bool->Option Bool) (bP:t9->Option Bool) (s:t9):Option Bool :=
(fun (b4:Bool) n5 =>
 aa (decide (n5 < (l1.length:Int))) (
 aa (decide (0<=n5)) (
 Q1 (l1[n5.toNat]?) fun l6 =>
 aa (decide (0<=n5)) (
 Q1 (l2[n5.toNat]?) fun l7 =>
 Q1 (Tn d l6 l7) fun r8 =>
 aa (!r8) (
 some false) (
 bP (b4,(i64.wrap (n5+1))))) none) none) (
 xL b4)) s.1 s.2
theorem e36 (d:Nat) (l1 l2:List (List t4)):To (d+1) l1 l2 =
 aa ((l1.length:Int) != (l2.length:Int)) (
 some false) (
 Q9 (xK d l1 l2 (Eh d)) Qd (false,0)):=by kernel_rfl
theorem e10 (d:Nat) (x1 x2:t2):g10 (d+1) x1 x2 =
 Q1 (Tj d x1.1 x2.1) fun r3 =>
 aa (!r3) (
 some false) (
 Q1 (Tl d x1.2.1 x2.2.1) fun r4 =>
 aa (!r4) (
 some false) (
 Q1 (To d x1.2.2.1 x2.2.2.1) fun r5 =>
 aa (!r5) (
 some false) (
 aa (x1.2.2.2.1 != x2.2.2.2.1) (
 some false) (
 aa (x1.2.2.2.2 != x2.2.2.2.2) (
 some false) (
 some true))))):=by kernel_rfl
noncomputable def xM (d:Nat) (n4:Int) (l5:List Int):Option t11 :=
 some (n4,l5)
noncomputable def r_ (d:Nat) (xN:Int->(List Int)->Option t11) (bP:(Int×Int×(List Int))->Option t11) (s:(Int×Int×(List Int))):Option t11 :=
(fun n4 n5 (l6:List Int) =>
 aa (decide (n5 < (l6.length:Int))) (
 aa (decide (0<=n5)) (
 aa (Nat.blt (n5.toNat) l6.length) (
 Q1 (l6[n5.toNat]?) fun n7 =>
 bP ((i64.wrap (n4+1)),(i64.wrap (n5+1)),(l6.set (n5.toNat) n4))) none) none) (
 xN n4 l6)) s.1 s.2.1 s.2.2
theorem e13 (d:Nat) (l1:List Int) (n2:Int):g13 (d+1) l1 n2 =
 Q9 (r_ d (xM d)) Qd (n2,0,l1):=by kernel_rfl
noncomputable def xO (d:Nat) (n4 n5:Int):Option Int :=
 some n4
noncomputable def sg (d:Nat) (l1:List Int) (xP:Int->Int->Option Int) (bP:(Int×Int×Int)->Option Int) (s:(Int×Int×Int)):Option Int :=
(fun n4 n5 n6 =>
 aa (decide (n6 < (l1.length:Int))) (
 aa (decide (0<=n6)) (
 Q1 (l1[n6.toNat]?) fun n7 =>
 aa (n7 != n4) (
 some (-1)) (
 bP ((i64.wrap (n4+1)),n5,(i64.wrap (n6+1))))) none) (
 xP n4 n5)) s.1 s.2.1 s.2.2
theorem e15 (d:Nat) (l1:List Int) (n2:Int):g15 (d+1) l1 n2 =
 Q9 (sg d l1 (xO d)) Qd (n2,0,0):=by kernel_rfl
noncomputable def xQ (d:Nat) (n4 n5:Int):Option Int :=
 some n4
noncomputable def sj (d:Nat) (l1:List t1) (xR:Int->Int->Option Int) (bP:(Int×Int×Int)->Option Int) (s:(Int×Int×Int)):Option Int :=
(fun n4 n5 n6 =>
 aa (decide (n6 < (l1.length:Int))) (
 aa (decide (0<=n6)) (
 Q1 (l1[n6.toNat]?) fun x7 =>
 aa (x7.1 != n4) (
 some (-1)) (
 aa (decide (0<=n6)) (
 Q1 (l1[n6.toNat]?) fun x8 =>
 aa (x8.2.1 != (i64.wrap (n4+1))) (
 some (-1)) (
 aa (decide (0<=n6)) (
 Q1 (l1[n6.toNat]?) fun x9 =>
 aa (x9.2.2.1 != (i64.wrap ((i64.wrap (n4+1))+1))) (
 some (-1)) (
 aa (decide (0<=n6)) (
 Q1 (l1[n6.toNat]?) fun aR =>
 aa (aR.2.2.2.1 != (i64.wrap ((i64.wrap ((i64.wrap (n4+1))+1))+1))) (
 some (-1)) (
 aa (decide (0<=n6)) (
 Q1 (l1[n6.toNat]?) fun bH =>
 aa (bH.2.2.2.2.1 != (i64.wrap ((i64.wrap ((i64.wrap ((i64.wrap (n4+1))+1))+1))+1))) (
 some (-1)) (
 aa (decide (0<=n6)) (
 Q1 (l1[n6.toNat]?) fun dI =>
 aa (dI.2.2.2.2.2.1 != (i64.wrap ((i64.wrap ((i64.wrap ((i64.wrap ((i64.wrap (n4+1))+1))+1))+1))+1))) (
 some (-1)) (
 aa (decide (0<=n6)) (
 Q1 (l1[n6.toNat]?) fun fm =>
 aa (fm.2.2.2.2.2.2.1 != (i64.wrap ((i64.wrap ((i64.wrap ((i64.wrap ((i64.wrap ((i64.wrap (n4+1))+1))+1))+1))+1))+1))) (
 some (-1)) (
 aa (decide (0<=n6)) (
 Q1 (l1[n6.toNat]?) fun m_ =>
 aa (m_.2.2.2.2.2.2.2 != (i64.wrap ((i64.wrap ((i64.wrap ((i64.wrap ((i64.wrap ((i64.wrap ((i64.wrap (n4+1))+1))+1))+1))+1))+1))+1))) (
 some (-1)) (
 bP ((i64.wrap ((i64.wrap ((i64.wrap ((i64.wrap ((i64.wrap ((i64.wrap ((i64.wrap ((i64.wrap (n4+1))+1))+1))+1))+1))+1))+1))+1)),n5,(i64.wrap (n6+1))))) none)) none)) none)) none)) none)) none)) none)) none) (
 xR n4 n5)) s.1 s.2.1 s.2.2
theorem e84 (d:Nat) (l1:List t1) (n2:Int):Tp (d+1) l1 n2 =
 Q9 (sj d l1 (xQ d)) Qd (n2,0,0):=by kernel_rfl
noncomputable def xS (d:Nat) (n4 n5:Int):Option Int :=
 some n4
noncomputable def sk (d:Nat) (l1:List t5) (xT:Int->Int->Option Int) (bP:(Int×Int×Int)->Option Int) (s:(Int×Int×Int)):Option Int :=
(fun n4 n5 n6 =>
 aa (decide (n6 < (l1.length:Int))) (
 aa (decide (0<=n6)) (
 Q1 (l1[n6.toNat]?) fun x7 =>
 aa (x7.1 != n4) (
 some (-1)) (
 aa (decide (0<=n6)) (
 Q1 (l1[n6.toNat]?) fun x8 =>
 aa (x8.2.1 != (i64.wrap (n4+1))) (
 some (-1)) (
 aa (decide (0<=n6)) (
 Q1 (l1[n6.toNat]?) fun x9 =>
 aa (x9.2.2.1 != (i64.wrap ((i64.wrap (n4+1))+1))) (
 some (-1)) (
 aa (decide (0<=n6)) (
 Q1 (l1[n6.toNat]?) fun aR =>
 aa (aR.2.2.2.1 != (i64.wrap ((i64.wrap ((i64.wrap (n4+1))+1))+1))) (
 some (-1)) (
 aa (decide (0<=n6)) (
 Q1 (l1[n6.toNat]?) fun bH =>
 aa (bH.2.2.2.2 != (i64.wrap ((i64.wrap ((i64.wrap ((i64.wrap (n4+1))+1))+1))+1))) (
 some (-1)) (
 bP ((i64.wrap ((i64.wrap ((i64.wrap ((i64.wrap ((i64.wrap (n4+1))+1))+1))+1))+1)),n5,(i64.wrap (n6+1))))) none)) none)) none)) none)) none) (
 xT n4 n5)) s.1 s.2.1 s.2.2
theorem e85 (d:Nat) (l1:List t5) (n2:Int):Tq (d+1) l1 n2 =
 Q9 (sk d l1 (xS d)) Qd (n2,0,0):=by kernel_rfl
theorem e40 (d:Nat) (x1:t0) (n2:Int):Tt (d+1) x1 n2 =
 Q1 (Tp d x1.2.1 n2) fun r3 =>
 aa (decide (r3 < 0)) (
 some (-1)) (
 Q1 (g15 d x1.2.2.1 r3) fun r4 =>
 aa (decide (r4 < 0)) (
 some (-1)) (
 Q1 (g15 d x1.2.2.2.1 r4) fun r5 =>
 aa (decide (r5 < 0)) (
 some (-1)) (
 Q1 (g15 d x1.2.2.2.2.1 r5) fun r6 =>
 aa (decide (r6 < 0)) (
 some (-1)) (
 Q1 (g15 d x1.2.2.2.2.2.1 r6) fun r7 =>
 aa (decide (r7 < 0)) (
 some (-1)) (
 Q1 (Tq d x1.2.2.2.2.2.2.1 r7) fun r8 =>
 aa (decide (r8 < 0)) (
 some (-1)) (
 Q1 (g15 d x1.2.2.2.2.2.2.2.1 r8) fun r9 =>
 aa (decide (r9 < 0)) (
 some (-1)) (
 some r9))))))):=by kernel_rfl
theorem e41 (d:Nat) (x1:t7) (n2:Int):Tu (d+1) x1 n2 =
 Q1 (g15 d x1.1 n2) fun r3 =>
 aa (decide (r3 < 0)) (
 some (-1)) (
 Q1 (g15 d x1.2 r3) fun r4 =>
 aa (decide (r4 < 0)) (
 some (-1)) (
 some r4)):=by kernel_rfl
noncomputable def xU (d:Nat) (n4 n5:Int):Option Int :=
 some n4
noncomputable def so (d:Nat) (l1:List t4) (xV:Int->Int->Option Int) (bP:(Int×Int×Int)->Option Int) (s:(Int×Int×Int)):Option Int :=
(fun n4 n5 n6 =>
 aa (decide (n6 < (l1.length:Int))) (
 aa (decide (0<=n6)) (
 Q1 (l1[n6.toNat]?) fun x7 =>
 aa (x7.1 != n4) (
 some (-1)) (
 aa (decide (0<=n6)) (
 Q1 (l1[n6.toNat]?) fun x8 =>
 aa (x8.2.1 != (i64.wrap (n4+1))) (
 some (-1)) (
 aa (decide (0<=n6)) (
 Q1 (l1[n6.toNat]?) fun x9 =>
 aa (x9.2.2.1 != (i64.wrap ((i64.wrap (n4+1))+1))) (
 some (-1)) (
 aa (decide (0<=n6)) (
 Q1 (l1[n6.toNat]?) fun aR =>
 aa (aR.2.2.2.1 != (i64.wrap ((i64.wrap ((i64.wrap (n4+1))+1))+1))) (
 some (-1)) (
 aa (decide (0<=n6)) (
 Q1 (l1[n6.toNat]?) fun bH =>
 aa (bH.2.2.2.2.1 != (i64.wrap ((i64.wrap ((i64.wrap ((i64.wrap (n4+1))+1))+1))+1))) (
 some (-1)) (
 aa (decide (0<=n6)) (
 Q1 (l1[n6.toNat]?) fun dI =>
 aa (dI.2.2.2.2.2 != (i64.wrap ((i64.wrap ((i64.wrap ((i64.wrap ((i64.wrap (n4+1))+1))+1))+1))+1))) (
 some (-1)) (
 bP ((i64.wrap ((i64.wrap ((i64.wrap ((i64.wrap ((i64.wrap ((i64.wrap (n4+1))+1))+1))+1))+1))+1)),n5,(i64.wrap (n6+1))))) none)) none)) none)) none)) none)) none) (
 xV n4 n5)) s.1 s.2.1 s.2.2
theorem e86 (d:Nat) (l1:List t4) (n2:Int):g86 (d+1) l1 n2 =
 Q9 (so d l1 (xU d)) Qd (n2,0,0):=by kernel_rfl
noncomputable def xW (d:Nat) (n4 n5:Int):Option Int :=
 some n4
noncomputable def sq (d:Nat) (l1:List (List t4)) (xX:Int->Int->Option Int) (bP:(Int×Int×Int)->Option Int) (s:(Int×Int×Int)):Option Int :=
(fun n4 n5 n6 =>
 aa (decide (n6 < (l1.length:Int))) (
 aa (decide (0<=n6)) (
 Q1 (l1[n6.toNat]?) fun l7 =>
 Q1 (g86 d l7 n4) fun r8 =>
 aa (decide (r8 < 0)) (
 some (-1)) (
 bP (r8,n5,(i64.wrap (n6+1))))) none) (
 xX n4 n5)) s.1 s.2.1 s.2.2
theorem e42 (d:Nat) (l1:List (List t4)) (n2:Int):g42 (d+1) l1 n2 =
 Q9 (sq d l1 (xW d)) Qd (n2,0,0):=by kernel_rfl
theorem e14 (d:Nat) (x1:t2) (n2:Int):g14 (d+1) x1 n2 =
 Q1 (Tt d x1.1 n2) fun r3 =>
 aa (decide (r3 < 0)) (
 some (-1)) (
 Q1 (Tu d x1.2.1 r3) fun r4 =>
 aa (decide (r4 < 0)) (
 some (-1)) (
 Q1 (g42 d x1.2.2.1 r4) fun r5 =>
 aa (decide (r5 < 0)) (
 some (-1)) (
 some r5))):=by kernel_rfl
theorem e55 (d:Nat) (n1 n2 n3:Int):jo (d+1) n1 n2 n3 =
 aa (decide (n1>=n2)) (
 some (decide (n1<=n3))) (
 some false):=by kernel_rfl
noncomputable def sr (d:Nat) (l1:List t1) (x2:t1) (n4:Int):Option (List t1) :=
 aa (decide (0<=n4)) (
 aa (Nat.ble (n4.toNat) l1.length) (
 aa (Nat.ble ((([]:List t1).length+(l1.take (n4.toNat)).length)*64) Q7) (
 aa (Nat.ble (((([]:List t1)++(l1.take (n4.toNat))).length+[x2].length)*64) Q7) (
 aa (decide (0<=n4)) (
 aa (Nat.ble (n4.toNat) l1.length) (
 aa (Nat.ble ((((([]:List t1)++(l1.take (n4.toNat)))++[x2]).length+(l1.drop (n4.toNat)).length)*64) Q7) (
 some (((([]:List t1)++(l1.take (n4.toNat)))++[x2])++(l1.drop (n4.toNat)))) none) none) none) none) none) none) none
noncomputable def su (d:Nat) (l1:List t1) (x2:t1) (nJ bP:Int->Option (List t1)) (s:Int):Option (List t1) :=
(fun n4 =>
 aa (decide (n4 < (l1.length:Int))) (
 aa (decide (0<=n4)) (
 Q1 (l1[n4.toNat]?) fun x5 =>
 aa (decide (x5.1 < x2.1)) (
 bP (i64.wrap (n4+1))) (
 nJ n4)) none) (
 nJ n4)) s
theorem e64 (d:Nat) (l1:List t1) (x2:t1):O7 (d+1) l1 x2 =
 Q9 (su d l1 x2 (sr d l1 x2)) Qd 0:=by kernel_rfl
noncomputable def xY (d:Nat) (x1:t0) (s3:ByteArray) (n4:Int) (l5:List t1) (l6:List t5):Option t3 :=
 Q1 (jo d x1.2.2.2.2.2.2.2.2 0 (i64.wrap ((x1.2.1.length:Int) - 1))) fun r7 =>
 aa r7 (
 aa (decide (0<=x1.2.2.2.2.2.2.2.2)) (
 Q1 (x1.2.1[x1.2.2.2.2.2.2.2.2.toNat]?) fun x8 =>
 some (s3,l5,l6,x8.1)) none) (
 some (s3,l5,l6,n4))
noncomputable def xZ (d:Nat) (x1:t0) (x_:ByteArray->Int->(List t1)->(List t5)->Option t3) (bW:(Int×t3)->Option t3) (s:(Int×t3)):Option t3 :=
(fun n3 (x4:t3) =>
 aa (decide (n3 < (x1.2.1.length:Int))) (
 aa (decide (0<=n3)) (
 Q1 (x1.2.1[n3.toNat]?) fun x5 =>
 Q1 (O7 d x4.2.1 x5) fun r6 =>
 bW ((i64.wrap (n3+1)),(x4.1,r6,x4.2.2))) none) (
 x_ x4.1 x4.2.2.2 x4.2.1 x4.2.2.1)) s.1 s.2
theorem e26 (d:Nat) (x1:t0):O8 (d+1) x1 =
 aa (Nat.ble ((([]:List t5).length+x1.2.2.2.2.2.2.1.length)*40) Q7) (
 Q9 (xZ d x1 (xY d x1)) Qd (0,(x1.1,[],(([]:List t5)++x1.2.2.2.2.2.2.1),0))) none:=by kernel_rfl
noncomputable def Lq (d:Nat) (n4:Int):Option Int :=
 some (-1)
noncomputable def ya (d:Nat) (x1:t3) (n2:Int) (yb:Int->Option Int) (bP:t10->Option Int) (s:t10):Option Int :=
(fun n4 n5 =>
 aa (decide (n5 < (x1.2.1.length:Int))) (
 aa (decide (0<=n5)) (
 Q1 (x1.2.1[n5.toNat]?) fun x6 =>
 aa (x6.1==n2) (
 some n5) (
 bP (n4,(i64.wrap (n5+1))))) none) (
 yb n4)) s.1 s.2
theorem e62 (d:Nat) (x1:t3) (n2:Int):Cd (d+1) x1 n2 =
 Q9 (ya d x1 n2 (Lq d)) Qd (0,0):=by kernel_rfl
noncomputable def F1 (d:Nat) (l4:List Int):Option (List Int) :=
 some l4
noncomputable def pE (d:Nat) (x1:t3) (n2:Int) (tK:(List Int)->Option (List Int)) (bP:t15->Option (List Int)) (s:t15):Option (List Int) :=
(fun (l4:List Int) n5 =>
 aa (decide (n5 < (x1.2.1.length:Int))) (
 aa (decide (0<=n5)) (
 Q1 (x1.2.1[n5.toNat]?) fun x6 =>
 aa (decide (0<=n2)) (
 Q1 (x1.2.1[n2.toNat]?) fun x7 =>
 aa (x6.2.1==x7.1) (
 aa (Nat.ble ((l4.length+[n5].length)*8) Q7) (
 bP ((l4++[n5]),(i64.wrap (n5+1)))) none) (
 bP (l4,(i64.wrap (n5+1))))) none) none) (
 tK l4)) s.1 s.2
theorem Tv (d:Nat) (x1:t3) (n2:Int):lC (d+1) x1 n2 =
 Q9 (pE d x1 n2 (F1 d)) Qd ([],0):=by kernel_rfl
theorem e87 (d:Nat) (x1:t3) (n2:Int):DX (d+1) x1 n2 =
 Q1 (lC d x1 n2) fun r3 =>
 some ((r3.length:Int)==0):=by kernel_rfl
theorem e60 (d:Nat) (x1:t3) (n2:Int):Ji (d+1) x1 n2 =
 Q1 (Cd d x1 n2) fun r3 =>
 aa (decide (r3>=0)) (
 Q1 (DX d x1 r3) fun r4 =>
 some r4) (
 some false):=by kernel_rfl
noncomputable def F2 (d:Nat) (b4:Bool):Option Bool :=
 some false
noncomputable def pG (d:Nat) (l1:List ByteArray) (s2:ByteArray) (tL:Bool->Option Bool) (bP:t9->Option Bool) (s:t9):Option Bool :=
(fun (b4:Bool) n5 =>
 aa (decide (n5 < (l1.length:Int))) (
 aa (decide (0<=n5)) (
 Q1 (l1[n5.toNat]?) fun s6 =>
 aa (s6.toList==s2.toList) (
 some true) (
 bP (b4,(i64.wrap (n5+1))))) none) (
 tL b4)) s.1 s.2
theorem Tw (d:Nat) (l1:List ByteArray) (s2:ByteArray):Lt (d+1) l1 s2 =
 Q9 (pG d l1 s2 (F2 d)) Qd (false,0):=by kernel_rfl
theorem Tx (d:Nat):Lu (d+1) =
 some [(⟨#[113,100,105,115,99]⟩:ByteArray),(⟨#[100,101,102,97,117,108,116]⟩:ByteArray),(⟨#[99,108,97,115,115]⟩:ByteArray),(⟨#[114,97,116,101]⟩:ByteArray),(⟨#[99,101,105,108]⟩:ByteArray),(⟨#[98,117,114,115,116]⟩:ByteArray),(⟨#[99,98,117,114,115,116]⟩:ByteArray),(⟨#[112,114,105,111]⟩:ByteArray),(⟨#[108,105,109,105,116]⟩:ByteArray),(⟨#[102,105,108,116,101,114]⟩:ByteArray),(⟨#[115,111,117,114,99,101]⟩:ByteArray),(⟨#[100,101,115,116]⟩:ByteArray),(⟨#[112,111,114,116]⟩:ByteArray),(⟨#[109,97,114,107]⟩:ByteArray)]:=by kernel_rfl
theorem Tz (d:Nat) (s1:ByteArray):F3 (d+1) s1 =
 Q1 (Lu d) fun r2 =>
 Q1 (Lt d r2 s1) fun r3 =>
 some r3:=by kernel_rfl
noncomputable def yd (d:Nat) (s1:ByteArray) (b3:Bool):Option Bool :=
 Q1 (jo d (s1.size:Int) 1 8) fun r4 =>
 aa r4 (
 Q1 (F3 d s1) fun r5 =>
 some (!r5)) (
 some false)
noncomputable def ye (d:Nat) (s1:ByteArray) (yg:Bool->Option Bool) (bW:t9->Option Bool) (s:t9):Option Bool :=
(fun (b3:Bool) n4 =>
 aa (decide (n4 < (s1.size:Int))) (
 aa (decide (0<=n4)) (
 Q1 (s1.data.toList[n4.toNat]?) fun c5 =>
 aa (decide ((c5.toNat:Int) < 97)) (
 some false) (
 aa (decide (0<=n4)) (
 Q1 (s1.data.toList[n4.toNat]?) fun c6 =>
 aa (decide ((c6.toNat:Int) > 122)) (
 some false) (
 bW (b3,(i64.wrap (n4+1))))) none)) none) (
 yg b3)) s.1 s.2
theorem e95 (d:Nat) (s1:ByteArray):TA (d+1) s1 =
 Q9 (ye d s1 (yd d s1)) Qd (false,0):=by kernel_rfl
theorem TB (d:Nat) (x1:t1):F4 (d+1) x1 =
 Q1 (jo d x1.1 1 999) fun r2 =>
 aa r2 (
 Q1 (jo d x1.2.2.1 1 100000) fun r3 =>
 aa r3 (
 Q1 (jo d x1.2.2.2.1 x1.2.2.1 100000) fun r4 =>
 aa r4 (
 Q1 (jo d x1.2.2.2.2.1 1500 1000000) fun r5 =>
 aa r5 (
 Q1 (jo d x1.2.2.2.2.2.1 1500 1000000) fun r6 =>
 aa r6 (
 Q1 (jo d x1.2.2.2.2.2.2.1 0 7) fun r7 =>
 some r7) (
 some false)) (
 some false)) (
 some false)) (
 some false)) (
 some false):=by kernel_rfl
noncomputable def lD (d:Nat) (l4:List Int):Option (List Int) :=
 some l4
noncomputable def lE (d:Nat) (fH:(List Int)->Option (List Int)) (x1:t3) (bP:t11->Option (List Int)) (n4:Int) (l5:List Int) (b6 b7:Bool):Option (List Int) :=
 aa b7 (
 aa (Nat.ble ((l5.length+[n4].length)*8) Q7) (
 aa (decide (0<=n4)) (
 Q1 (x1.2.1[n4.toNat]?) fun x8 =>
 Q1 (Cd d x1 x8.2.1) fun r9 =>
 bP (r9,(l5++[n4]))) none) none) (
 fH l5)
noncomputable def lG (d:Nat) (x1:t3) (fH:(List Int)->Option (List Int)) (bP:t11->Option (List Int)) (s:t11):Option (List Int) :=
(fun n4 (l5:List Int) =>
 aa (decide (n4>=0)) (
 lE d fH x1 bP n4 l5 true (decide ((l5.length:Int)<=8))) (
 lE d fH x1 bP n4 l5 false false)) s.1 s.2
theorem TC (d:Nat) (x1:t3) (n2:Int):F5 (d+1) x1 n2 =
 Q9 (lG d x1 (lD d)) Qd (n2,[]):=by kernel_rfl
noncomputable def F6 (d:Nat) (n6:Int):Option Int :=
 some n6
noncomputable def pH (d:Nat) (x1:t3) (r4:List Int) (tM:Int->Option Int) (hU:t10->Option Int) (s:t10):Option Int :=
(fun n6 n7 =>
 aa (decide (n7 < (r4.length:Int))) (
 aa (decide (0<=n7)) (
 aa (Nat.blt (n7.toNat) r4.length) (
 Q1 (r4[n7.toNat]?) fun n8 =>
 aa (decide (0<=n8)) (
 Q1 (x1.2.1[n8.toNat]?) fun x9 =>
 hU ((i64.wrap (n6 - x9.2.2.1)),(i64.wrap (n7+1)))) none) none) none) (
 tM n6)) s.1 s.2
theorem TD (d:Nat) (x1:t3) (n2:Int):F7 (d+1) x1 n2 =
 aa (decide (0<=n2)) (
 Q1 (x1.2.1[n2.toNat]?) fun x3 =>
 Q1 (lC d x1 n2) fun r4 =>
 Q9 (pH d x1 r4 (F6 d)) Qd (x3.2.2.1,0)) none:=by kernel_rfl
noncomputable def Lv (d:Nat) (b6:Bool):Option Bool :=
 some true
noncomputable def kJ (d:Nat) (hU:t9->Option Bool) (b6:Bool) (n7:Int) (b14 b15 b16 b17 b18:Bool):Option Bool :=
 aa b18 (
 some false) (
 hU (b6,(i64.wrap (n7+1))))
noncomputable def kK (d:Nat) (x1:t3) (hU:t9->Option Bool) (b6:Bool) (n7:Int) (x8:t1) (F8 Ei Jj vW:Bool):Option Bool :=
 aa vW (
 some false) (
 Q1 (DX d x1 n7) fun iK =>
 aa iK (
 Q1 (jo d x8.2.2.2.2.2.2.2 1 60) fun pI =>
 aa (!pI) (
 kJ d hU b6 n7 iK true (!pI) true true) (
 Q1 (DX d x1 n7) fun pJ =>
 aa (!pJ) (
 kJ d hU b6 n7 iK true (!pI) false (x8.2.2.2.2.2.2.2 != 0)) (
 kJ d hU b6 n7 iK true (!pI) false false))) (
 Q1 (DX d x1 n7) fun F9 =>
 aa (!F9) (
 kJ d hU b6 n7 iK false false false (x8.2.2.2.2.2.2.2 != 0)) (
 kJ d hU b6 n7 iK false false false false)))
noncomputable def yh (d:Nat) (x1:t3) (yj:Bool->Option Bool) (hU:t9->Option Bool) (s:t9):Option Bool :=
(fun (b6:Bool) n7 =>
 aa (decide (n7 < (x1.2.1.length:Int))) (
 aa (decide (0<=n7)) (
 Q1 (x1.2.1[n7.toNat]?) fun x8 =>
 Q1 (F5 d x1 n7) fun r9 =>
 aa (decide ((r9.length:Int) > 8)) (
 kK d x1 hU b6 n7 x8 true true true true) (
 aa (decide (0<=((i64.wrap ((r9.length:Int) - 1)):Int))) (
 aa (Nat.blt (((i64.wrap ((r9.length:Int) - 1)):Int).toNat) r9.length) (
 Q1 (r9[((i64.wrap ((r9.length:Int) - 1)):Int).toNat]?) fun dZ =>
 aa (decide (0<=dZ)) (
 Q1 (x1.2.1[dZ.toNat]?) fun bH =>
 aa (bH.2.1 != 0) (
 kK d x1 hU b6 n7 x8 false (bH.2.1 != 0) true true) (
 Q1 (F7 d x1 n7) fun jq =>
 kK d x1 hU b6 n7 x8 false (bH.2.1 != 0) false (decide (jq < 0)))) none) none) none)) none) (
 yj b6)) s.1 s.2
noncomputable def ym (d:Nat) (x1:t3) (b3:Bool) (n4:Int):Option Bool :=
 aa (n4 != 1) (
 some false) (
 Q9 (yh d x1 (Lv d)) Qd (b3,0))
noncomputable def sw (d:Nat) (bW:(Bool×Int×Int)->Option Bool) (b3:Bool) (n4 n5:Int) (x6:t1) (b7 b8 b9 F8:Bool):Option Bool :=
 aa F8 (
 some false) (
 aa (x6.2.1==0) (
 bW (b3,(i64.wrap (n4+1)),(i64.wrap (n5+1)))) (
 bW (b3,n4,(i64.wrap (n5+1)))))
noncomputable def yp (d:Nat) (x1:t3) (yq:Bool->Int->Option Bool) (bW:(Bool×Int×Int)->Option Bool) (s:(Bool×Int×Int)):Option Bool :=
(fun (b3:Bool) n4 n5 =>
 aa (decide (n5 < (x1.2.1.length:Int))) (
 aa (decide (0<=n5)) (
 Q1 (x1.2.1[n5.toNat]?) fun x6 =>
 Q1 (F4 d x6) fun r7 =>
 aa (!r7) (
 sw d bW b3 n4 n5 x6 r7 (!r7) true true) (
 aa (decide (n5 > 0)) (
 aa (decide (0<=((i64.wrap (n5 - 1)):Int))) (
 Q1 (x1.2.1[((i64.wrap (n5 - 1)):Int).toNat]?) fun x8 =>
 sw d bW b3 n4 n5 x6 r7 (!r7) false (decide (x8.1>=x6.1))) none) (
 sw d bW b3 n4 n5 x6 r7 (!r7) false false))) none) (
 yq b3 n4)) s.1 s.2.1 s.2.2
theorem e96 (d:Nat) (x1:t3):TE (d+1) x1 =
 Q9 (yp d x1 (ym d x1)) Qd (false,0,0):=by kernel_rfl
theorem TF (d:Nat) (x1:t5):F_ (d+1) x1 =
 Q1 (jo d x1.1 1 99) fun r2 =>
 aa r2 (
 Q1 (jo d x1.2.1 0 3) fun r3 =>
 aa r3 (
 Q1 (jo d x1.2.2.1 0 65535) fun r4 =>
 aa r4 (
 Q1 (jo d x1.2.2.2.1 0 65535) fun r5 =>
 aa r5 (
 some (((i64.wrap ((BitVec.ofInt i64.bits x1.2.2.2.1 &&& BitVec.ofInt i64.bits x1.2.2.1).toNat:Int)):Int)==x1.2.2.2.1)) (
 some false)) (
 some false)) (
 some false)) (
 some false):=by kernel_rfl
noncomputable def Ej (d:Nat) (x1:t3) (b3:Bool):Option Bool :=
 some (decide ((x1.2.2.1.length:Int)<=16))
noncomputable def nK (d:Nat) (bW:t9->Option Bool) (b3:Bool) (n4:Int) (b6 b7 b8 b9 F8 Ei:Bool):Option Bool :=
 aa Ei (
 some false) (
 bW (b3,(i64.wrap (n4+1))))
noncomputable def yt (d:Nat) (x1:t3) (yu:Bool->Option Bool) (bW:t9->Option Bool) (s:t9):Option Bool :=
(fun (b3:Bool) n4 =>
 aa (decide (n4 < (x1.2.2.1.length:Int))) (
 aa (decide (0<=n4)) (
 Q1 (x1.2.2.1[n4.toNat]?) fun x5 =>
 Q1 (F_ d x5) fun r6 =>
 aa (!r6) (
 nK d bW b3 n4 r6 (!r6) true true true true) (
 aa (decide (n4 > 0)) (
 aa (decide (0<=((i64.wrap (n4 - 1)):Int))) (
 Q1 (x1.2.2.1[((i64.wrap (n4 - 1)):Int).toNat]?) fun x7 =>
 aa (decide (x7.1>=x5.1)) (
 nK d bW b3 n4 r6 (!r6) false (decide (x7.1>=x5.1)) true true) (
 Q1 (Ji d x1 x5.2.2.2.2) fun r8 =>
 nK d bW b3 n4 r6 (!r6) false (decide (x7.1>=x5.1)) false (!r8))) none) (
 Q1 (Ji d x1 x5.2.2.2.2) fun r9 =>
 nK d bW b3 n4 r6 (!r6) false false false (!r9)))) none) (
 yu b3)) s.1 s.2
theorem e97 (d:Nat) (x1:t3):TG (d+1) x1 =
 Q9 (yt d x1 (Ej d x1)) Qd (false,0):=by kernel_rfl
theorem e59 (d:Nat) (x1:t3):Jk (d+1) x1 =
 Q1 (TA d x1.1) fun r2 =>
 aa r2 (
 Q1 (jo d (x1.2.1.length:Int) 1 24) fun r3 =>
 aa r3 (
 Q1 (TE d x1) fun r4 =>
 aa r4 (
 Q1 (TG d x1) fun r5 =>
 aa r5 (
 aa (x1.2.2.2==0) (
 some true) (
 Q1 (Ji d x1 x1.2.2.2) fun r6 =>
 some r6)) (
 some false)) (
 some false)) (
 some false)) (
 some false):=by kernel_rfl
noncomputable def Ga (d:Nat) (b4:Bool):Option Bool :=
 some true
noncomputable def pK (d:Nat) (l1 l2:List Int) (tN:Bool->Option Bool) (bP:t9->Option Bool) (s:t9):Option Bool :=
(fun (b4:Bool) n5 =>
 aa (decide (n5 < (l1.length:Int))) (
 aa (decide (0<=n5)) (
 Q1 (l1[n5.toNat]?) fun n6 =>
 aa (decide (0<=n5)) (
 Q1 (l2[n5.toNat]?) fun n7 =>
 aa (n6 != n7) (
 some false) (
 bP (b4,(i64.wrap (n5+1))))) none) none) (
 tN b4)) s.1 s.2
theorem TH (d:Nat) (l1 l2:List Int):pL (d+1) l1 l2 =
 aa ((l1.length:Int) != (l2.length:Int)) (
 some false) (
 Q9 (pK d l1 l2 (Ga d)) Qd (false,0)):=by kernel_rfl
noncomputable def pM (d:Nat) (x1 x2:t0) (b7:Bool):Option Bool :=
 Q1 (pL d x1.2.2.1 x2.2.2.1) fun r8 =>
 aa r8 (
 Q1 (pL d x1.2.2.2.1 x2.2.2.2.1) fun r9 =>
 aa r9 (
 Q1 (pL d x1.2.2.2.2.1 x2.2.2.2.2.1) fun pN =>
 aa pN (
 Q1 (pL d x1.2.2.2.2.2.1 x2.2.2.2.2.2.1) fun fe =>
 aa fe (
 Q1 (pL d x1.2.2.2.2.2.2.2.1 x2.2.2.2.2.2.2.2.1) fun jq =>
 some jq) (
 some false)) (
 some false)) (
 some false)) (
 some false)
noncomputable def pO (d:Nat) (x1 x2:t0) (tO:Bool->Option Bool) (fU:t9->Option Bool) (s:t9):Option Bool :=
(fun (b7:Bool) n8 =>
 aa (decide (n8 < (x1.2.2.2.2.2.2.1.length:Int))) (
 aa (decide (0<=n8)) (
 Q1 (x1.2.2.2.2.2.2.1[n8.toNat]?) fun x9 =>
 aa (decide (0<=n8)) (
 Q1 (x2.2.2.2.2.2.2.1[n8.toNat]?) fun aR =>
 aa (!((x9.1==aR.1)&&((x9.2.1==aR.2.1)&&((x9.2.2.1==aR.2.2.1)&&((x9.2.2.2.1==aR.2.2.2.1)&&((x9.2.2.2.2==aR.2.2.2.2)&&true)))))) (
 some false) (
 fU (b7,(i64.wrap (n8+1))))) none) none) (
 tO b7)) s.1 s.2
noncomputable def pP (d:Nat) (x1 x2:t0) (b5:Bool):Option Bool :=
 Q9 (pO d x1 x2 (pM d x1 x2)) Qd (b5,0)
noncomputable def pQ (d:Nat) (x1 x2:t0) (tP:Bool->Option Bool) (jr:t9->Option Bool) (s:t9):Option Bool :=
(fun (b5:Bool) n6 =>
 aa (decide (n6 < (x1.2.1.length:Int))) (
 aa (decide (0<=n6)) (
 Q1 (x1.2.1[n6.toNat]?) fun x7 =>
 aa (decide (0<=n6)) (
 Q1 (x2.2.1[n6.toNat]?) fun x8 =>
 aa (!((x7.1==x8.1)&&((x7.2.1==x8.2.1)&&((x7.2.2.1==x8.2.2.1)&&((x7.2.2.2.1==x8.2.2.2.1)&&((x7.2.2.2.2.1==x8.2.2.2.2.1)&&((x7.2.2.2.2.2.1==x8.2.2.2.2.2.1)&&((x7.2.2.2.2.2.2.1==x8.2.2.2.2.2.2.1)&&((x7.2.2.2.2.2.2.2==x8.2.2.2.2.2.2.2)&&true))))))))) (
 some false) (
 jr (b5,(i64.wrap (n6+1))))) none) none) (
 tP b5)) s.1 s.2
noncomputable def jt (d:Nat) (x1 x2:t0) (b3:Bool):Option Bool :=
 aa b3 (
 some false) (
 Q9 (pQ d x1 x2 (pP d x1 x2)) Qd (false,0))
theorem TI (d:Nat) (x1 x2:t0):Gb (d+1) x1 x2 =
 aa (!(x1.1.toList==x2.1.toList)) (
 jt d x1 x2 true) (
 aa ((x1.2.1.length:Int) != (x2.2.1.length:Int)) (
 jt d x1 x2 true) (
 aa ((x1.2.2.2.2.2.2.1.length:Int) != (x2.2.2.2.2.2.2.1.length:Int)) (
 jt d x1 x2 true) (
 jt d x1 x2 (x1.2.2.2.2.2.2.2.2 != x2.2.2.2.2.2.2.2.2)))):=by kernel_rfl
noncomputable def Gc (d:Nat) (l5:List Int):Option (List Int) :=
 some l5
noncomputable def pR (d:Nat) (x1:t3) (r3:List Int) (tQ:(List Int)->Option (List Int)) (jr:t15->Option (List Int)) (s:t15):Option (List Int) :=
(fun (l5:List Int) n6 =>
 aa (decide (n6 < (r3.length:Int))) (
 aa (decide (0<=n6)) (
 aa (Nat.blt (n6.toNat) r3.length) (
 Q1 (r3[n6.toNat]?) fun n7 =>
 Q1 (pS d x1 n7) fun r8 =>
 aa (Nat.ble ((l5.length+r8.length)*8) Q7) (
 jr ((l5++r8),(i64.wrap (n6+1)))) none) none) none) (
 tQ l5)) s.1 s.2
theorem TJ (d:Nat) (x1:t3) (n2:Int):pS (d+1) x1 n2 =
 Q1 (lC d x1 n2) fun r3 =>
 Q9 (pR d x1 r3 (Gc d)) Qd ([n2],0):=by kernel_rfl
noncomputable def yw (d:Nat) (n3:Int):Option Int :=
 some n3
noncomputable def lH (d:Nat) (x1:t3) (tR bW:Int->Option Int) (s:Int):Option Int :=
(fun n3 =>
 aa (decide (0<=n3)) (
 Q1 (x1.2.1[n3.toNat]?) fun x4 =>
 aa (x4.2.1 != 0) (
 bW (i64.wrap (n3+1))) (
 tR n3)) none) s
theorem TK (d:Nat) (x1:t3):Ge (d+1) x1 =
 Q9 (lH d x1 (yw d)) Qd 0:=by kernel_rfl
noncomputable def pT (d:Nat) (x1:t3) (l5:List Int) (s17:ByteArray) (eO:Int) (h_:List t1) (d_ eX El vX:List Int) (sy:List t5) (Em:List Int):Option t0 :=
 aa (x1.2.2.2 != 0) (
 Q1 (Cd d x1 x1.2.2.2) fun oL =>
 aa (decide (0<=oL)) (
 aa (Nat.blt (oL.toNat) l5.length) (
 Q1 (l5[oL.toNat]?) fun eS =>
 some (s17,h_,d_,eX,El,vX,sy,Em,eS)) none) none) (
 some (s17,h_,d_,eX,El,vX,sy,Em,eO))
noncomputable def lI (d:Nat) (x1:t3) (l5:List Int) (tS:ByteArray->Int->(List t1)->(List Int)->(List Int)->(List Int)->(List Int)->(List t5)->(List Int)->Option t0) (Gf:(Int×t0)->Option t0) (s:(Int×t0)):Option t0 :=
(fun eI (gh:t0) =>
 aa (decide (eI < (x1.2.2.1.length:Int))) (
 aa (decide (0<=eI)) (
 Q1 (x1.2.2.1[eI.toNat]?) fun nL =>
 Q1 (Cd d x1 nL.2.2.2.2) fun Gg =>
 aa (decide (0<=Gg)) (
 aa (Nat.blt (Gg.toNat) l5.length) (
 Q1 (l5[Gg.toNat]?) fun kM =>
 aa (Nat.ble ((gh.2.2.2.2.2.2.2.1.length+[kM].length)*8) Q7) (
 Gf ((i64.wrap (eI+1)),(gh.1,gh.2.1,gh.2.2.1,gh.2.2.2.1,gh.2.2.2.2.1,gh.2.2.2.2.2.1,gh.2.2.2.2.2.2.1,(gh.2.2.2.2.2.2.2.1++[kM]),gh.2.2.2.2.2.2.2.2))) none) none) none) none) (
 tS gh.1 gh.2.2.2.2.2.2.2.2 gh.2.1 gh.2.2.1 gh.2.2.2.1 gh.2.2.2.2.1 gh.2.2.2.2.2.1 gh.2.2.2.2.2.2.1 gh.2.2.2.2.2.2.2.1)) s.1 s.2
noncomputable def lJ (d:Nat) (x1:t3) (l5:List Int) (s7:ByteArray) (n8:Int) (l9:List t1) (l10 lK En gk:List Int) (kN:List t5) (iC:List Int):Option t0 :=
 Q9 (lI d x1 l5 (pT d x1 l5)) Qd (0,(s7,l9,l10,lK,En,gk,kN,iC,n8))
noncomputable def lM (d:Nat) (x1:t3) (fU:(Int×t0)->Option t0) (n7:Int) (x8:t0) (n9:Int) (aR:t1) (j9 nM eI:Int) (b18:Bool):Option t0 :=
 aa (Nat.ble ((x8.2.2.1.length+[j9].length)*8) Q7) (
 aa (Nat.ble ((x8.2.2.2.1.length+[eI].length)*8) Q7) (
 aa (Nat.ble ((x8.2.2.2.2.1.length+[nM].length)*8) Q7) (
 Q1 (pS d x1 n9) fun vY =>
 aa (Nat.ble ((x8.2.2.2.2.2.1.length+[(i64.wrap (n7+(vY.length:Int)))].length)*8) Q7) (
 fU ((i64.wrap (n7+1)),(x8.1,(x8.2.1++[aR]),(x8.2.2.1++[j9]),(x8.2.2.2.1++[eI]),(x8.2.2.2.2.1++[nM]),(x8.2.2.2.2.2.1++[(i64.wrap (n7+(vY.length:Int)))]),x8.2.2.2.2.2.2))) none) none) none) none
noncomputable def lN (d:Nat) (x1:t3) (l5:List Int) (fU:(Int×t0)->Option t0) (n7:Int) (x8:t0) (n9:Int) (aR:t1) (j9 nM:Int) (b15:Bool):Option t0 :=
 Q1 (lC d x1 n9) fun pJ =>
 aa (decide ((pJ.length:Int) > 0)) (
 aa (Nat.blt 0 pJ.length) (
 Q1 (pJ[0]?) fun eI =>
 aa (decide (0<=eI)) (
 aa (Nat.blt (eI.toNat) l5.length) (
 Q1 (l5[eI.toNat]?) fun eO =>
 lM d x1 fU n7 x8 n9 aR j9 nM eO true) none) none) none) (
 lM d x1 fU n7 x8 n9 aR j9 nM (-1) false)
noncomputable def yx (d:Nat) (x1:t3) (l5:List Int) (fU:(Int×t0)->Option t0) (n7:Int) (x8:t0) (n9:Int) (aR:t1) (j9 dO eI:Int):Option t0 :=
 lN d x1 l5 fU n7 x8 n9 aR j9 dO true
noncomputable def pU (d:Nat) (l5 iK:List Int) (nN:t10->Option t0) (dO eI:Int) (b19 Lw:Bool):Option t0 :=
 aa Lw (
 aa (decide (0<=((i64.wrap (eI+1)):Int))) (
 aa (Nat.blt (((i64.wrap (eI+1)):Int).toNat) iK.length) (
 Q1 (iK[((i64.wrap (eI+1)):Int).toNat]?) fun kM =>
 aa (decide (0<=kM)) (
 aa (Nat.blt (kM.toNat) l5.length) (
 Q1 (l5[kM.toNat]?) fun Ce =>
 nN (Ce,(i64.wrap (eI+1)))) none) none) none) none) (
 nN (dO,(i64.wrap (eI+1))))
noncomputable def lO (d:Nat) (l5:List Int) (n9:Int) (iK:List Int) (tT:Int->Int->Option t0) (nN:t10->Option t0) (s:t10):Option t0 :=
(fun dO eI =>
 aa (decide (eI < (iK.length:Int))) (
 aa (decide (0<=eI)) (
 aa (Nat.blt (eI.toNat) iK.length) (
 Q1 (iK[eI.toNat]?) fun eO =>
 aa (eO==n9) (
 pU d l5 iK nN dO eI true (decide (((i64.wrap (eI+1)):Int) < (iK.length:Int)))) (
 pU d l5 iK nN dO eI false false)) none) none) (
 tT dO eI)) s.1 s.2
noncomputable def ju (d:Nat) (x1:t3) (r3 l5:List Int) (tU:ByteArray->Int->(List t1)->(List Int)->(List Int)->(List Int)->(List Int)->(List t5)->(List Int)->Option t0) (fU:(Int×t0)->Option t0) (s:(Int×t0)):Option t0 :=
(fun n7 (x8:t0) =>
 aa (decide (n7 < (r3.length:Int))) (
 aa (decide (0<=n7)) (
 aa (Nat.blt (n7.toNat) r3.length) (
 Q1 (r3[n7.toNat]?) fun n9 =>
 aa (decide (0<=n9)) (
 Q1 (x1.2.1[n9.toNat]?) fun aR =>
 aa (Nat.ble ((x8.2.1.length+[aR].length)*64) Q7) (
 aa (decide (0<=n9)) (
 Q1 (x1.2.1[n9.toNat]?) fun bH =>
 Q1 (Cd d x1 bH.2.1) fun jq =>
 aa (decide (jq>=0)) (
 aa (decide (0<=jq)) (
 aa (Nat.blt (jq.toNat) l5.length) (
 Q1 (l5[jq.toNat]?) fun j9 =>
 Q1 (lC d x1 jq) fun iK =>
 Q9 (lO d l5 n9 iK (yx d x1 l5 fU n7 x8 n9 aR j9)) Qd ((-1),0)) none) none) (
 lN d x1 l5 fU n7 x8 n9 aR (-1) (-1) false)) none) none) none) none) none) (
 tU x8.1 x8.2.2.2.2.2.2.2.2 x8.2.1 x8.2.2.1 x8.2.2.2.1 x8.2.2.2.2.1 x8.2.2.2.2.2.1 x8.2.2.2.2.2.2.1 x8.2.2.2.2.2.2.2.1)) s.1 s.2
noncomputable def pV (d:Nat) (x1:t3) (r3 l5:List Int):Option t0 :=
 aa (Nat.ble ((([]:List t5).length+x1.2.2.1.length)*40) Q7) (
 Q9 (ju d x1 r3 l5 (lJ d x1 l5)) Qd (0,(x1.1,[],[],[],[],[],(([]:List t5)++x1.2.2.1),[],(-1)))) none
noncomputable def pX (d:Nat) (r3:List Int) (tV:(List Int)->Option t0) (jr:t11->Option t0) (s:t11):Option t0 :=
(fun n5 (l6:List Int) =>
 aa (decide (n5 < (r3.length:Int))) (
 aa (decide (0<=n5)) (
 aa (Nat.blt (n5.toNat) r3.length) (
 Q1 (r3[n5.toNat]?) fun n7 =>
 aa (decide (0<=n7)) (
 aa (Nat.blt (n7.toNat) l6.length) (
 Q1 (l6[n7.toNat]?) fun n8 =>
 jr ((i64.wrap (n5+1)),(l6.set (n7.toNat) n5))) none) none) none) none) (
 tV l6)) s.1 s.2
theorem TL (d:Nat) (x1:t3):Cg (d+1) x1 =
 Q1 (Ge d x1) fun r2 =>
 Q1 (pS d x1 r2) fun r3 =>
 aa (decide (0<=(r3.length:Int))) (
 aa (decide (0<=(r3.length:Int))) (
 aa (Nat.ble ((r3.length:Int).toNat) ((r3.length:Int).toNat)&&Nat.ble (((r3.length:Int).toNat)*8) Q7) (
 Q9 (pX d r3 (pV d x1 r3)) Qd (0,(List.replicate ((r3.length:Int).toNat) (0:Int)))) none) none) none:=by kernel_rfl
noncomputable def yy (d:Nat) (x1:t0) (b2:Bool):Option Bool :=
 aa b2 (
 some false) (
 Q1 (O8 d x1) fun r3 =>
 Q1 (Jk d r3) fun r4 =>
 aa r4 (
 Q1 (Cg d r3) fun r5 =>
 Q1 (Gb d x1 r5) fun r6 =>
 some r6) (
 some false))
theorem e90 (d:Nat) (x1:t0):TN (d+1) x1 =
 aa (decide ((x1.2.1.length:Int) > 24)) (
 yy d x1 true) (
 yy d x1 (decide ((x1.2.2.2.2.2.2.1.length:Int) > 16))):=by kernel_rfl
noncomputable def Lx (d:Nat) (b5:Bool):Option Bool :=
 some true
noncomputable def yz (d:Nat) (x1:t0) (x2:t7) (yA:Bool->Option Bool) (jr:t9->Option Bool) (s:t9):Option Bool :=
(fun (b5:Bool) n6 =>
 aa (decide (n6 < (x1.2.1.length:Int))) (
 aa (decide (0<=n6)) (
 Q1 (x1.2.1[n6.toNat]?) fun x7 =>
 aa (decide (0<=n6)) (
 Q1 (x2.1[n6.toNat]?) fun n8 =>
 Q1 (jo d n8 0 x7.2.2.2.2.1) fun r9 =>
 aa (!r9) (
 some false) (
 aa (decide (0<=n6)) (
 Q1 (x2.2[n6.toNat]?) fun dZ =>
 Q1 (jo d dZ 0 x7.2.2.2.2.2.1) fun fe =>
 aa (!fe) (
 some false) (
 jr (b5,(i64.wrap (n6+1))))) none)) none) none) (
 yA b5)) s.1 s.2
noncomputable def yB (d:Nat) (x1:t0) (x2:t7) (b3:Bool):Option Bool :=
 aa b3 (
 some false) (
 Q9 (yz d x1 x2 (Lx d)) Qd (false,0))
theorem e91 (d:Nat) (x1:t0) (x2:t7):TO (d+1) x1 x2 =
 aa ((x2.1.length:Int) != (x1.2.1.length:Int)) (
 yB d x1 x2 true) (
 yB d x1 x2 ((x2.2.length:Int) != (x1.2.1.length:Int))):=by kernel_rfl
theorem e53 (d:Nat) (x1:t0) (x2:t7):TP (d+1) x1 x2 =
 Q1 (TN d x1) fun r3 =>
 aa r3 (
 Q1 (TO d x1 x2) fun r4 =>
 some r4) (
 some false):=by kernel_rfl
theorem e92 (d:Nat) (x1:t0) (n2:Int):TQ (d+1) x1 n2 =
 aa (decide (0<=n2)) (
 Q1 (x1.2.2.2.1[n2.toNat]?) fun n3 =>
 some (decide (n3 < 0))) none:=by kernel_rfl
noncomputable def Ly (d:Nat) (l3:List Int):Option (List Int) :=
 some l3
noncomputable def yC (d:Nat) (x1:t0) (yD:(List Int)->Option (List Int)) (bW:t15->Option (List Int)) (s:t15):Option (List Int) :=
(fun (l3:List Int) n4 =>
 aa (decide (n4 < (x1.2.1.length:Int))) (
 Q1 (TQ d x1 n4) fun r5 =>
 aa r5 (
 aa (Nat.ble ((l3.length+[n4].length)*8) Q7) (
 bW ((l3++[n4]),(i64.wrap (n4+1)))) none) (
 bW (l3,(i64.wrap (n4+1))))) (
 yD l3)) s.1 s.2
theorem e54 (d:Nat) (x1:t0):Eo (d+1) x1 =
 Q9 (yC d x1 (Ly d)) Qd ([],0):=by kernel_rfl
theorem e93 (d:Nat) (n1:Int):Jl (d+1) n1 =
 Q1 (jo d n1 0 65535) fun r2 =>
 some r2:=by kernel_rfl
theorem e56 (d:Nat) (x1:t4):TS (d+1) x1 =
 Q1 (jo d x1.1 1 100000) fun r2 =>
 aa r2 (
 Q1 (Jl d x1.2.1) fun r3 =>
 aa r3 (
 Q1 (Jl d x1.2.2.1) fun r4 =>
 aa r4 (
 Q1 (Jl d x1.2.2.2.1) fun r5 =>
 aa r5 (
 Q1 (Jl d x1.2.2.2.2.1) fun r6 =>
 aa r6 (
 Q1 (jo d x1.2.2.2.2.2 1 1500) fun r7 =>
 some r7) (
 some false)) (
 some false)) (
 some false)) (
 some false)) (
 some false):=by kernel_rfl
theorem TT (d:Nat) (x1:t4) (n2:Int):Lz (d+1) x1 n2 =
 aa (decide (0<=n2)) (
 aa (Nat.blt (n2.toNat) ([x1.2.1,x1.2.2.1,x1.2.2.2.1,x1.2.2.2.2.1].length)) (
 Q1 ([x1.2.1,x1.2.2.1,x1.2.2.2.1,x1.2.2.2.2.1][n2.toNat]?) fun n3 =>
 some n3) none) none:=by kernel_rfl
theorem TU (d:Nat) (x1:t5) (x2:t4):Gh (d+1) x1 x2 =
 Q1 (Lz d x2 x1.2.1) fun r3 =>
 some (((i64.wrap ((BitVec.ofInt i64.bits r3 &&& BitVec.ofInt i64.bits x1.2.2.1).toNat:Int)):Int)==x1.2.2.2.1):=by kernel_rfl
noncomputable def LA (d:Nat) (n4:Int):Option Int :=
 some (-1)
noncomputable def yE (d:Nat) (l1:List t5) (x2:t4) (yF:Int->Option Int) (bP:t10->Option Int) (s:t10):Option Int :=
(fun n4 n5 =>
 aa (decide (n5 < (l1.length:Int))) (
 aa (decide (0<=n5)) (
 Q1 (l1[n5.toNat]?) fun x6 =>
 Q1 (Gh d x6 x2) fun r7 =>
 aa r7 (
 some n5) (
 bP (n4,(i64.wrap (n5+1))))) none) (
 yF n4)) s.1 s.2
theorem e94 (d:Nat) (l1:List t5) (x2:t4):TW (d+1) l1 x2 =
 Q9 (yE d l1 x2 (LA d)) Qd (0,0):=by kernel_rfl
theorem e57 (d:Nat) (x1:t0) (x2:t4):O9 (d+1) x1 x2 =
 Q1 (TW d x1.2.2.2.2.2.2.1 x2) fun r3 =>
 aa (decide (r3>=0)) (
 aa (decide (0<=r3)) (
 Q1 (x1.2.2.2.2.2.2.2.1[r3.toNat]?) fun n4 =>
 some n4) none) (
 some x1.2.2.2.2.2.2.2.2):=by kernel_rfl
noncomputable def LB (d:Nat) (b4:Bool):Option Bool :=
 some false
noncomputable def yG (d:Nat) (l1:List Int) (n2:Int) (yH:Bool->Option Bool) (bP:t9->Option Bool) (s:t9):Option Bool :=
(fun (b4:Bool) n5 =>
 aa (decide (n5 < (l1.length:Int))) (
 aa (decide (0<=n5)) (
 Q1 (l1[n5.toNat]?) fun n6 =>
 aa (n6==n2) (
 some true) (
 bP (b4,(i64.wrap (n5+1))))) none) (
 yH b4)) s.1 s.2
theorem e58 (d:Nat) (l1:List Int) (n2:Int):O_ (d+1) l1 n2 =
 Q9 (yG d l1 n2 (LB d)) Qd (false,0):=by kernel_rfl
noncomputable def LC (d:Nat) (b6:Bool):Option Bool :=
 some true
noncomputable def yI (d:Nat) (hU:(Bool×(List Int)×Int)->Option Bool) (n8:Int) (vW:Bool) (nM:Int) (iC:List Int):Option Bool :=
 hU (vW,iC,(i64.wrap (n8+1)))
noncomputable def nO (d:Nat) (x1:t2) (r3:List Int) (n8:Int) (l9:List t4) (yJ:Bool->Int->(List Int)->Option Bool) (Gi:(Bool×(List Int)×Int)->Option Bool) (s:(Bool×(List Int)×Int)):Option Bool :=
(fun (vW:Bool) (kN:List Int) gT =>
 aa (decide (gT < (l9.length:Int))) (
 aa (decide (0<=gT)) (
 Q1 (l9[gT.toNat]?) fun oM =>
 Q1 (TS d oM) fun F9 =>
 aa (!F9) (
 some false) (
 Q1 (O9 d x1.1 oM) fun Ch =>
 aa (decide (0<=n8)) (
 aa (Nat.blt (n8.toNat) r3.length) (
 Q1 (r3[n8.toNat]?) fun tW =>
 aa (Ch != tW) (
 some false) (
 Q1 (O_ d kN oM.1) fun Gg =>
 aa Gg (
 some false) (
 aa (Nat.ble ((kN.length+[oM.1].length)*8) Q7) (
 Gi (vW,(kN++[oM.1]),(i64.wrap (gT+1)))) none))) none) none)) none) (
 yJ vW gT kN)) s.1 s.2.1 s.2.2
noncomputable def yK (d:Nat) (x1:t2) (r3:List Int) (yL:Bool->Option Bool) (hU:(Bool×(List Int)×Int)->Option Bool) (s:(Bool×(List Int)×Int)):Option Bool :=
(fun (b6:Bool) (l7:List Int) n8 =>
 aa (decide (n8 < (x1.2.2.1.length:Int))) (
 aa (decide (0<=n8)) (
 Q1 (x1.2.2.1[n8.toNat]?) fun l9 =>
 aa (decide (0<=n8)) (
 aa (Nat.blt (n8.toNat) r3.length) (
 Q1 (r3[n8.toNat]?) fun dZ =>
 aa (decide (0<=dZ)) (
 Q1 (x1.1.2.1[dZ.toNat]?) fun bH =>
 aa (decide ((l9.length:Int) > bH.2.2.2.2.2.2.2)) (
 some false) (
 Q9 (nO d x1 r3 n8 l9 (yI d hU n8)) Qd (b6,l7,0))) none) none) none) none) (
 yL b6)) s.1 s.2.1 s.2.2
noncomputable def sC (d:Nat) (x1:t2) (r3:List Int) (b4:Bool):Option Bool :=
 aa b4 (
 some false) (
 Q9 (yK d x1 r3 (LC d)) Qd (false,[],0))
theorem e24 (d:Nat) (x1:t2):g24 (d+1) x1 =
 Q1 (TP d x1.1 x1.2.1) fun r2 =>
 aa (!r2) (
 some false) (
 Q1 (Eo d x1.1) fun r3 =>
 aa ((x1.2.2.1.length:Int) != (r3.length:Int)) (
 sC d x1 r3 true) (
 Q1 (jo d x1.2.2.2.1 (-1) (i64.wrap ((r3.length:Int) - 1))) fun r4 =>
 aa (!r4) (
 sC d x1 r3 true) (
 Q1 (jo d x1.2.2.2.2 0 1000000) fun r5 =>
 sC d x1 r3 (!r5)))):=by kernel_rfl
noncomputable def Gj (d:Nat) (l3 l4:List Int):Option t7 :=
 some (l3,l4)
noncomputable def pY (d:Nat) (x1:t0) (tX:(List Int)->(List Int)->Option t7) (bW:(Int×t7)->Option t7) (s:(Int×t7)):Option t7 :=
(fun n3 (x4:t7) =>
 aa (decide (n3 < (x1.2.1.length:Int))) (
 aa (decide (0<=n3)) (
 Q1 (x1.2.1[n3.toNat]?) fun x5 =>
 aa (Nat.ble ((x4.1.length+[x5.2.2.2.2.1].length)*8) Q7) (
 aa (Nat.ble ((x4.2.length+[x5.2.2.2.2.2.1].length)*8) Q7) (
 bW ((i64.wrap (n3+1)),((x4.1++[x5.2.2.2.2.1]),(x4.2++[x5.2.2.2.2.2.1])))) none) none) none) (
 tX x4.1 x4.2)) s.1 s.2
theorem TX (d:Nat) (x1:t0):Gk (d+1) x1 =
 Q9 (pY d x1 (Gj d)) Qd (0,([],[])):=by kernel_rfl
theorem e98 (d:Nat) (x1:t3):SA (d+1) x1 =
 Q1 (Cg d x1) fun r2 =>
 Q1 (Gk d r2) fun r3 =>
 Q1 (Eo d r2) fun r4 =>
 aa (decide (0<=(r4.length:Int))) (
 aa (decide (0<=(r4.length:Int))) (
 aa (Nat.ble ((r4.length:Int).toNat) ((r4.length:Int).toNat)&&Nat.ble (((r4.length:Int).toNat)*24) Q7) (
 some (r2,r3,(List.replicate ((r4.length:Int).toNat) ([]:List t4)),(-1),0)) none) none) none:=by kernel_rfl
noncomputable def LD (d:Nat) (n4:Int):Option Int :=
 some (-1)
noncomputable def yM (d:Nat) (x1:t0) (n2:Int) (yN:Int->Option Int) (bP:t10->Option Int) (s:t10):Option Int :=
(fun n4 n5 =>
 aa (decide (n5 < (x1.2.1.length:Int))) (
 aa (decide (0<=n5)) (
 Q1 (x1.2.1[n5.toNat]?) fun x6 =>
 aa (x6.1==n2) (
 some n5) (
 bP (n4,(i64.wrap (n5+1))))) none) (
 yN n4)) s.1 s.2
theorem e99 (d:Nat) (x1:t0) (n2:Int):TY (d+1) x1 n2 =
 Q9 (yM d x1 n2 (LD d)) Qd (0,0):=by kernel_rfl
theorem TZ (d:Nat) (n1 n2:Int):Ci (d+1) n1 n2 =
 aa (decide (n1 < n2)) (
 some n1) (
 some n2):=by kernel_rfl
theorem SF (d:Nat) (x1:t2):FW (d+1) x1 =
 aa (decide (x1.2.2.2.1 < 0)) (
 some 0) (
 Q1 (Eo d x1.1) fun r2 =>
 aa (decide (0<=x1.2.2.2.1)) (
 aa (Nat.blt (x1.2.2.2.1.toNat) r2.length) (
 Q1 (r2[x1.2.2.2.1.toNat]?) fun n3 =>
 aa (decide (0<=n3)) (
 Q1 (x1.1.2.1[n3.toNat]?) fun x4 =>
 some x4.1) none) none) none):=by kernel_rfl
noncomputable def LF (d:Nat) (s9:ByteArray) (dZ iL tY:Int) (gk:List t1) (kN iC pZ gE:List Int) (oN:List t5) (h_ d_ eX sy:List Int) (Em:List (List t4)):Option t8 :=
 some (((s9,gk,kN,iC,pZ,gE,oN,h_,dZ),(d_,eX),Em,iL,tY),sy)
noncomputable def DS (d:Nat) (Gl:t12->Option t8) (Ep n29:Int) (l30:List Int) (kO:List (List t4)):Option t8 :=
 Gl (l30,(i64.wrap (Ep+1)),kO)
noncomputable def cW (d:Nat) (nP:t12->Option t8) (oO:List Int) (vZ:Int) (yO:t4) (n33 LG:Int) (iV:List (List t4)):Option t8 :=
 aa (n33 != 1) (
 aa (Nat.ble ((oO.length+[yO.1].length)*8) Q7) (
 nP ((oO++[yO.1]),(i64.wrap (vZ+1)),iV)) none) (
 nP (oO,(i64.wrap (vZ+1)),iV))
noncomputable def hO (d:Nat) (nP:t12->Option t8) (oO:List Int) (vZ:Int) (kO:List (List t4)) (yO:t4) (LH:t1) (nc:Int):Option t8 :=
 aa (decide (0<=nc)) (
 aa (Nat.blt (nc.toNat) kO.length) (
 Q1 (kO[nc.toNat]?) fun Jm =>
 aa (decide ((Jm.length:Int)>=LH.2.2.2.2.2.2.2)) (
 cW d nP oO vZ yO 2 LH.1 kO) (
 aa (decide (0<=nc)) (
 aa (Nat.blt (nc.toNat) kO.length) (
 Q1 (kO[nc.toNat]?) fun sD =>
 aa (Nat.ble ((sD.length+[yO].length)*48) Q7) (
 aa (decide (0<=nc)) (
 aa (Nat.blt (nc.toNat) kO.length) (
 aa (Nat.beq (nc.toNat) (nc.toNat)) (
 Q1 (kO[nc.toNat]?) fun l39 =>
 cW d nP oO vZ yO 1 LH.1 (kO.set (nc.toNat) (sD++[yO]))) none) none) none) none) none) none)) none) none
noncomputable def kH (d:Nat) (s9:ByteArray) (dZ:Int) (gk:List t1) (kN iC pZ gE:List Int) (oN:List t5) (h_:List Int) (Cj:Int) (lP T0:Int->Option t8) (s:Int):Option t8 :=
(fun nc =>
 Q1 (Eo d (s9,gk,kN,iC,pZ,gE,oN,h_,dZ)) fun LI =>
 aa (decide (0<=nc)) (
 aa (Nat.blt (nc.toNat) LI.length) (
 Q1 (LI[nc.toNat]?) fun n38 =>
 aa (n38 != Cj) (
 T0 (i64.wrap (nc+1))) (
 lP nc)) none) none) s
noncomputable def rY (d:Nat) (s9:ByteArray) (dZ:Int) (gk:List t1) (kN iC pZ gE:List Int) (oN:List t5) (h_:List Int) (Bf:List t4) (yP:Int->(List Int)->(List (List t4))->Option t8) (nP:t12->Option t8) (s:t12):Option t8 :=
(fun (oO:List Int) vZ (kO:List (List t4)) =>
 aa (decide (vZ < (Bf.length:Int))) (
 aa (decide (0<=vZ)) (
 Q1 (Bf[vZ.toNat]?) fun yO =>
 Q1 (O9 d (s9,gk,kN,iC,pZ,gE,oN,h_,dZ) yO) fun Cj =>
 aa (decide (Cj < 0)) (
 cW d nP oO vZ yO 3 0 kO) (
 aa (decide (0<=Cj)) (
 aa (Nat.blt (Cj.toNat) gk.length) (
 Q1 (gk[Cj.toNat]?) fun LH =>
 Q9 (kH d s9 dZ gk kN iC pZ gE oN h_ Cj (hO d nP oO vZ kO yO LH)) Qd 0) none) none)) none) (
 yP vZ oO kO)) s.1 s.2.1 s.2.2
noncomputable def rZ (d:Nat) (x1:t2) (s9:ByteArray) (dZ:Int) (gk:List t1) (kN iC pZ gE:List Int) (oN:List t5) (h_:List Int) (yR:(List Int)->(List (List t4))->Option t8) (Gl:t12->Option t8) (s:t12):Option t8 :=
(fun (sy:List Int) Ep (Er:List (List t4)) =>
 aa (decide (Ep < (x1.2.2.1.length:Int))) (
 aa (decide (0<=Ep)) (
 Q1 (x1.2.2.1[Ep.toNat]?) fun Bf =>
 Q9 (rY d s9 dZ gk kN iC pZ gE oN h_ Bf (DS d Gl Ep)) Qd (sy,0,Er)) none) (
 yR sy Er)) s.1 s.2.1 s.2.2
noncomputable def w5 (d:Nat) (x1:t2) (s9:ByteArray) (dZ iL tY:Int) (gk:List t1) (kN iC pZ gE:List Int) (oN:List t5) (h_ d_ eX:List Int) (El:List (List t4)):Option t8 :=
 Q9 (rZ d x1 s9 dZ gk kN iC pZ gE oN h_ (LF d s9 dZ iL tY gk kN iC pZ gE oN h_ d_ eX)) Qd ([],0,El)
noncomputable def w6 (d:Nat) (x1:t2) (r7:List Int) (yS:ByteArray->Int->Int->Int->(List t1)->(List Int)->(List Int)->(List Int)->(List Int)->(List t5)->(List Int)->(List Int)->(List Int)->(List (List t4))->Option t8) (yT:(Int×t2)->Option t8) (s:(Int×t2)):Option t8 :=
(fun n9 (aR:t2) =>
 aa (decide (n9 < (r7.length:Int))) (
 aa (decide (0<=n9)) (
 aa (Nat.blt (n9.toNat) r7.length) (
 Q1 (r7[n9.toNat]?) fun iL =>
 aa (decide (0<=iL)) (
 aa (Nat.blt (iL.toNat) aR.1.2.1.length) (
 Q1 (aR.1.2.1[iL.toNat]?) fun dI =>
 Q1 (FW (d+1) x1) fun oP =>
 aa (dI.1==oP) (
 yT ((i64.wrap (n9+1)),(aR.1,aR.2.1,aR.2.2.1,n9,aR.2.2.2.2))) (
 yT ((i64.wrap (n9+1)),aR))) none) none) none) none) (
 yS aR.1.1 aR.1.2.2.2.2.2.2.2.2 aR.2.2.2.1 aR.2.2.2.2 aR.1.2.1 aR.1.2.2.1 aR.1.2.2.2.1 aR.1.2.2.2.2.1 aR.1.2.2.2.2.2.1 aR.1.2.2.2.2.2.2.1 aR.1.2.2.2.2.2.2.2.1 aR.2.1.1 aR.2.1.2 aR.2.2.1)) s.1 s.2
noncomputable def w4 (d:Nat) (x1 r3:t2) (l5 l6:List Int):Option t8 :=
 Q1 (Eo (d+1) r3.1) fun r7 =>
 Q9 (w6 d x1 r7 (w5 d x1)) Qd (0,(r3.1,(l5,l6),r3.2.2.1,r3.2.2.2.1,x1.2.2.2.2))
noncomputable def rX (d:Nat) (x1 r3:t2) (yU:(List Int)->(List Int)->Option t8) (jr:t16->Option t8) (s:t16):Option t8 :=
(fun n5 (l6:List Int) (l7:List Int) =>
 aa (decide (n5 < (r3.1.2.1.length:Int))) (
 aa (decide (0<=n5)) (
 aa (Nat.blt (n5.toNat) r3.1.2.1.length) (
 Q1 (r3.1.2.1[n5.toNat]?) fun x8 =>
 Q1 (TY (d+1) x1.1 x8.1) fun r9 =>
 aa (decide (r9>=0)) (
 aa (decide (0<=r9)) (
 Q1 (x1.2.1.1[r9.toNat]?) fun dZ =>
 Q1 (Ci (d+1) dZ x8.2.2.2.2.1) fun fe =>
 aa (decide (0<=n5)) (
 aa (Nat.blt (n5.toNat) l6.length) (
 Q1 (l6[n5.toNat]?) fun tY =>
 aa (decide (0<=r9)) (
 Q1 (x1.2.1.2[r9.toNat]?) fun j9 =>
 Q1 (Ci (d+1) j9 x8.2.2.2.2.2.1) fun iK =>
 aa (decide (0<=n5)) (
 aa (Nat.blt (n5.toNat) l7.length) (
 Q1 (l7[n5.toNat]?) fun gT =>
 jr ((i64.wrap (n5+1)),(l6.set (n5.toNat) fe),(l7.set (n5.toNat) iK))) none) none) none) none) none) none) (
 jr ((i64.wrap (n5+1)),l6,l7))) none) none) (
 yU l6 l7)) s.1 s.2.1 s.2.2
theorem e65 (d:Nat) (x1:t2) (x2:t3):SH (d+2) x1 x2 =
 Q1 (SA (d+1) x2) fun r3 =>
 Q9 (rX d x1 r3 (w4 d x1 r3)) Qd (0,r3.2.1.1,r3.2.1.2):=by kernel_rfl
theorem ZW (d:Nat) (x1:t2) (x2:t3) (b3:Bool):K_ (d+1) x1 x2 b3 =
 aa (!b3) (
 some ((((⟨#[]⟩:ByteArray),[],[],[],[],[],[],[],0),([],[]),[],0,0),[],false)) (
 Q1 (Jk d x2) fun r4 =>
 aa (!r4) (
 some ((((⟨#[]⟩:ByteArray),[],[],[],[],[],[],[],0),([],[]),[],0,0),[],false)) (
 Q1 (SH d x1 x2) fun r5 =>
 some (r5.1,r5.2,true))):=by kernel_rfl
theorem e63 (d:Nat) (x1:t3):Lb (d+1) x1 =
 Q1 (Jk d x1) fun r2 =>
 aa (!r2) (
 some (((⟨#[]⟩:ByteArray),([]:List t1),([]:List t5),0),false)) (
 some (x1,true)):=by kernel_rfl
noncomputable def xm (d:Nat) (x5:t1) (s7:ByteArray) (n8:Int) (l9:List t1) (l10:List t5) (fe:Int) (Jj:Bool):Option (t3×Bool) :=
 aa Jj (
 aa (decide (0<=fe)) (
 aa (Nat.blt (fe.toNat) l9.length) (
 Q1 (l9[fe.toNat]?) fun fm =>
 Q1 (Lb d (s7,(l9.set (fe.toNat) (fm.1,fm.2.1,fm.2.2.1,fm.2.2.2.1,fm.2.2.2.2.1,fm.2.2.2.2.2.1,fm.2.2.2.2.2.2.1,x5.2.2.2.2.2.2.2)),l10,n8)) fun iK =>
 some (iK.1,iK.2)) none) none) (
 Q1 (Lb d (s7,l9,l10,n8)) fun pI =>
 some (pI.1,pI.2))
noncomputable def xk (d:Nat) (x5:t1) (s7:ByteArray) (n8:Int) (l9:List t1) (l10:List t5):Option (t3×Bool) :=
 Q1 (Cd d (s7,l9,l10,n8) x5.2.1) fun fe =>
 aa (decide (fe>=0)) (
 Q1 (DX d (s7,l9,l10,n8) fe) fun jq =>
 xm d x5 s7 n8 l9 l10 fe jq) (
 xm d x5 s7 n8 l9 l10 fe false)
noncomputable def xl (d:Nat) (x1:t3) (n2:Int) (yV:ByteArray->Int->(List t1)->(List t5)->Option (t3×Bool)) (fU:(Int×t3)->Option (t3×Bool)) (s:(Int×t3)):Option (t3×Bool) :=
(fun n7 (x8:t3) =>
 aa (decide (n7 < (x1.2.1.length:Int))) (
 aa (decide (0<=n7)) (
 Q1 (x1.2.1[n7.toNat]?) fun x9 =>
 aa (x9.1 != n2) (
 aa (Nat.ble ((x8.2.1.length+[x9].length)*64) Q7) (
 fU ((i64.wrap (n7+1)),(x8.1,(x8.2.1++[x9]),x8.2.2))) none) (
 fU ((i64.wrap (n7+1)),x8))) none) (
 yV x8.1 x8.2.2.2 x8.2.1 x8.2.2.1)) s.1 s.2
noncomputable def xj (d:Nat) (x1:t3) (n2:Int) (b3:Bool):Option (t3×Bool) :=
 aa b3 (
 some (((⟨#[]⟩:ByteArray),([]:List t1),([]:List t5),0),false)) (
 Q1 (Cd d x1 n2) fun r4 =>
 aa (decide (0<=r4)) (
 Q1 (x1.2.1[r4.toNat]?) fun x5 =>
 aa (Nat.ble ((([]:List t5).length+x1.2.2.1.length)*40) Q7) (
 Q9 (xl d x1 n2 (xk d x5)) Qd (0,(x1.1,[],(([]:List t5)++x1.2.2.1),x1.2.2.2))) none) none)
theorem e43 (d:Nat) (x1:t3) (n2:Int):SX (d+1) x1 n2 =
 Q1 (Jk d x1) fun r3 =>
 aa (!r3) (
 xj d x1 n2 true) (
 Q1 (Ji d x1 n2) fun r4 =>
 xj d x1 n2 (!r4)):=by kernel_rfl
theorem e16 (d:Nat) (x1:t2) (n2:Int):g16 (d+1) x1 n2 =
 Q1 (g24 d x1) fun r3 =>
 aa (!r3) (
 some ((((⟨#[]⟩:ByteArray),[],[],[],[],[],[],[],0),([],[]),[],0,0),[],false)) (
 Q1 (O8 d x1.1) fun r4 =>
 Q1 (SX d r4 n2) fun r5 =>
 Q1 (K_ d x1 r5.1 r5.2) fun r6 =>
 some (r6.1,r6.2.1,r6.2.2)):=by kernel_rfl
theorem T1 (d:Nat) (n1:Int):Gm (d+1) n1 =
 aa (decide (n1>=97)) (
 some (decide (n1<=122))) (
 some false):=by kernel_rfl
noncomputable def Gn (d:Nat) (b3:Bool):Option Bool :=
 some false
noncomputable def p5 (d:Nat) (s1:ByteArray) (tZ:Bool->Option Bool) (bW:t9->Option Bool) (s:t9):Option Bool :=
(fun (b3:Bool) n4 =>
 aa (decide (n4 < 14)) (
 aa (decide (0<=n4)) (
 Q1 (([(⟨#[113,100,105,115,99]⟩:ByteArray),(⟨#[100,101,102,97,117,108,116]⟩:ByteArray),(⟨#[99,108,97,115,115]⟩:ByteArray),(⟨#[114,97,116,101]⟩:ByteArray),(⟨#[99,101,105,108]⟩:ByteArray),(⟨#[98,117,114,115,116]⟩:ByteArray),(⟨#[99,98,117,114,115,116]⟩:ByteArray),(⟨#[112,114,105,111]⟩:ByteArray),(⟨#[108,105,109,105,116]⟩:ByteArray),(⟨#[102,105,108,116,101,114]⟩:ByteArray),(⟨#[115,111,117,114,99,101]⟩:ByteArray),(⟨#[100,101,115,116]⟩:ByteArray),(⟨#[112,111,114,116]⟩:ByteArray),(⟨#[109,97,114,107]⟩:ByteArray)]:List ByteArray)[n4.toNat]?) fun s5 =>
 aa (s5.toList==s1.toList) (
 some true) (
 bW (b3,(i64.wrap (n4+1))))) none) (
 tZ b3)) s.1 s.2
theorem T2 (d:Nat) (s1:ByteArray):Gp (d+1) s1 =
 Q9 (p5 d s1 (Gn d)) Qd (false,0):=by kernel_rfl
noncomputable def p6 (d:Nat) (s1:ByteArray) (b4:Bool):Option Bool :=
 Q1 (Gp d s1) fun r5 =>
 some (!r5)
noncomputable def p7 (d:Nat) (s1:ByteArray) (t_:Bool->Option Bool) (bP:t9->Option Bool) (s:t9):Option Bool :=
(fun (b4:Bool) n5 =>
 aa (decide (n5 < (s1.size:Int))) (
 aa (decide (0<=n5)) (
 Q1 (s1.data.toList[n5.toNat]?) fun c6 =>
 Q1 (Gm d (c6.toNat:Int)) fun r7 =>
 aa (!r7) (
 some false) (
 bP (b4,(i64.wrap (n5+1))))) none) (
 t_ b4)) s.1 s.2
noncomputable def p8 (d:Nat) (s1:ByteArray) (b2:Bool):Option Bool :=
 aa b2 (
 some false) (
 Q9 (p7 d s1 (p6 d s1)) Qd (false,0))
theorem T3 (d:Nat) (s1:ByteArray):Gq (d+1) s1 =
 aa (decide (((s1.size:Int):Int) < 1)) (
 p8 d s1 true) (
 p8 d s1 (decide (((s1.size:Int):Int) > 8))):=by kernel_rfl
theorem T4 (d:Nat) (n1:Int):Gr (d+1) n1 =
 aa (decide (n1>=1)) (
 some (decide (n1<=999))) (
 some false):=by kernel_rfl
noncomputable def yW (d:Nat) (x1:t3) (b3:Bool):Option Bool :=
 aa (decide ((x1.2.1.length:Int)>=1)) (
 some (decide ((x1.2.1.length:Int)<=24))) (
 some false)
noncomputable def p9 (d:Nat) (x1:t3) (ua:Bool->Option Bool) (bW:t9->Option Bool) (s:t9):Option Bool :=
(fun (b3:Bool) n4 =>
 aa (decide (n4 < (x1.2.1.length:Int))) (
 aa (decide (0<=n4)) (
 Q1 (x1.2.1[n4.toNat]?) fun x5 =>
 Q1 (Gr d x5.1) fun r6 =>
 aa (!r6) (
 some false) (
 aa (decide (n4 > 0)) (
 aa (decide (0<=((i64.wrap (n4 - 1)):Int))) (
 Q1 (x1.2.1[((i64.wrap (n4 - 1)):Int).toNat]?) fun x7 =>
 aa (decide (x5.1<=x7.1)) (
 some false) (
 bW (b3,(i64.wrap (n4+1))))) none) (
 bW (b3,(i64.wrap (n4+1)))))) none) (
 ua b3)) s.1 s.2
theorem T5 (d:Nat) (x1:t3):Gs (d+1) x1 =
 Q9 (p9 d x1 (yW d x1)) Qd (false,0):=by kernel_rfl
noncomputable def uc (d:Nat) (n4:Int):Option Int :=
 some (-1)
noncomputable def ia (d:Nat) (x1:t3) (n2:Int) (lQ:Int->Option Int) (bP:t10->Option Int) (s:t10):Option Int :=
(fun n4 n5 =>
 aa (decide (n5 < (x1.2.1.length:Int))) (
 aa (decide (0<=n5)) (
 Q1 (x1.2.1[n5.toNat]?) fun x6 =>
 aa (x6.1==n2) (
 some n5) (
 bP (n4,(i64.wrap (n5+1))))) none) (
 lQ n4)) s.1 s.2
theorem e74 (d:Nat) (x1:t3) (n2:Int):DW (d+3) x1 n2 =
 Q9 (ia d x1 n2 (uc d)) Qd (0,0):=by kernel_rfl
noncomputable def Gt (d:Nat) (l3:List Int):Option (List Int) :=
 some l3
noncomputable def p_ (d:Nat) (bW:t15->Option (List Int)) (l3:List Int) (n4:Int) (b6 b7:Bool):Option (List Int) :=
 aa b7 (
 aa (Nat.ble ((l3.length+[n4].length)*8) Q7) (
 bW ((l3++[n4]),(i64.wrap (n4+1)))) none) (
 bW (l3,(i64.wrap (n4+1))))
noncomputable def qa (d:Nat) (x1:t3) (ud:(List Int)->Option (List Int)) (bW:t15->Option (List Int)) (s:t15):Option (List Int) :=
(fun (l3:List Int) n4 =>
 aa (decide (n4 < (x1.2.1.length:Int))) (
 aa (decide (0<=n4)) (
 Q1 (x1.2.1[n4.toNat]?) fun x5 =>
 aa (x5.2.1 != 0) (
 Q1 (DW d x1 x5.2.1) fun r6 =>
 p_ d bW l3 n4 true (decide (r6 < 0))) (
 p_ d bW l3 n4 false false)) none) (
 ud l3)) s.1 s.2
theorem T6 (d:Nat) (x1:t3):Gu (d+1) x1 =
 Q9 (qa d x1 (Gt d)) Qd (([]:List Int),0):=by kernel_rfl
noncomputable def qb (d:Nat) (x1:t3) (n3:Int):Option Bool :=
 aa (n3==1) (
 Q1 (Gu d x1) fun r4 =>
 some ((r4.length:Int)==0)) (
 some false)
noncomputable def qc (d:Nat) (x1:t3) (ue:Int->Option Bool) (bW:t10->Option Bool) (s:t10):Option Bool :=
(fun n3 n4 =>
 aa (decide (n4 < (x1.2.1.length:Int))) (
 aa (decide (0<=n4)) (
 Q1 (x1.2.1[n4.toNat]?) fun x5 =>
 aa (x5.2.1==0) (
 bW ((i64.wrap (n3+1)),(i64.wrap (n4+1)))) (
 bW (n3,(i64.wrap (n4+1))))) none) (
 ue n3)) s.1 s.2
theorem T7 (d:Nat) (x1:t3):Gv (d+1) x1 =
 Q9 (qc d x1 (qb d x1)) Qd (0,0):=by kernel_rfl
noncomputable def Gw (d:Nat) (n4:Int):Option Int :=
 some (-1)
noncomputable def qd (d:Nat) (l1:List Int) (n2:Int) (ug:Int->Option Int) (bP:t10->Option Int) (s:t10):Option Int :=
(fun n4 n5 =>
 aa (decide (n5 < (l1.length:Int))) (
 aa (decide (0<=n5)) (
 Q1 (l1[n5.toNat]?) fun n6 =>
 aa (n2==n6) (
 some n5) (
 bP (n4,(i64.wrap (n5+1))))) none) (
 ug n4)) s.1 s.2
theorem T8 (d:Nat) (l1:List Int) (n2:Int):yX (d+1) l1 n2 =
 Q9 (qd d l1 n2 (Gw d)) Qd (0,0):=by kernel_rfl
theorem T9 (d:Nat) (l1:List Int) (n2:Int):Gx (d+1) l1 n2 =
 Q1 (yX d l1 n2) fun r3 =>
 some (decide (r3>=0)):=by kernel_rfl
noncomputable def yY (d:Nat) (b4:Bool) (l5 l6:List Int):Option ((List Int)×Bool) :=
 some (l6,true)
noncomputable def yZ (d:Nat) (x1:t3) (uh:Bool->(List Int)->(List Int)->Option ((List Int)×Bool)) (bP:(Int×(List Int)×Bool×(List Int))->Option ((List Int)×Bool)) (s:(Int×(List Int)×Bool×(List Int))):Option ((List Int)×Bool) :=
(fun n4 (l5:List Int) (b6:Bool) (l7:List Int) =>
 aa (decide (n4>=0)) (
 Q1 (Gx d l7 n4) fun r8 =>
 aa r8 (
 some (l7,false)) (
 aa (Nat.ble ((l7.length+[n4].length)*8) Q7) (
 aa (decide (0<=n4)) (
 Q1 (x1.2.1[n4.toNat]?) fun x9 =>
 Q1 (DW d x1 x9.2.1) fun pN =>
 bP (pN,l5,b6,(l7++[n4]))) none) none)) (
 uh b6 l5 l7)) s.1 s.2.1 s.2.2.1 s.2.2.2
theorem T_ (d:Nat) (x1:t3) (n2:Int):Gy (d+1) x1 n2 =
 Q9 (yZ d x1 (yY d)) Qd (n2,[],false,([]:List Int)):=by kernel_rfl
noncomputable def Gz (d:Nat) (b3:Bool):Option Bool :=
 some true
noncomputable def qe (d:Nat) (x1:t3) (uj:Bool->Option Bool) (bW:t9->Option Bool) (s:t9):Option Bool :=
(fun (b3:Bool) n4 =>
 aa (decide (n4 < (x1.2.1.length:Int))) (
 Q1 (Gy d x1 n4) fun r5 =>
 aa (!r5.2) (
 some false) (
 aa (decide ((r5.1.length:Int) > 8)) (
 some false) (
 aa (decide (0<=((i64.wrap ((r5.1.length:Int) - 1)):Int))) (
 aa (Nat.blt (((i64.wrap ((r5.1.length:Int) - 1)):Int).toNat) r5.1.length) (
 Q1 (r5.1[((i64.wrap ((r5.1.length:Int) - 1)):Int).toNat]?) fun n6 =>
 aa (decide (0<=n6)) (
 Q1 (x1.2.1[n6.toNat]?) fun x7 =>
 aa (x7.2.1 != 0) (
 some false) (
 bW (b3,(i64.wrap (n4+1))))) none) none) none))) (
 uj b3)) s.1 s.2
theorem T' (d:Nat) (x1:t3):GA (d+1) x1 =
 Q9 (qe d x1 (Gz d)) Qd (false,0):=by kernel_rfl
theorem Uc (d:Nat) (x1:t1):GB (d+1) x1 =
 aa (decide (x1.2.2.1>=1)) (
 aa (decide (x1.2.2.1<=100000)) (
 aa (decide (x1.2.2.2.1>=x1.2.2.1)) (
 some (decide (x1.2.2.2.1<=100000))) (
 some false)) (
 some false)) (
 some false):=by kernel_rfl
noncomputable def jv (d:Nat) (n3:Int):Option Bool :=
 some (!(decide (((-1):Int)>=0)))
noncomputable def dP (d:Nat) (x1:t3) (gG:Int->Option Bool) (bW:t10->Option Bool) (s:t10):Option Bool :=
(fun n3 n4 =>
 aa (decide (n4 < (x1.2.1.length:Int))) (
 aa (decide (0<=n4)) (
 Q1 (x1.2.1[n4.toNat]?) fun x5 =>
 aa (decide (x5.2.2.1 < 0)) (
 some (!(decide (n4>=0)))) (
 aa (decide (x5.2.2.1 > 1000000000)) (
 some (!(decide (n4>=0)))) (
 bW (n3,(i64.wrap (n4+1)))))) none) (
 gG n3)) s.1 s.2
theorem Ud (d:Nat) (x1:t3):GC (d+4) x1 =
 Q9 (dP d x1 (jv d)) Qd (0,0):=by kernel_rfl
noncomputable def GD (d:Nat) (l4:List Int):Option (List Int) :=
 some l4
noncomputable def qf (d:Nat) (x1:t3) (n2:Int) (uk:(List Int)->Option (List Int)) (bP:t15->Option (List Int)) (s:t15):Option (List Int) :=
(fun (l4:List Int) n5 =>
 aa (decide (n5 < (x1.2.1.length:Int))) (
 aa (decide (0<=n5)) (
 Q1 (x1.2.1[n5.toNat]?) fun x6 =>
 aa (decide (0<=n2)) (
 Q1 (x1.2.1[n2.toNat]?) fun x7 =>
 aa (x6.2.1==x7.1) (
 aa (Nat.ble ((l4.length+[n5].length)*8) Q7) (
 bP ((l4++[n5]),(i64.wrap (n5+1)))) none) (
 bP (l4,(i64.wrap (n5+1))))) none) none) (
 uk l4)) s.1 s.2
theorem Ue (d:Nat) (x1:t3) (n2:Int):y_ (d+1) x1 n2 =
 Q9 (qf d x1 n2 (GD d)) Qd (([]:List Int),0):=by kernel_rfl
noncomputable def GF (d:Nat) (n5:Int):Option Int :=
 some n5
noncomputable def qg (d:Nat) (x1:t3) (r3:List Int) (um:Int->Option Int) (jr:t10->Option Int) (s:t10):Option Int :=
(fun n5 n6 =>
 aa (decide (n6 < (r3.length:Int))) (
 aa (decide (0<=n6)) (
 aa (Nat.blt (n6.toNat) r3.length) (
 Q1 (r3[n6.toNat]?) fun n7 =>
 aa (decide (0<=n7)) (
 Q1 (x1.2.1[n7.toNat]?) fun x8 =>
 jr ((i64.wrap (n5+x8.2.2.1)),(i64.wrap (n6+1)))) none) none) none) (
 um n5)) s.1 s.2
theorem Uf (d:Nat) (x1:t3) (n2:Int):GG (d+1) x1 n2 =
 Q1 (y_ d x1 n2) fun r3 =>
 Q9 (qg d x1 r3 (GF d)) Qd (0,0):=by kernel_rfl
noncomputable def GH (d:Nat) (l3:List Int):Option (List Int) :=
 some l3
noncomputable def qh (d:Nat) (x1:t3) (uo:(List Int)->Option (List Int)) (bW:t15->Option (List Int)) (s:t15):Option (List Int) :=
(fun (l3:List Int) n4 =>
 aa (decide (n4 < (x1.2.1.length:Int))) (
 aa (decide (0<=n4)) (
 Q1 (x1.2.1[n4.toNat]?) fun x5 =>
 Q1 (GG d x1 n4) fun r6 =>
 aa (decide (r6 > x5.2.2.1)) (
 aa (Nat.ble ((l3.length+[n4].length)*8) Q7) (
 bW ((l3++[n4]),(i64.wrap (n4+1)))) none) (
 bW (l3,(i64.wrap (n4+1))))) none) (
 uo l3)) s.1 s.2
theorem Ug (d:Nat) (x1:t3):GI (d+1) x1 =
 Q9 (qh d x1 (GH d)) Qd (([]:List Int),0):=by kernel_rfl
theorem Uh (d:Nat) (x1:t1):GJ (d+1) x1 =
 aa (decide (x1.2.2.2.2.1>=1500)) (
 aa (decide (x1.2.2.2.2.1<=1000000)) (
 aa (decide (x1.2.2.2.2.2.1>=1500)) (
 aa (decide (x1.2.2.2.2.2.1<=1000000)) (
 aa (decide (x1.2.2.2.2.2.2.1>=0)) (
 some (decide (x1.2.2.2.2.2.2.1<=7))) (
 some false)) (
 some false)) (
 some false)) (
 some false)) (
 some false):=by kernel_rfl
noncomputable def j_ (d:Nat) (n4:Int):Option Bool :=
 some (!(decide (((-1):Int)>=0)))
noncomputable def eu (d:Nat) (x1:t3) (n2:Int) (ic:Int->Option Bool) (bP:t10->Option Bool) (s:t10):Option Bool :=
(fun n4 n5 =>
 aa (decide (n5 < (x1.2.1.length:Int))) (
 aa (decide (0<=n5)) (
 Q1 (x1.2.1[n5.toNat]?) fun x6 =>
 aa (decide (0<=n2)) (
 Q1 (x1.2.1[n2.toNat]?) fun x7 =>
 aa (x6.2.1==x7.1) (
 some (!(decide (n5>=0)))) (
 bP (n4,(i64.wrap (n5+1))))) none) none) (
 ic n4)) s.1 s.2
theorem e75 (d:Nat) (x1:t3) (n2:Int):Es (d+4) x1 n2 =
 Q9 (eu d x1 n2 (j_ d)) Qd (0,0):=by kernel_rfl
theorem Ui (d:Nat) (x1:t3) (n2:Int):GK (d+1) x1 n2 =
 aa (decide (0<=n2)) (
 Q1 (x1.2.1[n2.toNat]?) fun x3 =>
 Q1 (Es d x1 n2) fun r4 =>
 aa r4 (
 aa (decide (x3.2.2.2.2.2.2.2>=1)) (
 some (decide (x3.2.2.2.2.2.2.2<=60))) (
 some false)) (
 some (x3.2.2.2.2.2.2.2==0))) none:=by kernel_rfl
theorem Uj (d:Nat) (x1:t3) (n2:Int):za (d+1) x1 n2 =
 Q1 (DW d x1 n2) fun r3 =>
 aa (decide (r3>=0)) (
 Q1 (Es d x1 r3) fun r4 =>
 some r4) (
 some false):=by kernel_rfl
theorem Uk (d:Nat) (x1:t5):GL (d+1) x1 =
 aa (decide (x1.1>=1)) (
 aa (decide (x1.1<=99)) (
 aa (decide (x1.2.1>=0)) (
 aa (decide (x1.2.1<=3)) (
 aa (decide (x1.2.2.1>=0)) (
 aa (decide (x1.2.2.1<=65535)) (
 aa (decide (x1.2.2.2.1>=0)) (
 aa (decide (x1.2.2.2.1<=65535)) (
 some (((i64.wrap ((BitVec.ofInt i64.bits x1.2.2.2.1 &&& ~~~BitVec.ofInt i64.bits x1.2.2.1).toNat:Int)):Int)==0)) (
 some false)) (
 some false)) (
 some false)) (
 some false)) (
 some false)) (
 some false)) (
 some false)) (
 some false):=by kernel_rfl
noncomputable def zb (d:Nat) (x1:t3) (b3:Bool):Option Bool :=
 some (decide ((x1.2.2.1.length:Int)<=16))
noncomputable def jx (d:Nat) (bW:t9->Option Bool) (b3:Bool) (n4:Int) (b6 b7 b8 b9 F8 Ei:Bool):Option Bool :=
 aa Ei (
 some false) (
 bW (b3,(i64.wrap (n4+1))))
noncomputable def qi (d:Nat) (x1:t3) (uq:Bool->Option Bool) (bW:t9->Option Bool) (s:t9):Option Bool :=
(fun (b3:Bool) n4 =>
 aa (decide (n4 < (x1.2.2.1.length:Int))) (
 aa (decide (0<=n4)) (
 Q1 (x1.2.2.1[n4.toNat]?) fun x5 =>
 Q1 (GL d x5) fun r6 =>
 aa (!r6) (
 jx d bW b3 n4 r6 (!r6) true true true true) (
 aa (decide (n4 > 0)) (
 aa (decide (0<=((i64.wrap (n4 - 1)):Int))) (
 Q1 (x1.2.2.1[((i64.wrap (n4 - 1)):Int).toNat]?) fun x7 =>
 aa (decide (x5.1<=x7.1)) (
 jx d bW b3 n4 r6 (!r6) false (decide (x5.1<=x7.1)) true true) (
 Q1 (za d x1 x5.2.2.2.2) fun r8 =>
 jx d bW b3 n4 r6 (!r6) false (decide (x5.1<=x7.1)) false (!r8))) none) (
 Q1 (za d x1 x5.2.2.2.2) fun r9 =>
 jx d bW b3 n4 r6 (!r6) false false false (!r9)))) none) (
 uq b3)) s.1 s.2
theorem Ul (d:Nat) (x1:t3):GM (d+1) x1 =
 Q9 (qi d x1 (zb d x1)) Qd (false,0):=by kernel_rfl
noncomputable def jy (d:Nat) (n8:Int):Option Bool :=
 some (!(decide (((-1):Int)>=0)))
noncomputable def dQ (d:Nat) (x1:t3) (cL:Int->Option Bool) (Um:t10->Option Bool) (s:t10):Option Bool :=
(fun n8 n9 =>
 aa (decide (n9 < (x1.2.1.length:Int))) (
 aa (decide (0<=n9)) (
 Q1 (x1.2.1[n9.toNat]?) fun aR =>
 Q1 (GB d aR) fun fe =>
 aa (!fe) (
 some (!(decide (n9>=0)))) (
 Um (n8,(i64.wrap (n9+1))))) none) (
 cL n8)) s.1 s.2
noncomputable def jz (d:Nat) (gT:Int):Option Bool :=
 some (!(decide (((-1):Int)>=0)))
noncomputable def dy (d:Nat) (x1:t3) (cL:Int->Option Bool) (iM:t10->Option Bool) (s:t10):Option Bool :=
(fun gT dO =>
 aa (decide (dO < (x1.2.1.length:Int))) (
 aa (decide (0<=dO)) (
 Q1 (x1.2.1[dO.toNat]?) fun x17 =>
 Q1 (GJ d x17) fun Ch =>
 aa (!Ch) (
 some (!(decide (dO>=0)))) (
 iM (gT,(i64.wrap (dO+1))))) none) (
 cL gT)) s.1 s.2
noncomputable def GN (d:Nat) (Lw:Bool):Option Bool :=
 some true
noncomputable def qj (d:Nat) (x1:t3) (ur:Bool->Option Bool) (Un:t9->Option Bool) (s:t9):Option Bool :=
(fun (Lw:Bool) kM =>
 aa (decide (kM < (x1.2.1.length:Int))) (
 Q1 (GK (d+3) x1 kM) fun sG =>
 aa (!sG) (
 some false) (
 Un (Lw,(i64.wrap (kM+1))))) (
 ur Lw)) s.1 s.2
theorem Bg (d:Nat) (x1:t3) (n2:Int):ig (d+4) x1 n2 =
 aa (n2==1) (
 Q1 (Gq (d+3) x1.1) fun r3 =>
 some r3) (
 aa (n2==2) (
 Q1 (Gs (d+3) x1) fun r4 =>
 some r4) (
 aa (n2==3) (
 Q1 (Gv (d+3) x1) fun r5 =>
 some r5) (
 aa (n2==4) (
 Q1 (GA (d+3) x1) fun r6 =>
 some r6) (
 aa (n2==5) (
 Q9 (dQ d x1 (jy d)) Qd (0,0)) (
 aa (n2==6) (
 Q1 (GC (d+3) x1) fun jq =>
 aa jq (
 Q1 (GI (d+3) x1) fun oP =>
 some ((oP.length:Int)==0)) (
 some false)) (
 aa (n2==7) (
 Q9 (dy d x1 (jz d)) Qd (0,0)) (
 aa (n2==8) (
 Q9 (qj d x1 (GN d)) Qd (false,0)) (
 aa (n2==9) (
 Q1 (GM (d+3) x1) fun v7 =>
 some v7) (
 aa (x1.2.2.2==0) (
 some true) (
 Q1 (za (d+3) x1 x1.2.2.2) fun pn =>
 some pn)))))))))):=by kernel_rfl
noncomputable def gH (d:Nat) (b4:Bool):Option Bool :=
 some true
noncomputable def fC (d:Nat) (x1:t3) (zc:Bool->Option Bool) (bP:t9->Option Bool) (s:t9):Option Bool :=
(fun (b4:Bool) n5 =>
 aa (decide (n5<=10)) (
 Q1 (ig d x1 n5) fun r6 =>
 aa (!r6) (
 some false) (
 bP (b4,(i64.wrap (n5+1))))) (
 zc b4)) s.1 s.2
noncomputable def zd (d:Nat) (x1:t3) (b2:Bool):Option Bool :=
 aa b2 (
 some false) (
 Q9 (fC d x1 (gH d)) Qd (false,1))
theorem e73 (d:Nat) (x1:t3):Jn (d+1) x1 =
 aa (decide ((x1.2.1.length:Int) > 24)) (
 zd d x1 true) (
 zd d x1 (decide ((x1.2.2.1.length:Int) > 16))):=by kernel_rfl
theorem Uo (d:Nat) (l1:List t1):Ck (d+1) l1 =
 Jo l1.length (
 some []) (
 aa (Nat.ble ((([]:List t1).length+l1.length)*64) Q7) (
 some (([]:List t1)++l1)) none):=by kernel_rfl
theorem Up (d:Nat) (l1:List t5):ze (d+1) l1 =
 Jo l1.length (
 some []) (
 aa (Nat.ble ((([]:List t5).length+l1.length)*40) Q7) (
 some (([]:List t5)++l1)) none):=by kernel_rfl
theorem e76 (d:Nat) (x1:t3):SM (d+1) x1 =
 Q1 (Ck d x1.2.1) fun r2 =>
 Q1 (ze d x1.2.2.1) fun r3 =>
 some (x1.1,r2,r3,x1.2.2.2):=by kernel_rfl
theorem e77 (d:Nat) (x1:t3):La (d+1) x1 =
 Q1 (Jn d x1) fun r2 =>
 aa (!r2) (
 some (((⟨#[]⟩:ByteArray),([]:List t1),([]:List t5),0),false)) (
 some (x1,true)):=by kernel_rfl
theorem e88 (d:Nat) (l1:List t1) (n2 n3:Int):SV (d+1) l1 n2 n3 =
 aa (decide (0<=n2)&&(decide (n2 < n3)&&(decide (n3<=(l1.length:Int))&&Nat.ble l1.length 9223372036854775807))) (some (l1.take n2.toNat++l1.drop n3.toNat)) none:=by kernel_rfl
noncomputable def xh (d:Nat) (x6:t1) (r7:t3) (r8:List t1) (r9:Int) (F8:Bool):Option (t3×Bool) :=
 aa F8 (
 aa (decide (0<=r9)) (
 aa (Nat.blt (r9.toNat) r8.length) (
 Q1 (r8[r9.toNat]?) fun bH =>
 Q1 (La d (r7.1,(r8.set (r9.toNat) (bH.1,bH.2.1,bH.2.2.1,bH.2.2.2.1,bH.2.2.2.2.1,bH.2.2.2.2.2.1,bH.2.2.2.2.2.2.1,x6.2.2.2.2.2.2.2)),r7.2.2)) fun jq =>
 some (jq.1,jq.2)) none) none) (
 Q1 (La d (r7.1,r8,r7.2.2)) fun oP =>
 some (oP.1,oP.2))
noncomputable def xg (d:Nat) (x1:t3) (r4:Int) (b5:Bool):Option (t3×Bool) :=
 aa b5 (
 some (((⟨#[]⟩:ByteArray),([]:List t1),([]:List t5),0),false)) (
 aa (decide (0<=r4)) (
 Q1 (x1.2.1[r4.toNat]?) fun x6 =>
 Q1 (SM d x1) fun r7 =>
 Q1 (SV d r7.2.1 r4 (i64.wrap (r4+1))) fun r8 =>
 Q1 (DW d (r7.1,r8,r7.2.2) x6.2.1) fun r9 =>
 aa (decide (r9>=0)) (
 Q1 (Es d (r7.1,r8,r7.2.2) r9) fun pN =>
 xh d x6 r7 r8 r9 pN) (
 xh d x6 r7 r8 r9 false)) none)
theorem e45 (d:Nat) (x1:t3) (n2:Int):SW (d+1) x1 n2 =
 Q1 (Jn d x1) fun r3 =>
 aa (!r3) (
 some (((⟨#[]⟩:ByteArray),([]:List t1),([]:List t5),0),false)) (
 Q1 (DW d x1 n2) fun r4 =>
 aa (decide (r4 < 0)) (
 xg d x1 r4 true) (
 Q1 (Es d x1 r4) fun r5 =>
 xg d x1 r4 (!r5))):=by kernel_rfl
theorem Uq (d:Nat) (n1 n2:Int):uu (d+1) n1 n2 =
 aa (decide (n1 < n2)) (
 some (-1)) (
 aa (decide (n1 > n2)) (
 some 1) (
 some 0)):=by kernel_rfl
noncomputable def qk (d:Nat) (l6:List t1):Option (List t1) :=
 some l6
noncomputable def ql (d:Nat) (hU:t13->Option (List t1)) (n6 n9 dZ:Int) (Ei Jj:Bool) (gk:List t1):Option (List t1) :=
 hU ((i64.wrap (n6+1)),gk)
noncomputable def lR (d:Nat) (fI:Int->Int->Bool->Bool->(List t1)->Option (List t1)) (n2:Int) (yT:t13->Option (List t1)) (n9:Int) (l10:List t1) (Ei Jj:Bool):Option (List t1) :=
 aa Jj (
 aa (decide (0<=((i64.wrap (n9 - 1)):Int))) (
 aa (Nat.blt (((i64.wrap (n9 - 1)):Int).toNat) l10.length) (
 Q1 (l10[((i64.wrap (n9 - 1)):Int).toNat]?) fun fm =>
 aa (decide (0<=n9)) (
 aa (Nat.blt (n9.toNat) l10.length) (
 Q1 (l10[n9.toNat]?) fun m_ =>
 aa (decide (0<=n9)) (
 aa (Nat.blt (n9.toNat) l10.length) (
 Q1 (l10[n9.toNat]?) fun Ur =>
 aa (decide (0<=((i64.wrap (n9 - 1)):Int))) (
 aa (Nat.blt (((i64.wrap (n9 - 1)):Int).toNat) ((l10.set (n9.toNat) fm).length)) (
 Q1 ((l10.set (n9.toNat) fm)[((i64.wrap (n9 - 1)):Int).toNat]?) fun oM =>
 yT ((i64.wrap (n9 - 1)),((l10.set (n9.toNat) fm).set (((i64.wrap (n9 - 1)):Int).toNat) m_))) none) none) none) none) none) none) none) none) (
 fI n9 n9 (decide (n9 > n2)) Ei l10)
noncomputable def zf (d:Nat) (n2:Int) (fI:Int->Int->Bool->Bool->(List t1)->Option (List t1)) (yT:t13->Option (List t1)) (s:t13):Option (List t1) :=
(fun n9 (l10:List t1) =>
 aa (decide (n9 > n2)) (
 aa (decide (0<=n9)) (
 aa (Nat.blt (n9.toNat) l10.length) (
 Q1 (l10[n9.toNat]?) fun bH =>
 aa (decide (0<=((i64.wrap (n9 - 1)):Int))) (
 aa (Nat.blt (((i64.wrap (n9 - 1)):Int).toNat) l10.length) (
 Q1 (l10[((i64.wrap (n9 - 1)):Int).toNat]?) fun dI =>
 Q1 (uu d bH.1 dI.1) fun oP =>
 lR d fI n2 yT n9 l10 true (decide (oP < 0))) none) none) none) none) (
 lR d fI n2 yT n9 l10 false false)) s.1 s.2
noncomputable def qm (d:Nat) (n2 n3:Int) (uv:(List t1)->Option (List t1)) (hU:t13->Option (List t1)) (s:t13):Option (List t1) :=
(fun n6 (l7:List t1) =>
 aa (decide (n6 < n3)) (
 Q9 (zf d n2 (ql d hU n6)) Qd (n6,l7)) (
 uv l7)) s.1 s.2
theorem Us (d:Nat) (l1:List t1) (n2 n3:Int) (b4:Bool):Cl (d+2) l1 n2 n3 b4 =
 Q9 (qm d n2 n3 (qk d)) Qd ((i64.wrap (n2+1)),l1):=by kernel_rfl
noncomputable def zg (d:Nat) (l7:List t1):Option (List t1) :=
 some l7
noncomputable def zh (d:Nat) (n2 n3 n4:Int) (uw:(List t1)->Option (List t1)) (fU:t13->Option (List t1)) (s:t13):Option (List t1) :=
(fun n7 (l8:List t1) =>
 aa (decide (n7 < n4)) (
 aa (decide (0<=((i64.wrap (n3+n7)):Int))) (
 aa (Nat.blt (((i64.wrap (n3+n7)):Int).toNat) l8.length) (
 Q1 (l8[((i64.wrap (n3+n7)):Int).toNat]?) fun x9 =>
 aa (decide (0<=((i64.wrap (n2+n7)):Int))) (
 aa (Nat.blt (((i64.wrap (n2+n7)):Int).toNat) l8.length) (
 Q1 (l8[((i64.wrap (n2+n7)):Int).toNat]?) fun aR =>
 aa (decide (0<=((i64.wrap (n2+n7)):Int))) (
 aa (Nat.blt (((i64.wrap (n2+n7)):Int).toNat) l8.length) (
 Q1 (l8[((i64.wrap (n2+n7)):Int).toNat]?) fun bH =>
 aa (decide (0<=((i64.wrap (n3+n7)):Int))) (
 aa (Nat.blt (((i64.wrap (n3+n7)):Int).toNat) ((l8.set (((i64.wrap (n2+n7)):Int).toNat) x9).length)) (
 Q1 ((l8.set (((i64.wrap (n2+n7)):Int).toNat) x9)[((i64.wrap (n3+n7)):Int).toNat]?) fun dI =>
 fU ((i64.wrap (n7+1)),((l8.set (((i64.wrap (n2+n7)):Int).toNat) x9).set (((i64.wrap (n3+n7)):Int).toNat) aR))) none) none) none) none) none) none) none) none) (
 uw l8)) s.1 s.2
theorem Ut (d:Nat) (l1:List t1) (n2 n3 n4:Int) (b5:Bool):zi (d+1) l1 n2 n3 n4 b5 =
 Q9 (zh d n2 n3 n4 (zg d)) Qd (0,l1):=by kernel_rfl
noncomputable def zj (d:Nat) (n3 n7:Int) (l8:List t1):Option (List t1) :=
 Q1 (zi d l8 (i64.wrap (n3 - n7)) n3 n7 false) fun r9 =>
 some r9
noncomputable def zl (d:Nat) (n3:Int) (ux:Int->(List t1)->Option (List t1)) (fU:(Int×Int×(List t1))->Option (List t1)) (s:(Int×Int×(List t1))):Option (List t1) :=
(fun n7 n8 (l9:List t1) =>
 aa (n7 != n8) (
 aa (decide (n7 > n8)) (
 Q1 (zi d l9 (i64.wrap (n3 - n7)) n3 n8 false) fun pN =>
 fU ((i64.wrap (n7 - n8)),n8,pN)) (
 Q1 (zi d l9 (i64.wrap (n3 - n7)) (i64.wrap ((i64.wrap (n3+n8)) - n7)) n7 false) fun fe =>
 fU (n7,(i64.wrap (n8 - n7)),fe))) (
 ux n7 l9)) s.1 s.2.1 s.2.2
theorem Uu (d:Nat) (l1:List t1) (n2 n3 n4:Int) (b5:Bool):GO (d+1) l1 n2 n3 n4 b5 =
 Q9 (zl d n3 (zj d n3)) Qd ((i64.wrap (n3 - n2)),(i64.wrap (n4 - n3)),l1):=by kernel_rfl
noncomputable def qn (d:Nat) (l9:List t1):Option (List t1) :=
 some l9
noncomputable def qo (d:Nat) (n7:Int) (uy:(List t1)->Option (List t1)) (yT:t13->Option (List t1)) (s:t13):Option (List t1) :=
(fun n9 (l10:List t1) =>
 aa (decide (n9 < (i64.wrap (n7 - 1)))) (
 aa (decide (0<=((i64.wrap (n9+1)):Int))) (
 aa (Nat.blt (((i64.wrap (n9+1)):Int).toNat) l10.length) (
 Q1 (l10[((i64.wrap (n9+1)):Int).toNat]?) fun bH =>
 aa (decide (0<=n9)) (
 aa (Nat.blt (n9.toNat) l10.length) (
 Q1 (l10[n9.toNat]?) fun dI =>
 aa (decide (0<=n9)) (
 aa (Nat.blt (n9.toNat) l10.length) (
 Q1 (l10[n9.toNat]?) fun fm =>
 aa (decide (0<=((i64.wrap (n9+1)):Int))) (
 aa (Nat.blt (((i64.wrap (n9+1)):Int).toNat) ((l10.set (n9.toNat) bH).length)) (
 Q1 ((l10.set (n9.toNat) bH)[((i64.wrap (n9+1)):Int).toNat]?) fun m_ =>
 yT ((i64.wrap (n9+1)),((l10.set (n9.toNat) bH).set (((i64.wrap (n9+1)):Int).toNat) dI))) none) none) none) none) none) none) none) none) (
 uy l10)) s.1 s.2
noncomputable def lS (d:Nat) (l1:List t1) (n2 n7:Int):Option (List t1) :=
 Q9 (qo d n7 (qn d)) Qd (n2,l1)
noncomputable def qp (d:Nat) (l1:List t1) (n2:Int) (uz:Int->Option (List t1)) (fU:t10->Option (List t1)) (s:t10):Option (List t1) :=
(fun n7 n8 =>
 aa (decide (n7 < n8)) (
 aa (decide (0<=((i64.wrap ((u64.wrap (i64.wrap (n7+n8))).fdiv (2 ^ (min (1:Int).toNat u64.bits)))):Int))) (
 aa (Nat.blt (((i64.wrap ((u64.wrap (i64.wrap (n7+n8))).fdiv (2 ^ (min (1:Int).toNat u64.bits)))):Int).toNat) l1.length) (
 Q1 (l1[((i64.wrap ((u64.wrap (i64.wrap (n7+n8))).fdiv (2 ^ (min (1:Int).toNat u64.bits)))):Int).toNat]?) fun x9 =>
 aa (decide (0<=n2)) (
 aa (Nat.blt (n2.toNat) l1.length) (
 Q1 (l1[n2.toNat]?) fun aR =>
 Q1 (uu d x9.1 aR.1) fun fe =>
 aa (decide (fe < 0)) (
 fU ((i64.wrap ((i64.wrap ((u64.wrap (i64.wrap (n7+n8))).fdiv (2 ^ (min (1:Int).toNat u64.bits))))+1)),n8)) (
 fU (n7,(i64.wrap ((u64.wrap (i64.wrap (n7+n8))).fdiv (2 ^ (min (1:Int).toNat u64.bits))))))) none) none) none) none) (
 uz n7)) s.1 s.2
noncomputable def qq (d:Nat) (oN:List t1):Option (List t1) :=
 some oN
noncomputable def qt (d:Nat) (dO:Int) (uA:(List t1)->Option (List t1)) (GP:t13->Option (List t1)) (s:t13):Option (List t1) :=
(fun eO (h_:List t1) =>
 aa (decide (eO > dO)) (
 aa (decide (0<=((i64.wrap (eO - 1)):Int))) (
 aa (Nat.blt (((i64.wrap (eO - 1)):Int).toNat) h_.length) (
 Q1 (h_[((i64.wrap (eO - 1)):Int).toNat]?) fun Cm =>
 aa (decide (0<=eO)) (
 aa (Nat.blt (eO.toNat) h_.length) (
 Q1 (h_[eO.toNat]?) fun x21 =>
 aa (decide (0<=eO)) (
 aa (Nat.blt (eO.toNat) h_.length) (
 Q1 (h_[eO.toNat]?) fun Uv =>
 aa (decide (0<=((i64.wrap (eO - 1)):Int))) (
 aa (Nat.blt (((i64.wrap (eO - 1)):Int).toNat) ((h_.set (eO.toNat) Cm).length)) (
 Q1 ((h_.set (eO.toNat) Cm)[((i64.wrap (eO - 1)):Int).toNat]?) fun x23 =>
 GP ((i64.wrap (eO - 1)),((h_.set (eO.toNat) Cm).set (((i64.wrap (eO - 1)):Int).toNat) x21))) none) none) none) none) none) none) none) none) (
 uA h_)) s.1 s.2
noncomputable def lT (d:Nat) (l1:List t1) (n3 dO:Int):Option (List t1) :=
 Q9 (qt d dO (qq d)) Qd (n3,l1)
noncomputable def qu (d:Nat) (l1:List t1) (n3:Int) (uB:Int->Option (List t1)) (nN:t10->Option (List t1)) (s:t10):Option (List t1) :=
(fun dO eI =>
 aa (decide (dO < eI)) (
 aa (decide (0<=n3)) (
 aa (Nat.blt (n3.toNat) l1.length) (
 Q1 (l1[n3.toNat]?) fun gh =>
 aa (decide (0<=((i64.wrap ((u64.wrap (i64.wrap (dO+eI))).fdiv (2 ^ (min (1:Int).toNat u64.bits)))):Int))) (
 aa (Nat.blt (((i64.wrap ((u64.wrap (i64.wrap (dO+eI))).fdiv (2 ^ (min (1:Int).toNat u64.bits)))):Int).toNat) l1.length) (
 Q1 (l1[((i64.wrap ((u64.wrap (i64.wrap (dO+eI))).fdiv (2 ^ (min (1:Int).toNat u64.bits)))):Int).toNat]?) fun nL =>
 Q1 (uu d gh.1 nL.1) fun Gg =>
 aa (!(decide (Gg < 0))) (
 nN ((i64.wrap ((i64.wrap ((u64.wrap (i64.wrap (dO+eI))).fdiv (2 ^ (min (1:Int).toNat u64.bits))))+1)),eI)) (
 nN (dO,(i64.wrap ((u64.wrap (i64.wrap (dO+eI))).fdiv (2 ^ (min (1:Int).toNat u64.bits))))))) none) none) none) none) (
 uB dO)) s.1 s.2
noncomputable def lU (d:Nat) (n2 n3 n4 eS:Int) (kO:List t1) (b32:Bool):Option (List t1) :=
 aa b32 (
 Q1 (uC (d+1) kO (i64.wrap ((u64.wrap (i64.wrap (n2+n4))).fdiv (2 ^ (min (1:Int).toNat u64.bits)))) (i64.wrap ((i64.wrap ((i64.wrap ((u64.wrap (i64.wrap (n2+n4))).fdiv (2 ^ (min (1:Int).toNat u64.bits))))+n3)) - eS)) n4 false) fun Cj =>
 some Cj) (
 some kO)
noncomputable def lV (d:Nat) (n2 n3 n4 eS:Int) (kO:List t1):Option (List t1) :=
 aa (decide (((i64.wrap ((u64.wrap (i64.wrap (n2+n4))).fdiv (2 ^ (min (1:Int).toNat u64.bits)))):Int) < (i64.wrap ((i64.wrap ((i64.wrap ((u64.wrap (i64.wrap (n2+n4))).fdiv (2 ^ (min (1:Int).toNat u64.bits))))+n3)) - eS)))) (
 lU d n2 n3 n4 eS kO (decide (((i64.wrap ((i64.wrap ((i64.wrap ((u64.wrap (i64.wrap (n2+n4))).fdiv (2 ^ (min (1:Int).toNat u64.bits))))+n3)) - eS)):Int) < n4))) (
 lU d n2 n3 n4 eS kO false)
noncomputable def lW (d:Nat) (n2 n3 n4 eS:Int) (oO:List t1) (b30:Bool):Option (List t1) :=
 aa b30 (
 Q1 (uC (d+1) oO n2 eS (i64.wrap ((u64.wrap (i64.wrap (n2+n4))).fdiv (2 ^ (min (1:Int).toNat u64.bits)))) false) fun uD =>
 lV d n2 n3 n4 eS uD) (
 lV d n2 n3 n4 eS oO)
noncomputable def lX (d:Nat) (n2 n3 n4 eS:Int) (oO:List t1):Option (List t1) :=
 aa (decide (n2 < eS)) (
 lW d n2 n3 n4 eS oO (decide (eS < (i64.wrap ((u64.wrap (i64.wrap (n2+n4))).fdiv (2 ^ (min (1:Int).toNat u64.bits))))))) (
 lW d n2 n3 n4 eS oO false)
noncomputable def lY (d:Nat) (l1:List t1) (n2 n3 n4 eS:Int) (b28:Bool):Option (List t1) :=
 aa b28 (
 Q1 (GO (d+1) l1 eS n3 (i64.wrap ((i64.wrap ((i64.wrap ((u64.wrap (i64.wrap (n2+n4))).fdiv (2 ^ (min (1:Int).toNat u64.bits))))+n3)) - eS)) false) fun uE =>
 lX d n2 n3 n4 eS uE) (
 lX d n2 n3 n4 eS l1)
noncomputable def lZ (d:Nat) (l1:List t1) (n2 n3 n4 eS:Int):Option (List t1) :=
 aa (decide (eS < n3)) (
 lY d l1 n2 n3 n4 eS (decide (n3 < (i64.wrap ((i64.wrap ((i64.wrap ((u64.wrap (i64.wrap (n2+n4))).fdiv (2 ^ (min (1:Int).toNat u64.bits))))+n3)) - eS))))) (
 lY d l1 n2 n3 n4 eS false)
noncomputable def qw (d:Nat) (l1:List t1) (n2 n3 n4:Int) (uF:Int->Option (List t1)) (LJ:t10->Option (List t1)) (s:t10):Option (List t1) :=
(fun eS Bh =>
 aa (decide (eS < Bh)) (
 aa (decide (0<=((i64.wrap ((i64.wrap ((i64.wrap ((i64.wrap ((u64.wrap (i64.wrap (n2+n4))).fdiv (2 ^ (min (1:Int).toNat u64.bits))))+n3)) - 1)) - (i64.wrap ((u64.wrap (i64.wrap (eS+Bh))).fdiv (2 ^ (min (1:Int).toNat u64.bits)))))):Int))) (
 aa (Nat.blt (((i64.wrap ((i64.wrap ((i64.wrap ((i64.wrap ((u64.wrap (i64.wrap (n2+n4))).fdiv (2 ^ (min (1:Int).toNat u64.bits))))+n3)) - 1)) - (i64.wrap ((u64.wrap (i64.wrap (eS+Bh))).fdiv (2 ^ (min (1:Int).toNat u64.bits)))))):Int).toNat) l1.length) (
 Q1 (l1[((i64.wrap ((i64.wrap ((i64.wrap ((i64.wrap ((u64.wrap (i64.wrap (n2+n4))).fdiv (2 ^ (min (1:Int).toNat u64.bits))))+n3)) - 1)) - (i64.wrap ((u64.wrap (i64.wrap (eS+Bh))).fdiv (2 ^ (min (1:Int).toNat u64.bits)))))):Int).toNat]?) fun x29 =>
 aa (decide (0<=((i64.wrap ((u64.wrap (i64.wrap (eS+Bh))).fdiv (2 ^ (min (1:Int).toNat u64.bits)))):Int))) (
 aa (Nat.blt (((i64.wrap ((u64.wrap (i64.wrap (eS+Bh))).fdiv (2 ^ (min (1:Int).toNat u64.bits)))):Int).toNat) l1.length) (
 Q1 (l1[((i64.wrap ((u64.wrap (i64.wrap (eS+Bh))).fdiv (2 ^ (min (1:Int).toNat u64.bits)))):Int).toNat]?) fun x30 =>
 Q1 (uu d x29.1 x30.1) fun uD =>
 aa (!(decide (uD < 0))) (
 LJ ((i64.wrap ((i64.wrap ((u64.wrap (i64.wrap (eS+Bh))).fdiv (2 ^ (min (1:Int).toNat u64.bits))))+1)),Bh)) (
 LJ (eS,(i64.wrap ((u64.wrap (i64.wrap (eS+Bh))).fdiv (2 ^ (min (1:Int).toNat u64.bits))))))) none) none) none) none) (
 uF eS)) s.1 s.2
noncomputable def iW (d:Nat) (l1:List t1) (n2 n3 n4 fL Ep:Int):Option (List t1) :=
 Q9 (qw d l1 n2 n3 n4 (lZ d l1 n2 n3 n4)) Qd (fL,Ep)
theorem Uw (d:Nat) (l1:List t1) (n2 n3 n4:Int) (b5:Bool):uC (d+2) l1 n2 n3 n4 b5 =
 aa (((i64.wrap (n3 - n2)):Int)==1) (
 Q9 (qp d l1 n2 (lS d l1 n2)) Qd (n3,n4)) (
 aa (((i64.wrap (n4 - n3)):Int)==1) (
 Q9 (qu d l1 n3 (lT d l1 n3)) Qd (n2,n3)) (
 aa (decide (n3 > (i64.wrap ((u64.wrap (i64.wrap (n2+n4))).fdiv (2 ^ (min (1:Int).toNat u64.bits)))))) (
 iW d l1 n2 n3 n4 (i64.wrap ((i64.wrap ((i64.wrap ((u64.wrap (i64.wrap (n2+n4))).fdiv (2 ^ (min (1:Int).toNat u64.bits))))+n3)) - n4)) (i64.wrap ((u64.wrap (i64.wrap (n2+n4))).fdiv (2 ^ (min (1:Int).toNat u64.bits))))) (
 iW d l1 n2 n3 n4 n2 n3))):=by kernel_rfl
noncomputable def zm (d:Nat) (l10:List t1):Option (List t1) :=
 some l10
noncomputable def zn (d:Nat) (n2:Int) (Et:(Int×Int×Int×(List t1))->Option (List t1)) (dZ gT dO eI:Int) (oN:List t1):Option (List t1) :=
 aa (decide (((i64.wrap (gT+dZ)):Int) < n2)) (
 Q1 (uC d oN gT (i64.wrap (gT+dZ)) n2 false) fun vY =>
 Et ((i64.wrap (dZ*2)),gT,dO,vY)) (
 Et ((i64.wrap (dZ*2)),gT,dO,oN))
noncomputable def zo (d:Nat) (n2 dZ:Int) (uG:Int->Int->Int->(List t1)->Option (List t1)) (iM:(Int×Int×(List t1))->Option (List t1)) (s:(Int×Int×(List t1))):Option (List t1) :=
(fun gT dO (gE:List t1) =>
 aa (decide (dO<=n2)) (
 Q1 (uC d gE gT (i64.wrap (gT+dZ)) dO false) fun Ch =>
 iM (dO,(i64.wrap (dO+(i64.wrap ((2:Int)*dZ)))),Ch)) (
 uG gT dO dO gE)) s.1 s.2.1 s.2.2
noncomputable def zq (d:Nat) (n2:Int) (uH:(List t1)->Option (List t1)) (Et:(Int×Int×Int×(List t1))->Option (List t1)) (s:(Int×Int×Int×(List t1))):Option (List t1) :=
(fun dZ iL tY (gk:List t1) =>
 aa (decide (dZ < n2)) (
 Q9 (zo d n2 dZ (zn d n2 Et dZ)) Qd (0,(i64.wrap ((2:Int)*dZ)),gk)) (
 uH gk)) s.1 s.2.1 s.2.2.1 s.2.2.2
noncomputable def zu (d:Nat) (n2 n5 n6:Int) (l7:List t1):Option (List t1) :=
 Q1 (Cl d l7 n5 n2 false) fun r8 =>
 Q9 (zq d n2 (zm d)) Qd (20,n5,n6,r8)
noncomputable def zv (d:Nat) (n2:Int) (uI:Int->Int->(List t1)->Option (List t1)) (jr:(Int×Int×(List t1))->Option (List t1)) (s:(Int×Int×(List t1))):Option (List t1) :=
(fun n5 n6 (l7:List t1) =>
 aa (decide (n6<=n2)) (
 Q1 (Cl d l7 n5 n6 false) fun r8 =>
 jr (n6,(i64.wrap (n6+20)),r8)) (
 uI n5 n6 l7)) s.1 s.2.1 s.2.2
theorem Ux (d:Nat) (l1:List t1) (n2:Int) (b3:Bool):GQ (d+1) l1 n2 b3 =
 Q9 (zv d n2 (zu d n2)) Qd (0,20,l1):=by kernel_rfl
theorem Uy (d:Nat) (l1:List t1) (b2:Bool):Cn (d+1) l1 b2 =
 Q1 (GQ d l1 (l1.length:Int) false) fun r3 =>
 some r3:=by kernel_rfl
noncomputable def zw (d:Nat) (x1:t0) (r2:List t1) (r3:List t5) (b4:Bool):Option t3 :=
 aa b4 (
 aa (decide (0<=x1.2.2.2.2.2.2.2.2)) (
 Q1 (x1.2.1[x1.2.2.2.2.2.2.2.2.toNat]?) fun x5 =>
 Q1 (Cn d r2 false) fun r6 =>
 some (x1.1,r6,r3,x5.1)) none) (
 Q1 (Cn d r2 false) fun r7 =>
 some (x1.1,r7,r3,0))
theorem e71 (d:Nat) (x1:t0):LK (d+1) x1 =
 Q1 (Ck d x1.2.1) fun r2 =>
 Q1 (ze d x1.2.2.2.2.2.2.1) fun r3 =>
 aa (decide (x1.2.2.2.2.2.2.2.2>=0)) (
 zw d x1 r2 r3 (decide (x1.2.2.2.2.2.2.2.2 < (x1.2.1.length:Int)))) (
 zw d x1 r2 r3 false):=by kernel_rfl
theorem Uz (d:Nat) (n1 n2:Int):LL (d+1) n1 n2 =
 some ((u64.wrap ((u64.wrap ((u64.wrap ((n1.fdiv (2 ^ (min (32:Int).toNat u64.bits)))*(n2.fdiv (2 ^ (min (32:Int).toNat u64.bits)))))+((u64.wrap ((u64.wrap ((n1.fdiv (2 ^ (min (32:Int).toNat u64.bits)))*(u64.wrap ((BitVec.ofInt u64.bits n2 &&& BitVec.ofInt u64.bits 4294967295).toNat:Int))))+((u64.wrap ((u64.wrap ((BitVec.ofInt u64.bits n1 &&& BitVec.ofInt u64.bits 4294967295).toNat:Int))*(u64.wrap ((BitVec.ofInt u64.bits n2 &&& BitVec.ofInt u64.bits 4294967295).toNat:Int)))).fdiv (2 ^ (min (32:Int).toNat u64.bits))))).fdiv (2 ^ (min (32:Int).toNat u64.bits)))))+((u64.wrap ((u64.wrap ((BitVec.ofInt u64.bits (u64.wrap ((u64.wrap ((n1.fdiv (2 ^ (min (32:Int).toNat u64.bits)))*(u64.wrap ((BitVec.ofInt u64.bits n2 &&& BitVec.ofInt u64.bits 4294967295).toNat:Int))))+((u64.wrap ((u64.wrap ((BitVec.ofInt u64.bits n1 &&& BitVec.ofInt u64.bits 4294967295).toNat:Int))*(u64.wrap ((BitVec.ofInt u64.bits n2 &&& BitVec.ofInt u64.bits 4294967295).toNat:Int)))).fdiv (2 ^ (min (32:Int).toNat u64.bits))))) &&& BitVec.ofInt u64.bits 4294967295).toNat:Int))+(u64.wrap ((u64.wrap ((BitVec.ofInt u64.bits n1 &&& BitVec.ofInt u64.bits 4294967295).toNat:Int))*(n2.fdiv (2 ^ (min (32:Int).toNat u64.bits))))))).fdiv (2 ^ (min (32:Int).toNat u64.bits))))),(u64.wrap (n1*n2))):=by kernel_rfl
theorem UA (d:Nat) (n1 n2:Int):GR (d+1) n1 n2 =
 Q1 (LL d n1 n2) fun r3 =>
 some (r3.1,r3.2):=by kernel_rfl
noncomputable def zx (d:Nat) (l6:List Int):Option (List Int) :=
 some l6
noncomputable def zy (d:Nat) (uJ:(List Int)->Option (List Int)) (hU:t11->Option (List Int)) (s:t11):Option (List Int) :=
(fun n6 (l7:List Int) =>
 aa (decide (n6 < (l7.length:Int))) (
 aa (decide (0<=n6)) (
 aa (Nat.ble (n6.toNat) l7.length) (
 aa (decide (0<=n6)) (
 aa (Nat.ble (n6.toNat) l7.length) (
 hU ((i64.wrap (n6+((min (l7.take (n6.toNat)).length (l7.length - (0+n6.toNat)):Nat):Int))),(ng l7 (0+n6.toNat) (l7.length - (0+n6.toNat)) (l7.take (n6.toNat))))) none) none) none) none) (
 uJ l7)) s.1 s.2
noncomputable def qx (d:Nat) (l1:List Int) (r3:t10) (b4:Bool):Option (List Int) :=
 aa b4 (
 none) (
 aa (decide (0<=((i64.wrap r3.2):Int))) (
 aa (decide (0<=((i64.wrap r3.2):Int))) (
 aa (Nat.ble (((i64.wrap r3.2):Int).toNat) (((i64.wrap r3.2):Int).toNat)&&Nat.ble ((((i64.wrap r3.2):Int).toNat)*8) Q7) (
 Q9 (zy d (zx d)) Qd (((min l1.length ((List.replicate (((i64.wrap r3.2):Int).toNat) (0:Int)).length):Nat):Int),(ng (List.replicate (((i64.wrap r3.2):Int).toNat) (0:Int)) 0 ((List.replicate (((i64.wrap r3.2):Int).toNat) (0:Int)).length) l1))) none) none) none)
theorem UB (d:Nat) (l1:List Int) (n2:Int):zA (d+1) l1 n2 =
 aa (decide (n2 < 0)) (
 none) (
 Q1 (GR d (u64.wrap (l1.length:Int)) (u64.wrap n2)) fun r3 =>
 aa (decide (r3.1 > 0)) (
 qx d l1 r3 true) (
 qx d l1 r3 (decide (r3.2 > 9223372036854775807)))):=by kernel_rfl
theorem UC (d:Nat) (n1:Int):ke (d+1) n1 =
 Co n1:=by kernel_rfl
theorem UD (d:Nat) (s1:ByteArray) (n2:Int):LM (d+1) s1 n2 =
 Cp s1 n2:=by kernel_rfl
theorem UE (d:Nat) (x1:t6) (n2:Int) (s3:ByteArray):nQ (d+1) x1 n2 s3 =
 Q1 (LM d (⟨#[32,32]⟩:ByteArray) n2) fun r4 =>
 aa (Nat.ble (r4.size+s3.size) 9223372036854775807) (
 aa (Nat.ble ((x1.2.1.length+[(r4++s3)].length)*16) Q7) (
 some (x1.1,(x1.2.1++[(r4++s3)]),x1.2.2)) none) none:=by kernel_rfl
noncomputable def l_ (d:Nat) (n1:Int) (b4:Bool):Option ByteArray :=
 aa b4 (
 Q1 (ke d (i64.wrap (n1.tdiv 1000))) fun r5 =>
 aa (Nat.ble (r5.size+((⟨#[107]⟩:ByteArray):ByteArray).size) 9223372036854775807) (
 some (r5++((⟨#[107]⟩:ByteArray):ByteArray))) none) (
 Q1 (ke d n1) fun r6 =>
 some r6)
noncomputable def mc (d:Nat) (n1:Int) (b2:Bool):Option ByteArray :=
 aa b2 (
 Q1 (ke d (i64.wrap (n1.tdiv 1000000))) fun r3 =>
 aa (Nat.ble (r3.size+((⟨#[109]⟩:ByteArray):ByteArray).size) 9223372036854775807) (
 some (r3++((⟨#[109]⟩:ByteArray):ByteArray))) none) (
 aa (decide (n1 > 0)) (
 l_ d n1 (((n1.tmod 1000):Int)==0)) (
 l_ d n1 false))
theorem UF (d:Nat) (n1:Int):qy (d+1) n1 =
 aa (decide (n1 > 0)) (
 mc d n1 (((n1.tmod 1000000):Int)==0)) (
 mc d n1 false):=by kernel_rfl
theorem UG (d:Nat) (x1:t1):Cq (d+1) x1 =
 Q1 (ke d x1.1) fun r2 =>
 aa (Nat.ble (((⟨#[99,108,97,115,115,32]⟩:ByteArray):ByteArray).size+r2.size) 9223372036854775807) (
 aa (Nat.ble (((((⟨#[99,108,97,115,115,32]⟩:ByteArray):ByteArray)++r2):ByteArray).size+((⟨#[32,114,97,116,101,32]⟩:ByteArray):ByteArray).size) 9223372036854775807) (
 Q1 (qy d x1.2.2.1) fun r3 =>
 aa (Nat.ble (((((((⟨#[99,108,97,115,115,32]⟩:ByteArray):ByteArray)++r2):ByteArray)++((⟨#[32,114,97,116,101,32]⟩:ByteArray):ByteArray)):ByteArray).size+r3.size) 9223372036854775807) (
 aa (Nat.ble (((((((((⟨#[99,108,97,115,115,32]⟩:ByteArray):ByteArray)++r2):ByteArray)++((⟨#[32,114,97,116,101,32]⟩:ByteArray):ByteArray)):ByteArray)++r3):ByteArray).size+((⟨#[32,99,101,105,108,32]⟩:ByteArray):ByteArray).size) 9223372036854775807) (
 Q1 (qy d x1.2.2.2.1) fun r4 =>
 aa (Nat.ble (((((((((((⟨#[99,108,97,115,115,32]⟩:ByteArray):ByteArray)++r2):ByteArray)++((⟨#[32,114,97,116,101,32]⟩:ByteArray):ByteArray)):ByteArray)++r3):ByteArray)++((⟨#[32,99,101,105,108,32]⟩:ByteArray):ByteArray)):ByteArray).size+r4.size) 9223372036854775807) (
 aa (Nat.ble (((((((((((((⟨#[99,108,97,115,115,32]⟩:ByteArray):ByteArray)++r2):ByteArray)++((⟨#[32,114,97,116,101,32]⟩:ByteArray):ByteArray)):ByteArray)++r3):ByteArray)++((⟨#[32,99,101,105,108,32]⟩:ByteArray):ByteArray)):ByteArray)++r4):ByteArray).size+((⟨#[32,98,117,114,115,116,32]⟩:ByteArray):ByteArray).size) 9223372036854775807) (
 Q1 (qy d x1.2.2.2.2.1) fun r5 =>
 aa (Nat.ble (((((((((((((((⟨#[99,108,97,115,115,32]⟩:ByteArray):ByteArray)++r2):ByteArray)++((⟨#[32,114,97,116,101,32]⟩:ByteArray):ByteArray)):ByteArray)++r3):ByteArray)++((⟨#[32,99,101,105,108,32]⟩:ByteArray):ByteArray)):ByteArray)++r4):ByteArray)++((⟨#[32,98,117,114,115,116,32]⟩:ByteArray):ByteArray)):ByteArray).size+r5.size) 9223372036854775807) (
 aa (Nat.ble (((((((((((((((((⟨#[99,108,97,115,115,32]⟩:ByteArray):ByteArray)++r2):ByteArray)++((⟨#[32,114,97,116,101,32]⟩:ByteArray):ByteArray)):ByteArray)++r3):ByteArray)++((⟨#[32,99,101,105,108,32]⟩:ByteArray):ByteArray)):ByteArray)++r4):ByteArray)++((⟨#[32,98,117,114,115,116,32]⟩:ByteArray):ByteArray)):ByteArray)++r5):ByteArray).size+((⟨#[32,99,98,117,114,115,116,32]⟩:ByteArray):ByteArray).size) 9223372036854775807) (
 Q1 (qy d x1.2.2.2.2.2.1) fun r6 =>
 aa (Nat.ble (((((((((((((((((((⟨#[99,108,97,115,115,32]⟩:ByteArray):ByteArray)++r2):ByteArray)++((⟨#[32,114,97,116,101,32]⟩:ByteArray):ByteArray)):ByteArray)++r3):ByteArray)++((⟨#[32,99,101,105,108,32]⟩:ByteArray):ByteArray)):ByteArray)++r4):ByteArray)++((⟨#[32,98,117,114,115,116,32]⟩:ByteArray):ByteArray)):ByteArray)++r5):ByteArray)++((⟨#[32,99,98,117,114,115,116,32]⟩:ByteArray):ByteArray)):ByteArray).size+r6.size) 9223372036854775807) (
 aa (Nat.ble (((((((((((((((((((((⟨#[99,108,97,115,115,32]⟩:ByteArray):ByteArray)++r2):ByteArray)++((⟨#[32,114,97,116,101,32]⟩:ByteArray):ByteArray)):ByteArray)++r3):ByteArray)++((⟨#[32,99,101,105,108,32]⟩:ByteArray):ByteArray)):ByteArray)++r4):ByteArray)++((⟨#[32,98,117,114,115,116,32]⟩:ByteArray):ByteArray)):ByteArray)++r5):ByteArray)++((⟨#[32,99,98,117,114,115,116,32]⟩:ByteArray):ByteArray)):ByteArray)++r6):ByteArray).size+((⟨#[32,112,114,105,111,32]⟩:ByteArray):ByteArray).size) 9223372036854775807) (
 Q1 (ke d x1.2.2.2.2.2.2.1) fun r7 =>
 aa (Nat.ble (((((((((((((((((((((((⟨#[99,108,97,115,115,32]⟩:ByteArray):ByteArray)++r2):ByteArray)++((⟨#[32,114,97,116,101,32]⟩:ByteArray):ByteArray)):ByteArray)++r3):ByteArray)++((⟨#[32,99,101,105,108,32]⟩:ByteArray):ByteArray)):ByteArray)++r4):ByteArray)++((⟨#[32,98,117,114,115,116,32]⟩:ByteArray):ByteArray)):ByteArray)++r5):ByteArray)++((⟨#[32,99,98,117,114,115,116,32]⟩:ByteArray):ByteArray)):ByteArray)++r6):ByteArray)++((⟨#[32,112,114,105,111,32]⟩:ByteArray):ByteArray)):ByteArray).size+r7.size) 9223372036854775807) (
 some (((((((((((((((((((((((⟨#[99,108,97,115,115,32]⟩:ByteArray):ByteArray)++r2):ByteArray)++((⟨#[32,114,97,116,101,32]⟩:ByteArray):ByteArray)):ByteArray)++r3):ByteArray)++((⟨#[32,99,101,105,108,32]⟩:ByteArray):ByteArray)):ByteArray)++r4):ByteArray)++((⟨#[32,98,117,114,115,116,32]⟩:ByteArray):ByteArray)):ByteArray)++r5):ByteArray)++((⟨#[32,99,98,117,114,115,116,32]⟩:ByteArray):ByteArray)):ByteArray)++r6):ByteArray)++((⟨#[32,112,114,105,111,32]⟩:ByteArray):ByteArray)):ByteArray)++r7)) none) none) none) none) none) none) none) none) none) none) none:=by kernel_rfl
noncomputable def me (d:Nat) (n2:Int) (s6:ByteArray) (l7:List t1) (l8:List t5) (n9:Int) (l10:List ByteArray) (lK En gk:List Int):Option t6 :=
 aa (decide (0<=n2)) (
 aa (Nat.blt (n2.toNat) gk.length) (
 Q1 (gk[n2.toNat]?) fun nM =>
 some ((s6,l7,l8,n9),l10,lK,En,(gk.set (n2.toNat) (l10.length:Int)))) none) none
noncomputable def zB (d:Nat) (n2 n3:Int) (s15:ByteArray) (pZ:List t1) (gE:List t5) (eO:Int) (h_:List ByteArray) (d_ eX El:List Int):Option t6 :=
 Q1 (nQ d ((s15,pZ,gE,eO),h_,d_,eX,El) n3 (⟨#[125]⟩:ByteArray)) fun v7 =>
 me d n2 v7.1.1 v7.1.2.1 v7.1.2.2.1 v7.1.2.2.2 v7.2.1 v7.2.2.1 v7.2.2.2.1 v7.2.2.2.2
noncomputable def qz (d:Nat) (n3:Int) (oP:List Int) (uK:ByteArray->(List t1)->(List t5)->Int->(List ByteArray)->(List Int)->(List Int)->(List Int)->Option t6) (iM:(Int×t6)->Option t6) (s:(Int×t6)):Option t6 :=
(fun gT (oM:t6) =>
 aa (decide (gT < (oP.length:Int))) (
 aa (decide (0<=gT)) (
 aa (Nat.blt (gT.toNat) oP.length) (
 Q1 (oP[gT.toNat]?) fun eI =>
 Q1 (Cr d oM eI (i64.wrap (n3+1))) fun Ch =>
 iM ((i64.wrap (gT+1)),Ch)) none) none) (
 uK oM.1.1 oM.1.2.1 oM.1.2.2.1 oM.1.2.2.2 oM.2.1 oM.2.2.1 oM.2.2.2.1 oM.2.2.2.2)) s.1 s.2
theorem UH (d:Nat) (x1:t6) (n2 n3:Int):Cr (d+1) x1 n2 n3 =
 aa (decide (0<=n2)) (
 Q1 (x1.1.2.1[n2.toNat]?) fun x4 =>
 aa (Nat.ble ((x1.2.2.1.length+[n2].length)*8) Q7) (
 Q1 (Es d x1.1 n2) fun r5 =>
 aa r5 (
 Q1 (Cq d x4) fun r6 =>
 aa (Nat.ble (r6.size+((⟨#[32,108,105,109,105,116,32]⟩:ByteArray):ByteArray).size) 9223372036854775807) (
 Q1 (qy d x4.2.2.2.2.2.2.2) fun r7 =>
 aa (Nat.ble (((r6++((⟨#[32,108,105,109,105,116,32]⟩:ByteArray):ByteArray)):ByteArray).size+r7.size) 9223372036854775807) (
 aa (Nat.ble (((((r6++((⟨#[32,108,105,109,105,116,32]⟩:ByteArray):ByteArray)):ByteArray)++r7):ByteArray).size+((⟨#[59]⟩:ByteArray):ByteArray).size) 9223372036854775807) (
 Q1 (nQ d (x1.1,x1.2.1,(x1.2.2.1++[n2]),x1.2.2.2) n3 (((((r6++((⟨#[32,108,105,109,105,116,32]⟩:ByteArray):ByteArray)):ByteArray)++r7):ByteArray)++((⟨#[59]⟩:ByteArray):ByteArray))) fun r8 =>
 aa (decide (0<=n2)) (
 aa (Nat.blt (n2.toNat) r8.2.2.2.1.length) (
 Q1 (r8.2.2.2.1[n2.toNat]?) fun n9 =>
 me d n2 r8.1.1 r8.1.2.1 r8.1.2.2.1 r8.1.2.2.2 r8.2.1 r8.2.2.1 (r8.2.2.2.1.set (n2.toNat) (r8.2.1.length:Int)) r8.2.2.2.2) none) none) none) none) none) (
 Q1 (Cq d x4) fun pN =>
 aa (Nat.ble (pN.size+((⟨#[32,123]⟩:ByteArray):ByteArray).size) 9223372036854775807) (
 Q1 (nQ d (x1.1,x1.2.1,(x1.2.2.1++[n2]),x1.2.2.2) n3 (pN++((⟨#[32,123]⟩:ByteArray):ByteArray))) fun fe =>
 aa (decide (0<=n2)) (
 aa (Nat.blt (n2.toNat) fe.2.2.2.1.length) (
 Q1 (fe.2.2.2.1[n2.toNat]?) fun tY =>
 Q1 (y_ d fe.1 n2) fun oP =>
 Q9 (qz d n3 oP (zB d n2 n3)) Qd (0,(fe.1,fe.2.1,fe.2.2.1,(fe.2.2.2.1.set (n2.toNat) (fe.2.1.length:Int)),fe.2.2.2.2))) none) none) none)) none) none:=by kernel_rfl
noncomputable def qA (d:Nat) (n3:Int):Option Int :=
 some (-1)
noncomputable def gm (d:Nat) (x1:t3) (kg:Int->Option Int) (bW:t10->Option Int) (s:t10):Option Int :=
(fun n3 n4 =>
 aa (decide (n4 < (x1.2.1.length:Int))) (
 aa (decide (0<=n4)) (
 Q1 (x1.2.1[n4.toNat]?) fun x5 =>
 aa (x5.2.1==0) (
 some n4) (
 bW (n3,(i64.wrap (n4+1))))) none) (
 kg n3)) s.1 s.2
theorem UI (d:Nat) (x1:t3):GS (d+3) x1 =
 Q9 (gm d x1 (qA d)) Qd (0,0):=by kernel_rfl
noncomputable def mg (d:Nat) (s4:ByteArray):Option (ByteArray×Bool) :=
 aa (Nat.ble (((⟨#[48,120]⟩:ByteArray):ByteArray).size+s4.size) 9223372036854775807) (
 some ((((⟨#[48,120]⟩:ByteArray):ByteArray)++s4),true)) none
noncomputable def jA (d:Nat) (fJ:ByteArray->Option (ByteArray×Bool)) (bP:(Int×ByteArray)->Option (ByteArray×Bool)) (n4:Int) (s5:ByteArray) (b6 b7:Bool):Option (ByteArray×Bool) :=
 aa b7 (
 aa (decide (0<=((i64.wrap ((i64.wrap ((BitVec.ofInt i64.bits n4 &&& BitVec.ofInt i64.bits 15).toNat:Int))+1)):Int))) (
 aa (decide (0<=((i64.wrap ((BitVec.ofInt i64.bits n4 &&& BitVec.ofInt i64.bits 15).toNat:Int)):Int))) (
 aa (Nat.ble (((i64.wrap ((BitVec.ofInt i64.bits n4 &&& BitVec.ofInt i64.bits 15).toNat:Int)):Int).toNat) (((i64.wrap ((i64.wrap ((BitVec.ofInt i64.bits n4 &&& BitVec.ofInt i64.bits 15).toNat:Int))+1)):Int).toNat)&&Nat.ble (((i64.wrap ((i64.wrap ((BitVec.ofInt i64.bits n4 &&& BitVec.ofInt i64.bits 15).toNat:Int))+1)):Int).toNat) ((⟨#[48,49,50,51,52,53,54,55,56,57,97,98,99,100,101,102]⟩:ByteArray):ByteArray).size) (
 aa (Nat.ble (((((⟨#[48,49,50,51,52,53,54,55,56,57,97,98,99,100,101,102]⟩:ByteArray):ByteArray).extract (((i64.wrap ((BitVec.ofInt i64.bits n4 &&& BitVec.ofInt i64.bits 15).toNat:Int)):Int).toNat) (((i64.wrap ((i64.wrap ((BitVec.ofInt i64.bits n4 &&& BitVec.ofInt i64.bits 15).toNat:Int))+1)):Int).toNat)):ByteArray).size+s5.size) 9223372036854775807) (
 bP ((n4.fdiv (2 ^ (min (4:Int).toNat i64.bits))),(((((⟨#[48,49,50,51,52,53,54,55,56,57,97,98,99,100,101,102]⟩:ByteArray):ByteArray).extract (((i64.wrap ((BitVec.ofInt i64.bits n4 &&& BitVec.ofInt i64.bits 15).toNat:Int)):Int).toNat) (((i64.wrap ((i64.wrap ((BitVec.ofInt i64.bits n4 &&& BitVec.ofInt i64.bits 15).toNat:Int))+1)):Int).toNat)):ByteArray)++s5))) none) none) none) none) (
 fJ s5)
noncomputable def zD (d:Nat) (fJ:ByteArray->Option (ByteArray×Bool)) (bP:(Int×ByteArray)->Option (ByteArray×Bool)) (s:(Int×ByteArray)):Option (ByteArray×Bool) :=
(fun n4 s5 =>
 aa (decide (n4 > 0)) (
 jA d fJ bP n4 s5 true true) (
 jA d fJ bP n4 s5 false (s5.toList==((⟨#[]⟩:ByteArray):ByteArray).toList))) s.1 s.2
noncomputable def qB (d:Nat) (n1:Int) (b2:Bool):Option (ByteArray×Bool) :=
 aa b2 (
 some ((⟨#[]⟩:ByteArray),false)) (
 Q9 (zD d (mg d)) Qd (n1,(⟨#[]⟩:ByteArray)))
theorem UJ (d:Nat) (n1:Int):LN (d+1) n1 =
 aa (decide (n1 < 0)) (
 qB d n1 true) (
 qB d n1 (decide (n1 > 4294967295))):=by kernel_rfl
theorem UK (d:Nat) (n1:Int):Cs (d+1) n1 =
 aa (decide (n1 < 0)) (
 some ((⟨#[]⟩:ByteArray),false)) (
 aa (decide (n1 > 65535)) (
 some ((⟨#[]⟩:ByteArray),false)) (
 Q1 (LN d n1) fun r2 =>
 some (r2.1,r2.2))):=by kernel_rfl
theorem UL (d:Nat):LP (d+1) =
 some [(⟨#[115,111,117,114,99,101]⟩:ByteArray),(⟨#[100,101,115,116]⟩:ByteArray),(⟨#[112,111,114,116]⟩:ByteArray),(⟨#[109,97,114,107]⟩:ByteArray)]:=by kernel_rfl
theorem UM (d:Nat) (x1:t5):GU (d+1) x1 =
 Q1 (Cs d x1.2.2.2.1) fun r2 =>
 Q1 (Cs d x1.2.2.1) fun r3 =>
 Q1 (ke d x1.1) fun r4 =>
 aa (Nat.ble (((⟨#[102,105,108,116,101,114,32]⟩:ByteArray):ByteArray).size+r4.size) 9223372036854775807) (
 aa (Nat.ble (((((⟨#[102,105,108,116,101,114,32]⟩:ByteArray):ByteArray)++r4):ByteArray).size+((⟨#[32]⟩:ByteArray):ByteArray).size) 9223372036854775807) (
 Q1 (LP d) fun r5 =>
 aa (decide (0<=x1.2.1)) (
 aa (Nat.blt (x1.2.1.toNat) r5.length) (
 Q1 (r5[x1.2.1.toNat]?) fun s6 =>
 aa (Nat.ble (((((((⟨#[102,105,108,116,101,114,32]⟩:ByteArray):ByteArray)++r4):ByteArray)++((⟨#[32]⟩:ByteArray):ByteArray)):ByteArray).size+s6.size) 9223372036854775807) (
 aa (Nat.ble (((((((((⟨#[102,105,108,116,101,114,32]⟩:ByteArray):ByteArray)++r4):ByteArray)++((⟨#[32]⟩:ByteArray):ByteArray)):ByteArray)++s6):ByteArray).size+((⟨#[32]⟩:ByteArray):ByteArray).size) 9223372036854775807) (
 aa (Nat.ble (((((((((((⟨#[102,105,108,116,101,114,32]⟩:ByteArray):ByteArray)++r4):ByteArray)++((⟨#[32]⟩:ByteArray):ByteArray)):ByteArray)++s6):ByteArray)++((⟨#[32]⟩:ByteArray):ByteArray)):ByteArray).size+r2.1.size) 9223372036854775807) (
 aa (Nat.ble (((((((((((((⟨#[102,105,108,116,101,114,32]⟩:ByteArray):ByteArray)++r4):ByteArray)++((⟨#[32]⟩:ByteArray):ByteArray)):ByteArray)++s6):ByteArray)++((⟨#[32]⟩:ByteArray):ByteArray)):ByteArray)++r2.1):ByteArray).size+((⟨#[32,47,32]⟩:ByteArray):ByteArray).size) 9223372036854775807) (
 aa (Nat.ble (((((((((((((((⟨#[102,105,108,116,101,114,32]⟩:ByteArray):ByteArray)++r4):ByteArray)++((⟨#[32]⟩:ByteArray):ByteArray)):ByteArray)++s6):ByteArray)++((⟨#[32]⟩:ByteArray):ByteArray)):ByteArray)++r2.1):ByteArray)++((⟨#[32,47,32]⟩:ByteArray):ByteArray)):ByteArray).size+r3.1.size) 9223372036854775807) (
 aa (Nat.ble (((((((((((((((((⟨#[102,105,108,116,101,114,32]⟩:ByteArray):ByteArray)++r4):ByteArray)++((⟨#[32]⟩:ByteArray):ByteArray)):ByteArray)++s6):ByteArray)++((⟨#[32]⟩:ByteArray):ByteArray)):ByteArray)++r2.1):ByteArray)++((⟨#[32,47,32]⟩:ByteArray):ByteArray)):ByteArray)++r3.1):ByteArray).size+((⟨#[32,45,62,32]⟩:ByteArray):ByteArray).size) 9223372036854775807) (
 Q1 (ke d x1.2.2.2.2) fun r7 =>
 aa (Nat.ble (((((((((((((((((((⟨#[102,105,108,116,101,114,32]⟩:ByteArray):ByteArray)++r4):ByteArray)++((⟨#[32]⟩:ByteArray):ByteArray)):ByteArray)++s6):ByteArray)++((⟨#[32]⟩:ByteArray):ByteArray)):ByteArray)++r2.1):ByteArray)++((⟨#[32,47,32]⟩:ByteArray):ByteArray)):ByteArray)++r3.1):ByteArray)++((⟨#[32,45,62,32]⟩:ByteArray):ByteArray)):ByteArray).size+r7.size) 9223372036854775807) (
 aa (Nat.ble (((((((((((((((((((((⟨#[102,105,108,116,101,114,32]⟩:ByteArray):ByteArray)++r4):ByteArray)++((⟨#[32]⟩:ByteArray):ByteArray)):ByteArray)++s6):ByteArray)++((⟨#[32]⟩:ByteArray):ByteArray)):ByteArray)++r2.1):ByteArray)++((⟨#[32,47,32]⟩:ByteArray):ByteArray)):ByteArray)++r3.1):ByteArray)++((⟨#[32,45,62,32]⟩:ByteArray):ByteArray)):ByteArray)++r7):ByteArray).size+((⟨#[59]⟩:ByteArray):ByteArray).size) 9223372036854775807) (
 some (((((((((((((((((((((⟨#[102,105,108,116,101,114,32]⟩:ByteArray):ByteArray)++r4):ByteArray)++((⟨#[32]⟩:ByteArray):ByteArray)):ByteArray)++s6):ByteArray)++((⟨#[32]⟩:ByteArray):ByteArray)):ByteArray)++r2.1):ByteArray)++((⟨#[32,47,32]⟩:ByteArray):ByteArray)):ByteArray)++r3.1):ByteArray)++((⟨#[32,45,62,32]⟩:ByteArray):ByteArray)):ByteArray)++r7):ByteArray)++((⟨#[59]⟩:ByteArray):ByteArray))) none) none) none) none) none) none) none) none) none) none) none) none:=by kernel_rfl
noncomputable def qC (d:Nat) (x1:t3) (d_:List t10) (s39:ByteArray) (LQ:Int) (l41:List t1) (Pa Pb l44 l45:List Int) (l46:List t5) (l47:List Int):Option t0 :=
 aa (x1.2.2.2 != 0) (
 some (s39,l41,Pa,Pb,l44,l45,l46,l47,((eG d_ x1.2.2.2).getD 0))) (
 some (s39,l41,Pa,Pb,l44,l45,l46,l47,LQ))
noncomputable def mh (d:Nat) (x1:t3) (d_:List t10) (uL:ByteArray->Int->(List t1)->(List Int)->(List Int)->(List Int)->(List Int)->(List t5)->(List Int)->Option t0) (UN:(Int×t0)->Option t0) (s:(Int×t0)):Option t0 :=
(fun Jp (mj:t0) =>
 aa (decide (Jp < (x1.2.2.1.length:Int))) (
 aa (decide (0<=Jp)) (
 Q1 (x1.2.2.1[Jp.toNat]?) fun x41 =>
 aa (Nat.ble ((mj.2.2.2.2.2.2.2.1.length+[((eG d_ x41.2.2.2.2).getD 0)].length)*8) Q7) (
 UN ((i64.wrap (Jp+1)),(mj.1,mj.2.1,mj.2.2.1,mj.2.2.2.1,mj.2.2.2.2.1,mj.2.2.2.2.2.1,mj.2.2.2.2.2.2.1,(mj.2.2.2.2.2.2.2.1++[((eG d_ x41.2.2.2.2).getD 0)]),mj.2.2.2.2.2.2.2.2))) none) none) (
 uL mj.1 mj.2.2.2.2.2.2.2.2 mj.2.1 mj.2.2.1 mj.2.2.2.1 mj.2.2.2.2.1 mj.2.2.2.2.2.1 mj.2.2.2.2.2.2.1 mj.2.2.2.2.2.2.2.1)) s.1 s.2
noncomputable def qD (d:Nat) (x1:t3) (LR:ByteArray) (tW:Int) (d_:List t10) (eX:List t1) (Er:List t5) (Bf Bi Bj iV Jm:List Int):Option t0 :=
 Q9 (mh d x1 d_ (qC d x1 d_)) Qd (0,(LR,eX,iV,Bi,Bj,Jm,Er,Bf,tW))
noncomputable def mo (d:Nat) (Jq:List Int) (uM:(List Int)->Option t0) (LU:t11->Option t0) (s:t11):Option t0 :=
(fun gU (sD:List Int) =>
 aa (decide (gU>=0)) (
 aa (decide (0<=gU)) (
 aa (Nat.blt (gU.toNat) sD.length) (
 Q1 (sD[gU.toNat]?) fun Jp =>
 aa (decide (0<=gU)) (
 aa (Nat.blt (gU.toNat) Jq.length) (
 Q1 (Jq[gU.toNat]?) fun LQ =>
 aa (decide (LQ>=0)) (
 aa (decide (0<=gU)) (
 aa (Nat.blt (gU.toNat) Jq.length) (
 Q1 (Jq[gU.toNat]?) fun Pc =>
 aa (decide (0<=Pc)) (
 aa (Nat.blt (Pc.toNat) ((sD.set (gU.toNat) (i64.wrap (gU+1))).length)) (
 Q1 ((sD.set (gU.toNat) (i64.wrap (gU+1)))[Pc.toNat]?) fun Jr =>
 aa (decide (0<=gU)) (
 aa (Nat.blt (gU.toNat) ((sD.set (gU.toNat) (i64.wrap (gU+1))).length)) (
 Q1 ((sD.set (gU.toNat) (i64.wrap (gU+1)))[gU.toNat]?) fun n43 =>
 LU ((i64.wrap (gU - 1)),((sD.set (gU.toNat) (i64.wrap (gU+1))).set (gU.toNat) Jr))) none) none) none) none) none) none) (
 LU ((i64.wrap (gU - 1)),(sD.set (gU.toNat) (i64.wrap (gU+1)))))) none) none) none) none) (
 uM sD)) s.1 s.2
noncomputable def zE (d:Nat) (x1:t3) (LR:ByteArray) (tW:Int) (d_:List t10) (eX:List t1) (Er:List t5) (Bf Jq Bi Bj iV:List Int):Option t0 :=
 Q9 (mo d Jq (qD d x1 LR tW d_ eX Er Bf Bi Bj iV)) Qd ((i64.wrap ((eX.length:Int) - 1)),(List.replicate ((eX.length:Int).toNat) (0:Int)))
noncomputable def mw (d:Nat) (d_:List t10) (zF:(Int×(List Int)×(List Int)×(List Int)×(List Int))->Option t0) (kP:Int) (iV mz:List Int) (mA:t1) (b41:Bool) (Pa Pb:List Int):Option t0 :=
 aa (decide (0<=(((eG d_ mA.2.1).getD 0):Int))) (
 aa (Nat.blt ((((eG d_ mA.2.1).getD 0):Int).toNat) mz.length) (
 Q1 (mz[(((eG d_ mA.2.1).getD 0):Int).toNat]?) fun n44 =>
 zF ((i64.wrap (kP+1)),Pa,Pb,(iV.set (kP.toNat) ((eG d_ mA.2.1).getD 0)),(mz.set ((((eG d_ mA.2.1).getD 0):Int).toNat) kP))) none) none
noncomputable def ij (d:Nat) (d_:List t10) (eX:List t1) (uN:(List Int)->(List Int)->(List Int)->(List Int)->Option t0) (zF:(Int×(List Int)×(List Int)×(List Int)×(List Int))->Option t0) (s:(Int×(List Int)×(List Int)×(List Int)×(List Int))):Option t0 :=
(fun kP (Bi:List Int) (Bj:List Int) (iV:List Int) (mz:List Int) =>
 aa (decide (kP < (eX.length:Int))) (
 aa (decide (0<=kP)) (
 aa (Nat.blt (kP.toNat) eX.length) (
 Q1 (eX[kP.toNat]?) fun mA =>
 aa (!((eG d_ mA.2.1).isSome)) (
 aa (decide (0<=kP)) (
 aa (Nat.blt (kP.toNat) iV.length) (
 Q1 (iV[kP.toNat]?) fun n38 =>
 zF ((i64.wrap (kP+1)),Bi,Bj,(iV.set (kP.toNat) (-1)),mz)) none) none) (
 aa (decide (0<=kP)) (
 aa (Nat.blt (kP.toNat) iV.length) (
 Q1 (iV[kP.toNat]?) fun Jp =>
 aa (decide (0<=(((eG d_ mA.2.1).getD 0):Int))) (
 aa (Nat.blt ((((eG d_ mA.2.1).getD 0):Int).toNat) mz.length) (
 Q1 (mz[(((eG d_ mA.2.1).getD 0):Int).toNat]?) fun LQ =>
 aa (decide (LQ < 0)) (
 aa (decide (0<=(((eG d_ mA.2.1).getD 0):Int))) (
 aa (Nat.blt ((((eG d_ mA.2.1).getD 0):Int).toNat) Bi.length) (
 Q1 (Bi[(((eG d_ mA.2.1).getD 0):Int).toNat]?) fun Pc =>
 mw d d_ zF kP iV mz mA true (Bi.set ((((eG d_ mA.2.1).getD 0):Int).toNat) kP) Bj) none) none) (
 aa (decide (0<=(((eG d_ mA.2.1).getD 0):Int))) (
 aa (Nat.blt ((((eG d_ mA.2.1).getD 0):Int).toNat) mz.length) (
 Q1 (mz[(((eG d_ mA.2.1).getD 0):Int).toNat]?) fun Jr =>
 aa (decide (0<=Jr)) (
 aa (Nat.blt (Jr.toNat) Bj.length) (
 Q1 (Bj[Jr.toNat]?) fun n43 =>
 mw d d_ zF kP iV mz mA false Bi (Bj.set (Jr.toNat) kP)) none) none) none) none)) none) none) none) none)) none) none) (
 uN mz Bi Bj iV)) s.1 s.2.1 s.2.2.1 s.2.2.2.1 s.2.2.2.2
noncomputable def jB (d:Nat) (x1:t3) (LR:ByteArray) (tW:Int) (d_:List t10) (eX:List t1) (El vX sy Em:List Int) (Er:List t5) (Bf:List Int):Option t0 :=
 Q1 (zA (d+1) [(-1)] (eX.length:Int)) fun zG =>
 Q1 (zA (d+1) [(-1)] (eX.length:Int)) fun uE =>
 aa (decide (0<=(eX.length:Int))) (
 aa (decide (0<=(eX.length:Int))) (
 aa (Nat.ble ((eX.length:Int).toNat) ((eX.length:Int).toNat)&&Nat.ble (((eX.length:Int).toNat)*8) Q7) (
 aa (decide (0<=(eX.length:Int))) (
 aa (decide (0<=(eX.length:Int))) (
 aa (Nat.ble ((eX.length:Int).toNat) ((eX.length:Int).toNat)&&Nat.ble (((eX.length:Int).toNat)*8) Q7) (
 Q1 (zA (d+1) [(-1)] (eX.length:Int)) fun zH =>
 Q9 (ij d d_ eX (zE d x1 LR tW d_ eX Er Bf)) Qd (0,zG,uE,(List.replicate ((eX.length:Int).toNat) (0:Int)),zH)) none) none) none) none) none) none
noncomputable def mB (d:Nat) (x1:t3) (pJ:t6) (uO:ByteArray->Int->(List t10)->(List t1)->(List Int)->(List Int)->(List Int)->(List Int)->(List t5)->(List Int)->Option t0) (GP:(Int×t0×(List (List (List t10))))->Option t0) (s:(Int×t0×(List (List (List t10))))):Option t0 :=
(fun eO (nL:t0) (d_:List (List (List t10))) =>
 aa (decide (eO < (pJ.2.2.1.length:Int))) (
 aa (decide (0<=eO)) (
 aa (Nat.blt (eO.toNat) pJ.2.2.1.length) (
 Q1 (pJ.2.2.1[eO.toNat]?) fun kM =>
 aa (decide (0<=kM)) (
 Q1 (x1.2.1[kM.toNat]?) fun Uv =>
 aa (Nat.ble ((nL.2.1.length+[Uv].length)*64) Q7) (
 aa (decide (0<=kM)) (
 Q1 (x1.2.1[kM.toNat]?) fun x23 =>
 GP ((i64.wrap (eO+1)),(nL.1,(nL.2.1++[Uv]),nL.2.2),([[(gZ (Ct d_) x23.1 eO)]]:List (List (List t10))))) none) none) none) none) none) (
 uO nL.1 nL.2.2.2.2.2.2.2.2 (Ct d_) nL.2.1 nL.2.2.1 nL.2.2.2.1 nL.2.2.2.2.1 nL.2.2.2.2.2.1 nL.2.2.2.2.2.2.1 nL.2.2.2.2.2.2.2.1)) s.1 s.2.1 s.2.2
noncomputable def jC (d:Nat) (x1:t3) (r2:List t5) (s8:ByteArray) (l9:List t1) (l10:List t5) (iL:Int) (En:List ByteArray) (gk kN iC:List Int):Option t0 :=
 Q1 (nQ d ((s8,l9,l10,iL),En,gk,kN,iC) 0 (⟨#[125]⟩:ByteArray)) fun pJ =>
 Q9 (mB d x1 pJ (jB d x1)) Qd (0,(x1.1,[],[],[],[],[],r2,[],(-1)),([[([]:List t10)]]:List (List (List t10))))
noncomputable def gp (d:Nat) (x1:t3) (ki:ByteArray->(List t1)->(List t5)->Int->(List ByteArray)->(List Int)->(List Int)->(List Int)->Option t0) (Um:(Int×t6)->Option t0) (s:(Int×t6)):Option t0 :=
(fun n8 (x9:t6) =>
 aa (decide (n8 < (x1.2.2.1.length:Int))) (
 aa (decide (0<=n8)) (
 Q1 (x1.2.2.1[n8.toNat]?) fun aR =>
 Q1 (GU d aR) fun fe =>
 Q1 (nQ d x9 1 fe) fun jq =>
 Um ((i64.wrap (n8+1)),jq)) none) (
 ki x9.1.1 x9.1.2.1 x9.1.2.2.1 x9.1.2.2.2 x9.2.1 x9.2.2.1 x9.2.2.2.1 x9.2.2.2.2)) s.1 s.2
noncomputable def eT (d:Nat) (x1:t3) (r2:List t5) (s3:ByteArray):Option t0 :=
 aa (Nat.ble (s3.size+((⟨#[32,123]⟩:ByteArray):ByteArray).size) 9223372036854775807) (
 Q1 (nQ d (x1,[],[],(List.replicate ((x1.2.1.length:Int).toNat) (0:Int)),(List.replicate ((x1.2.1.length:Int).toNat) (0:Int))) 0 (s3++((⟨#[32,123]⟩:ByteArray):ByteArray))) fun r4 =>
 Q1 (GS d x1) fun r5 =>
 Q1 (Cr d r4 r5 1) fun r6 =>
 Q9 (gp d x1 (jC d x1 r2)) Qd (0,r6)) none
theorem UO (d:Nat) (x1:t3):Cv (d+2) x1 =
 Q1 (ze (d+1) x1.2.2.1) fun r2 =>
 aa (decide (0<=(x1.2.1.length:Int))) (
 aa (decide (0<=(x1.2.1.length:Int))) (
 aa (Nat.ble ((x1.2.1.length:Int).toNat) ((x1.2.1.length:Int).toNat)&&Nat.ble (((x1.2.1.length:Int).toNat)*8) Q7) (
 aa (decide (0<=(x1.2.1.length:Int))) (
 aa (decide (0<=(x1.2.1.length:Int))) (
 aa (Nat.ble ((x1.2.1.length:Int).toNat) ((x1.2.1.length:Int).toNat)&&Nat.ble (((x1.2.1.length:Int).toNat)*8) Q7) (
 aa (Nat.ble (((⟨#[113,100,105,115,99,32]⟩:ByteArray):ByteArray).size+x1.1.size) 9223372036854775807) (
 aa (x1.2.2.2 != 0) (
 Q1 (ke d x1.2.2.2) fun r3 =>
 aa (Nat.ble (((⟨#[32,100,101,102,97,117,108,116,32]⟩:ByteArray):ByteArray).size+r3.size) 9223372036854775807) (
 aa (Nat.ble (((((⟨#[113,100,105,115,99,32]⟩:ByteArray):ByteArray)++x1.1):ByteArray).size+((((⟨#[32,100,101,102,97,117,108,116,32]⟩:ByteArray):ByteArray)++r3):ByteArray).size) 9223372036854775807) (
 eT d x1 r2 (((((⟨#[113,100,105,115,99,32]⟩:ByteArray):ByteArray)++x1.1):ByteArray)++((((⟨#[32,100,101,102,97,117,108,116,32]⟩:ByteArray):ByteArray)++r3):ByteArray))) none) none) (
 eT d x1 r2 (((⟨#[113,100,105,115,99,32]⟩:ByteArray):ByteArray)++x1.1))) none) none) none) none) none) none) none:=by kernel_rfl
noncomputable def GV (d:Nat) (b4:Bool):Option Bool :=
 some true
noncomputable def qE (d:Nat) (l1 l2:List t1) (uP:Bool->Option Bool) (bP:t9->Option Bool) (s:t9):Option Bool :=
(fun (b4:Bool) n5 =>
 aa (decide (n5 < (l1.length:Int))) (
 aa (decide (0<=n5)) (
 Q1 (l1[n5.toNat]?) fun x6 =>
 aa (decide (0<=n5)) (
 Q1 (l2[n5.toNat]?) fun x7 =>
 aa (!((x6.1==x7.1)&&((x6.2.1==x7.2.1)&&((x6.2.2.1==x7.2.2.1)&&((x6.2.2.2.1==x7.2.2.2.1)&&((x6.2.2.2.2.1==x7.2.2.2.2.1)&&((x6.2.2.2.2.2.1==x7.2.2.2.2.2.1)&&((x6.2.2.2.2.2.2.1==x7.2.2.2.2.2.2.1)&&((x6.2.2.2.2.2.2.2==x7.2.2.2.2.2.2.2)&&true))))))))) (
 some false) (
 bP (b4,(i64.wrap (n5+1))))) none) none) (
 uP b4)) s.1 s.2
theorem UP (d:Nat) (l1 l2:List t1):GX (d+1) l1 l2 =
 aa ((l1.length:Int) != (l2.length:Int)) (
 some false) (
 Q9 (qE d l1 l2 (GV d)) Qd (false,0)):=by kernel_rfl
noncomputable def GY (d:Nat) (b4:Bool):Option Bool :=
 some true
noncomputable def qF (d:Nat) (l1 l2:List Int) (uQ:Bool->Option Bool) (bP:t9->Option Bool) (s:t9):Option Bool :=
(fun (b4:Bool) n5 =>
 aa (decide (n5 < (l1.length:Int))) (
 aa (decide (0<=n5)) (
 Q1 (l1[n5.toNat]?) fun n6 =>
 aa (decide (0<=n5)) (
 Q1 (l2[n5.toNat]?) fun n7 =>
 aa (n6 != n7) (
 some false) (
 bP (b4,(i64.wrap (n5+1))))) none) none) (
 uQ b4)) s.1 s.2
theorem UQ (d:Nat) (l1 l2:List Int):qG (d+1) l1 l2 =
 aa ((l1.length:Int) != (l2.length:Int)) (
 some false) (
 Q9 (qF d l1 l2 (GY d)) Qd (false,0)):=by kernel_rfl
noncomputable def qH (d:Nat) (x1:t0) (b2:Bool):Option Bool :=
 aa b2 (
 some false) (
 Q1 (LK d x1) fun r3 =>
 Q1 (Jn d r3) fun r4 =>
 aa (!r4) (
 some false) (
 Q1 (Cv d r3) fun r5 =>
 Q1 (GX d x1.2.1 r5.2.1) fun r6 =>
 aa r6 (
 Q1 (qG d x1.2.2.1 r5.2.2.1) fun r7 =>
 aa r7 (
 Q1 (qG d x1.2.2.2.1 r5.2.2.2.1) fun r8 =>
 aa r8 (
 Q1 (qG d x1.2.2.2.2.1 r5.2.2.2.2.1) fun r9 =>
 aa r9 (
 Q1 (qG d x1.2.2.2.2.2.1 r5.2.2.2.2.2.1) fun pN =>
 aa pN (
 Q1 (qG d x1.2.2.2.2.2.2.2.1 r5.2.2.2.2.2.2.2.1) fun fe =>
 aa fe (
 some (x1.2.2.2.2.2.2.2.2==r5.2.2.2.2.2.2.2.2)) (
 some false)) (
 some false)) (
 some false)) (
 some false)) (
 some false)) (
 some false)))
theorem UR (d:Nat) (x1:t0):GZ (d+1) x1 =
 aa (decide ((x1.2.1.length:Int) > 24)) (
 qH d x1 true) (
 qH d x1 (decide ((x1.2.2.2.2.2.2.1.length:Int) > 16))):=by kernel_rfl
noncomputable def G0 (d:Nat) (b5:Bool):Option Bool :=
 some true
noncomputable def jD (d:Nat) (jr:t9->Option Bool) (b5:Bool) (n6 n8 n9:Int) (F8 Ei Jj vW b14 b15 b16:Bool):Option Bool :=
 aa b16 (
 some false) (
 jr (b5,(i64.wrap (n6+1))))
noncomputable def qI (d:Nat) (x1:t0) (x2:t7) (uR:Bool->Option Bool) (jr:t9->Option Bool) (s:t9):Option Bool :=
(fun (b5:Bool) n6 =>
 aa (decide (n6 < (x1.2.1.length:Int))) (
 aa (decide (0<=n6)) (
 Q1 (x1.2.1[n6.toNat]?) fun x7 =>
 aa (decide (0<=n6)) (
 Q1 (x2.1[n6.toNat]?) fun n8 =>
 aa (decide (n8 < 0)) (
 jD d jr b5 n6 n8 n8 (decide (n8 < 0)) true true true true true true) (
 aa (decide (0<=n6)) (
 Q1 (x2.1[n6.toNat]?) fun n9 =>
 aa (decide (n9 > x7.2.2.2.2.1)) (
 jD d jr b5 n6 n8 n8 (decide (n8 < 0)) false (decide (n9 > x7.2.2.2.2.1)) true true true true) (
 aa (decide (0<=n6)) (
 Q1 (x2.2[n6.toNat]?) fun dZ =>
 aa (decide (dZ < 0)) (
 jD d jr b5 n6 n8 n8 (decide (n8 < 0)) false (decide (n9 > x7.2.2.2.2.1)) false (decide (dZ < 0)) true true) (
 aa (decide (0<=n6)) (
 Q1 (x2.2[n6.toNat]?) fun iL =>
 jD d jr b5 n6 n8 n8 (decide (n8 < 0)) false (decide (n9 > x7.2.2.2.2.1)) false (decide (dZ < 0)) false (decide (iL > x7.2.2.2.2.2.1))) none)) none)) none)) none) none) (
 uR b5)) s.1 s.2
noncomputable def qJ (d:Nat) (x1:t0) (x2:t7) (b3:Bool):Option Bool :=
 aa b3 (
 some false) (
 Q9 (qI d x1 x2 (G0 d)) Qd (false,0))
theorem US (d:Nat) (x1:t0) (x2:t7):G3 (d+1) x1 x2 =
 aa ((x2.1.length:Int) != (x1.2.1.length:Int)) (
 qJ d x1 x2 true) (
 qJ d x1 x2 ((x2.2.length:Int) != (x1.2.1.length:Int))):=by kernel_rfl
noncomputable def G4 (d:Nat) (l3:List Int):Option (List Int) :=
 some l3
noncomputable def qK (d:Nat) (x1:t0) (uS:(List Int)->Option (List Int)) (bW:t15->Option (List Int)) (s:t15):Option (List Int) :=
(fun (l3:List Int) n4 =>
 aa (decide (n4 < (x1.2.1.length:Int))) (
 aa (decide (0<=n4)) (
 Q1 (x1.2.2.2.1[n4.toNat]?) fun n5 =>
 aa (decide (n5 < 0)) (
 aa (Nat.ble ((l3.length+[n4].length)*8) Q7) (
 bW ((l3++[n4]),(i64.wrap (n4+1)))) none) (
 bW (l3,(i64.wrap (n4+1))))) none) (
 uS l3)) s.1 s.2
theorem UT (d:Nat) (x1:t0):nR (d+1) x1 =
 Q9 (qK d x1 (G4 d)) Qd (([]:List Int),0):=by kernel_rfl
theorem LV (d:Nat) (x1:t4):G5 (d+1) x1 =
 some (x1.2.1,x1.2.2.1,x1.2.2.2.1,x1.2.2.2.2.1):=by kernel_rfl
noncomputable def qL (d:Nat) (x1:t4) (b4:Bool):Option Bool :=
 aa (decide (x1.1>=1)) (
 aa (decide (x1.1<=100000)) (
 aa (decide (x1.2.2.2.2.2>=1)) (
 some (decide (x1.2.2.2.2.2<=1500))) (
 some false)) (
 some false)) (
 some false)
noncomputable def zI (d:Nat) (r2:(Int×Int×Int×Int)) (uT:Bool->Option Bool) (bP:t9->Option Bool) (s:t9):Option Bool :=
(fun (b4:Bool) n5 =>
 aa (decide (n5 < 4)) (
 aa (decide (0<=n5)) (
 Q1 (([r2.1,r2.2.1,r2.2.2.1,r2.2.2.2]:List Int)[n5.toNat]?) fun n6 =>
 aa (decide (n6 < 0)) (
 some false) (
 aa (decide (n6 > 65535)) (
 some false) (
 bP (b4,(i64.wrap (n5+1)))))) none) (
 uT b4)) s.1 s.2
theorem UU (d:Nat) (x1:t4):Cw (d+1) x1 =
 Q1 (G5 d x1) fun r2 =>
 Q9 (zI d r2 (qL d x1)) Qd (false,0):=by kernel_rfl
theorem UW (d:Nat) (x1:t5) (x2:t4):G6 (d+1) x1 x2 =
 Q1 (G5 d x2) fun r3 =>
 aa (decide (0<=x1.2.1)) (
 Q1 (([r3.1,r3.2.1,r3.2.2.1,r3.2.2.2]:List Int)[x1.2.1.toNat]?) fun n4 =>
 some (((i64.wrap ((BitVec.ofInt i64.bits n4 &&& BitVec.ofInt i64.bits x1.2.2.1).toNat:Int)):Int)==x1.2.2.2.1)) none:=by kernel_rfl
noncomputable def G7 (d:Nat) (n4:Int):Option Int :=
 some (-1)
noncomputable def qM (d:Nat) (l1:List t5) (x2:t4) (uU:Int->Option Int) (bP:t10->Option Int) (s:t10):Option Int :=
(fun n4 n5 =>
 aa (decide (n5 < (l1.length:Int))) (
 aa (decide (0<=n5)) (
 Q1 (l1[n5.toNat]?) fun x6 =>
 Q1 (G6 d x6 x2) fun r7 =>
 aa r7 (
 some n5) (
 bP (n4,(i64.wrap (n5+1))))) none) (
 uU n4)) s.1 s.2
theorem UX (d:Nat) (l1:List t5) (x2:t4):G8 (d+1) l1 x2 =
 Q9 (qM d l1 x2 (G7 d)) Qd (0,0):=by kernel_rfl
theorem UY (d:Nat) (x1:t0) (x2:t4):Cy (d+1) x1 x2 =
 Q1 (G8 d x1.2.2.2.2.2.2.1 x2) fun r3 =>
 aa (decide (r3>=0)) (
 aa (decide (0<=r3)) (
 Q1 (x1.2.2.2.2.2.2.2.1[r3.toNat]?) fun n4 =>
 some n4) none) (
 some x1.2.2.2.2.2.2.2.2):=by kernel_rfl
noncomputable def jE (d:Nat) (n4:Int):Option Bool :=
 some (decide (((-1):Int)>=0))
noncomputable def dR (d:Nat) (l1:List t4) (n2:Int) (gI:Int->Option Bool) (bP:t10->Option Bool) (s:t10):Option Bool :=
(fun n4 n5 =>
 aa (decide (n5 < (l1.length:Int))) (
 aa (decide (0<=n5)) (
 Q1 (l1[n5.toNat]?) fun x6 =>
 aa (x6.1==n2) (
 some (decide (n5>=0))) (
 bP (n4,(i64.wrap (n5+1))))) none) (
 gI n4)) s.1 s.2
theorem UZ (d:Nat) (l1:List t4) (n2:Int):G9 (d+4) l1 n2 =
 Q9 (dR d l1 n2 (jE d)) Qd (0,0):=by kernel_rfl
noncomputable def G_ (d:Nat) (b3:Bool):Option Bool :=
 some true
noncomputable def qN (d:Nat) (l1:List t4) (uV:Bool->Option Bool) (bW:t9->Option Bool) (s:t9):Option Bool :=
(fun (b3:Bool) n4 =>
 aa (decide (n4 < (l1.length:Int))) (
 aa (decide (0<=n4)) (
 Q1 (l1[n4.toNat]?) fun x5 =>
 Q1 (Cw d x5) fun r6 =>
 aa (!r6) (
 some false) (
 aa (decide (0<=n4)) (
 aa (Nat.ble (n4.toNat) l1.length) (
 Q1 (G9 d (l1.take (n4.toNat)) x5.1) fun r7 =>
 aa r7 (
 some false) (
 bW (b3,(i64.wrap (n4+1))))) none) none)) none) (
 uV b3)) s.1 s.2
theorem U0 (d:Nat) (l1:List t4):He (d+1) l1 =
 Q9 (qN d l1 (G_ d)) Qd (false,0):=by kernel_rfl
noncomputable def zJ (d:Nat) (l5:List t4):Option (List t4) :=
 some l5
noncomputable def mD (d:Nat) (l1:List (List t4)) (iq:(List t4)->Option (List t4)) (jr:((List t4)×Int)->Option (List t4)) (s:((List t4)×Int)):Option (List t4) :=
(fun (l5:List t4) n6 =>
 aa (decide (n6 < (l1.length:Int))) (
 aa (decide (0<=n6)) (
 Q1 (l1[n6.toNat]?) fun l7 =>
 aa (Nat.ble ((l5.length+l7.length)*48) Q7) (
 jr ((l5++l7),(i64.wrap (n6+1)))) none) none) (
 iq l5)) s.1 s.2
noncomputable def zK (d:Nat) (l9:List t4):Option (List t4) :=
 some l9
noncomputable def iX (d:Nat) (l1:List (List t4)) (iq:(List t4)->Option (List t4)) (yT:((List t4)×Int)->Option (List t4)) (s:((List t4)×Int)):Option (List t4) :=
(fun (l9:List t4) dZ =>
 aa (decide (dZ < (l1.length:Int))) (
 aa (decide (0<=dZ)) (
 Q1 (l1[dZ.toNat]?) fun lK =>
 aa (Nat.ble ((l9.length+lK.length)*48) Q7) (
 yT ((l9++lK),(i64.wrap (dZ+1)))) none) none) (
 iq l9)) s.1 s.2
noncomputable def mE (d:Nat) (l1:List (List t4)) (n3:Int):Option (List t4) :=
 aa (decide (n3 < 0)) (
 none) (
 aa (decide (((i64.wrap (n3 - (i64.wrap ((0:Int) - ((0:Nat):Int))))):Int) > 0)) (
 aa (Nat.ble 0 0) (
 aa (decide (0<=((i64.wrap (n3 - (i64.wrap ((0:Int) - ((0:Nat):Int))))):Int))&&decide (((i64.wrap (n3 - (i64.wrap ((0:Int) - ((0:Nat):Int))))):Int)*((48:Nat):Int)<=(Q7:Int))) (
 aa (Nat.ble ((List.replicate ((i64.wrap (n3 - (i64.wrap ((0:Int) - ((0:Nat):Int))))):Int).toNat ((0,0,0,0,0,0):t4)).length*48) Q7) (
 aa (decide (0<=(((0:Nat):Int):Int))) (
 aa (Nat.ble ((((0:Nat):Int):Int).toNat) ((List.replicate ((i64.wrap (n3 - (i64.wrap ((0:Int) - ((0:Nat):Int))))):Int).toNat ((0,0,0,0,0,0):t4)).length)) (
 Q9 (mD d l1 (zJ d)) Qd (((List.replicate ((i64.wrap (n3 - (i64.wrap ((0:Int) - ((0:Nat):Int))))):Int).toNat ((0,0,0,0,0,0):t4)).take ((((0:Nat):Int):Int).toNat)),0)) none) none) none) none) none) (
 Q9 (iX d l1 (zK d)) Qd ([],0)))
noncomputable def mG (d:Nat) (l1:List (List t4)) (uW:Int->Option (List t4)) (bW:t10->Option (List t4)) (s:t10):Option (List t4) :=
(fun n3 n4 =>
 aa (decide (n4 < (l1.length:Int))) (
 aa (decide (0<=n4)) (
 Q1 (l1[n4.toNat]?) fun l5 =>
 aa (decide (((i64.wrap (n3+(l5.length:Int))):Int) < 0)) (
 none) (
 bW ((i64.wrap (n3+(l5.length:Int))),(i64.wrap (n4+1))))) none) (
 uW n3)) s.1 s.2
theorem U3 (d:Nat) (l1:List (List t4)):Hf (d+2) l1 =
 Q9 (mG d l1 (mE d l1)) Qd (0,0):=by kernel_rfl
noncomputable def zL (d:Nat) (x1:t2) (b6:Bool):Option Bool :=
 Q1 (Hf d x1.2.2.1) fun r7 =>
 Q1 (He d r7) fun r8 =>
 some r8
noncomputable def Eu (d:Nat) (hU:t9->Option Bool) (n7:Int) (vW:Bool) (nM:Int):Option Bool :=
 hU (vW,(i64.wrap (n7+1)))
noncomputable def zM (d:Nat) (x1:t2) (n8:Int) (lK:List t4) (zN:Bool->Int->Option Bool) (Gi:t9->Option Bool) (s:t9):Option Bool :=
(fun (vW:Bool) nM =>
 aa (decide (nM < (lK.length:Int))) (
 aa (decide (0<=nM)) (
 Q1 (lK[nM.toNat]?) fun Ur =>
 Q1 (Cw d Ur) fun pJ =>
 aa (!pJ) (
 some false) (
 Q1 (Cy d x1.1 Ur) fun F9 =>
 aa (F9 != n8) (
 some false) (
 Gi (vW,(i64.wrap (nM+1)))))) none) (
 zN vW nM)) s.1 s.2
noncomputable def zO (d:Nat) (x1:t2) (r3:List Int) (zP:Bool->Option Bool) (hU:t9->Option Bool) (s:t9):Option Bool :=
(fun (b6:Bool) n7 =>
 aa (decide (n7 < (r3.length:Int))) (
 aa (decide (0<=n7)) (
 aa (Nat.blt (n7.toNat) r3.length) (
 Q1 (r3[n7.toNat]?) fun n8 =>
 aa (decide (0<=n7)) (
 Q1 (x1.2.2.1[n7.toNat]?) fun l9 =>
 aa (decide (0<=n8)) (
 Q1 (x1.1.2.1[n8.toNat]?) fun aR =>
 aa (decide ((l9.length:Int) > aR.2.2.2.2.2.2.2)) (
 some false) (
 aa (decide (0<=n7)) (
 Q1 (x1.2.2.1[n7.toNat]?) fun lK =>
 Q9 (zM d x1 n8 lK (Eu d hU n7)) Qd (b6,0)) none)) none) none) none) none) (
 zP b6)) s.1 s.2
noncomputable def kQ (d:Nat) (x1:t2) (r3:List Int) (b4:Bool):Option Bool :=
 aa b4 (
 some false) (
 Q9 (zO d x1 r3 (zL d x1)) Qd (false,0))
noncomputable def zQ (d:Nat) (x1:t2) (b2:Bool):Option Bool :=
 aa b2 (
 some false) (
 Q1 (nR d x1.1) fun r3 =>
 aa ((x1.2.2.1.length:Int) != (r3.length:Int)) (
 kQ d x1 r3 true) (
 aa (decide (x1.2.2.2.1 < (-1))) (
 kQ d x1 r3 true) (
 aa (decide (x1.2.2.2.1>=(r3.length:Int))) (
 kQ d x1 r3 true) (
 aa (decide (x1.2.2.2.2 < 0)) (
 kQ d x1 r3 true) (
 kQ d x1 r3 (decide (x1.2.2.2.2 > 1000000)))))))
theorem e70 (d:Nat) (x1:t2):Pd (d+1) x1 =
 Q1 (GZ d x1.1) fun r2 =>
 aa (!r2) (
 zQ d x1 true) (
 Q1 (G3 d x1.1 x1.2.1) fun r3 =>
 zQ d x1 (!r3)):=by kernel_rfl
noncomputable def Hg (d:Nat) (l3 l4:List Int):Option t7 :=
 some (l3,l4)
noncomputable def qO (d:Nat) (x1:t0) (uX:(List Int)->(List Int)->Option t7) (bW:(Int×t7)->Option t7) (s:(Int×t7)):Option t7 :=
(fun n3 (x4:t7) =>
 aa (decide (n3 < (x1.2.1.length:Int))) (
 aa (decide (0<=n3)) (
 Q1 (x1.2.1[n3.toNat]?) fun x5 =>
 aa (Nat.ble ((x4.1.length+[x5.2.2.2.2.1].length)*8) Q7) (
 aa (Nat.ble ((x4.2.length+[x5.2.2.2.2.2.1].length)*8) Q7) (
 bW ((i64.wrap (n3+1)),((x4.1++[x5.2.2.2.2.1]),(x4.2++[x5.2.2.2.2.2.1])))) none) none) none) (
 uX x4.1 x4.2)) s.1 s.2
theorem U4 (d:Nat) (x1:t0):Hh (d+1) x1 =
 Q9 (qO d x1 (Hg d)) Qd (0,([],[])):=by kernel_rfl
noncomputable def qP (d:Nat) (x1:t2) (r3:t0) (l7 l8 l10:List Int) (lK:List (List t4)) (eI:Int):Option t8 :=
 some ((r3,(l7,l8),lK,(-1),x1.2.2.2.2),l10)
noncomputable def gb (d:Nat) (x1:t2) (r3:t0) (l7 l8 l10:List Int) (lK:List (List t4)) (m_:t1) (pI:List Int) (kj:Int->Option t8) (Gf:t10->Option t8) (s:t10):Option t8 :=
(fun eI eO =>
 aa (decide (eO < (pI.length:Int))) (
 aa (decide (0<=eO)) (
 aa (Nat.blt (eO.toNat) pI.length) (
 Q1 (pI[eO.toNat]?) fun tW =>
 aa (decide (0<=tW)) (
 aa (Nat.blt (tW.toNat) r3.2.1.length) (
 Q1 (r3.2.1[tW.toNat]?) fun Cm =>
 aa (Cm.1==m_.1) (
 some ((r3,(l7,l8),lK,eO,x1.2.2.2.2),l10)) (
 Gf (eI,(i64.wrap (eO+1))))) none) none) none) none) (
 kj eI)) s.1 s.2
noncomputable def pg (d:Nat) (x1:t2) (r3:t0) (l7 l8 l10:List Int) (lK:List (List t4)):Option t8 :=
 aa (decide (x1.2.2.2.1>=0)) (
 Q1 (nR (d+2) x1.1) fun jq =>
 aa (decide (0<=x1.2.2.2.1)) (
 aa (Nat.blt (x1.2.2.2.1.toNat) jq.length) (
 Q1 (jq[x1.2.2.2.1.toNat]?) fun j9 =>
 aa (decide (0<=j9)) (
 Q1 (x1.1.2.1[j9.toNat]?) fun m_ =>
 Q1 (nR (d+2) r3) fun pI =>
 Q9 (gb d x1 r3 l7 l8 l10 lK m_ pI (qP d x1 r3 l7 l8 l10 lK)) Qd (0,0)) none) none) none) (
 some ((r3,(l7,l8),lK,(-1),x1.2.2.2.2),l10))
noncomputable def wY (d:Nat) (Et:t12->Option t8) (iL gT:Int) (pZ:List Int) (gE:List (List t4)):Option t8 :=
 Et (pZ,(i64.wrap (iL+1)),gE)
noncomputable def cE (d:Nat) (iM:t12->Option t8) (iC:List Int) (dO:Int) (gh:t4) (tW n20:Int) (eX:List (List t4)):Option t8 :=
 aa (tW != 1) (
 aa (Nat.ble ((iC.length+[gh.1].length)*8) Q7) (
 iM ((iC++[gh.1]),(i64.wrap (dO+1)),eX)) none) (
 iM (iC,(i64.wrap (dO+1)),eX))
noncomputable def lA (d:Nat) (r3:t0) (gk:List t4) (uY:Int->(List Int)->(List (List t4))->Option t8) (iM:t12->Option t8) (s:t12):Option t8 :=
(fun (iC:List Int) dO (gE:List (List t4)) =>
 aa (decide (dO < (gk.length:Int))) (
 aa (decide (0<=dO)) (
 Q1 (gk[dO.toNat]?) fun gh =>
 Q1 (Cy (d+1) r3 gh) fun vY =>
 aa (decide (vY < 0)) (
 cE d iM iC dO gh 3 0 gE) (
 aa (decide (0<=vY)) (
 aa (Nat.blt (vY.toNat) r3.2.1.length) (
 Q1 (r3.2.1[vY.toNat]?) fun Cm =>
 Q1 (nR (d+1) r3) fun r21 =>
 Q1 (yX (d+1) r21 vY) fun sG =>
 aa (decide (0<=sG)) (
 aa (Nat.blt (sG.toNat) gE.length) (
 Q1 (gE[sG.toNat]?) fun vX =>
 aa ((vX.length:Int)==Cm.2.2.2.2.2.2.2) (
 cE d iM iC dO gh 2 Cm.1 gE) (
 aa (decide (0<=sG)) (
 aa (Nat.blt (sG.toNat) gE.length) (
 Q1 (gE[sG.toNat]?) fun sy =>
 aa (Nat.ble ((sy.length+[gh].length)*48) Q7) (
 aa (decide (0<=sG)) (
 aa (Nat.blt (sG.toNat) gE.length) (
 aa (Nat.beq (sG.toNat) (sG.toNat)) (
 Q1 (gE[sG.toNat]?) fun Em =>
 cE d iM iC dO gh 1 Cm.1 (gE.set (sG.toNat) (sy++[gh]))) none) none) none) none) none) none)) none) none) none) none)) none) (
 uY dO iC gE)) s.1 s.2.1 s.2.2
noncomputable def lB (d:Nat) (x1:t2) (r3:t0) (uZ:(List Int)->(List (List t4))->Option t8) (Et:t12->Option t8) (s:t12):Option t8 :=
(fun (l10:List Int) iL (En:List (List t4)) =>
 aa (decide (iL < (x1.2.2.1.length:Int))) (
 aa (decide (0<=iL)) (
 Q1 (x1.2.2.1[iL.toNat]?) fun gk =>
 Q9 (lA d r3 gk (wY d Et iL)) Qd (l10,0,En)) none) (
 uZ l10 En)) s.1 s.2.1 s.2.2
noncomputable def wZ (d:Nat) (x1:t2) (r3:t0) (r5 l7 l8:List Int):Option t8 :=
 Q9 (lB d x1 r3 (pg d x1 r3 l7 l8)) Qd (([]:List Int),0,(List.replicate ((r5.length:Int).toNat) ([]:List t4)))
noncomputable def cD (d:Nat) (x1:t2) (fU:t16->Option t8) (n7:Int) (l8 l9:List Int) (aR:t1) (iL:Int):Option t8 :=
 aa (decide (iL>=0)) (
 aa (decide (0<=iL)) (
 Q1 (x1.2.1.1[iL.toNat]?) fun tY =>
 aa (decide (0<=n7)) (
 aa (Nat.blt (n7.toNat) l8.length) (
 Q1 (l8[n7.toNat]?) fun j9 =>
 aa (decide (0<=iL)) (
 Q1 (x1.2.1.2[iL.toNat]?) fun nM =>
 aa (decide (0<=n7)) (
 aa (Nat.blt (n7.toNat) l9.length) (
 Q1 (l9[n7.toNat]?) fun gT =>
 fU ((i64.wrap (n7+1)),(l8.set (n7.toNat) (if aR.2.2.2.2.1 < tY then aR.2.2.2.2.1 else tY)),(l9.set (n7.toNat) (if aR.2.2.2.2.2.1 < nM then aR.2.2.2.2.2.1 else nM)))) none) none) none) none) none) none) (
 fU ((i64.wrap (n7+1)),l8,l9))
noncomputable def qQ (d:Nat) (x1:t2) (fU:t16->Option t8) (n7:Int) (l8 l9:List Int) (aR:t1) (tY:Int):Option t8 :=
 cD d x1 fU n7 l8 l9 aR (-1)
noncomputable def ga (d:Nat) (x1:t2) (fU:t16->Option t8) (n7:Int) (l8 l9:List Int) (aR:t1) (kn:Int->Option t8) (U5:t10->Option t8) (s:t10):Option t8 :=
(fun tY j9 =>
 aa (decide (j9 < (x1.1.2.1.length:Int))) (
 aa (decide (0<=j9)) (
 Q1 (x1.1.2.1[j9.toNat]?) fun m_ =>
 aa (m_.1==aR.1) (
 cD d x1 fU n7 l8 l9 aR j9) (
 U5 (tY,(i64.wrap (j9+1))))) none) (
 kn tY)) s.1 s.2
noncomputable def lz (d:Nat) (x1:t2) (r3:t0) (u9:(List Int)->(List Int)->Option t8) (fU:t16->Option t8) (s:t16):Option t8 :=
(fun n7 (l8:List Int) (l9:List Int) =>
 aa (decide (n7 < (r3.2.1.length:Int))) (
 aa (decide (0<=n7)) (
 aa (Nat.blt (n7.toNat) r3.2.1.length) (
 Q1 (r3.2.1[n7.toNat]?) fun aR =>
 Q9 (ga d x1 fU n7 l8 l9 aR (qQ d x1 fU n7 l8 l9 aR)) Qd (0,0)) none) none) (
 u9 l8 l9)) s.1 s.2.1 s.2.2
theorem Sz (d:Nat) (x1:t2) (x2:t3):FV (d+3) x1 x2 =
 Q1 (Cv (d+2) x2) fun r3 =>
 Q1 (Hh (d+2) r3) fun r4 =>
 Q1 (nR (d+2) r3) fun r5 =>
 aa (decide (0<=(r5.length:Int))) (
 aa (decide (0<=(r5.length:Int))) (
 aa (Nat.ble ((r5.length:Int).toNat) ((r5.length:Int).toNat)&&Nat.ble (((r5.length:Int).toNat)*24) Q7) (
 Q9 (lz d x1 r3 (wZ d x1 r3 r5)) Qd (0,r4.1,r4.2)) none) none) none:=by kernel_rfl
noncomputable def w9 (d:Nat) (x1:t2) (x2:t3) (b3:Bool):Option t14 :=
 aa b3 (
 some ((((⟨#[]⟩:ByteArray),[],[],[],[],[],[],[],0),([],[]),[],0,0),[],false)) (
 Q1 (FV d x1 x2) fun r4 =>
 some (r4.1,r4.2,true))
theorem e72 (d:Nat) (x1:t2) (x2:t3):O0 (d+1) x1 x2 =
 Q1 (Pd d x1) fun r3 =>
 aa (!r3) (
 w9 d x1 x2 true) (
 Q1 (Jn d x2) fun r4 =>
 w9 d x1 x2 (!r4)):=by kernel_rfl
theorem e17 (d:Nat) (x1:t2) (n2:Int):g17 (d+3) x1 n2 =
 Q1 (Pd (d+1) x1) fun r3 =>
 aa (!r3) (
 some ((((⟨#[]⟩:ByteArray),[],[],[],[],[],[],[],0),([],[]),[],0,0),[],false)) (
 Q1 (LK (d+1) x1.1) fun r4 =>
 Q1 (SW d r4 n2) fun r5 =>
 aa (!r5.2) (
 some ((((⟨#[]⟩:ByteArray),[],[],[],[],[],[],[],0),([],[]),[],0,0),[],false)) (
 Q1 (O0 (d+1) x1 r5.1) fun r6 =>
 some (r6.1,r6.2.1,r6.2.2))):=by kernel_rfl
noncomputable def zS (d:Nat) (n4:Int) (l5:List t1):Option t13 :=
 some (n4,l5)
noncomputable def sH (d:Nat) (zT:Int->(List t1)->Option t13) (bP:(Int×Int×(List t1))->Option t13) (s:(Int×Int×(List t1))):Option t13 :=
(fun n4 n5 (l6:List t1) =>
 aa (decide (n5 < (l6.length:Int))) (
 aa (decide (0<=n5)) (
 aa (Nat.blt (n5.toNat) l6.length) (
 Q1 (l6[n5.toNat]?) fun x7 =>
 aa (decide (0<=n5)) (
 aa (Nat.blt (n5.toNat) ((l6.set (n5.toNat) (n4,x7.2)).length)) (
 Q1 ((l6.set (n5.toNat) (n4,x7.2))[n5.toNat]?) fun x8 =>
 aa (decide (0<=n5)) (
 aa (Nat.blt (n5.toNat) (((l6.set (n5.toNat) (n4,x7.2)).set (n5.toNat) (x8.1,(i64.wrap (n4+1)),x8.2.2)).length)) (
 Q1 (((l6.set (n5.toNat) (n4,x7.2)).set (n5.toNat) (x8.1,(i64.wrap (n4+1)),x8.2.2))[n5.toNat]?) fun x9 =>
 aa (decide (0<=n5)) (
 aa (Nat.blt (n5.toNat) ((((l6.set (n5.toNat) (n4,x7.2)).set (n5.toNat) (x8.1,(i64.wrap (n4+1)),x8.2.2)).set (n5.toNat) (x9.1,x9.2.1,(i64.wrap ((i64.wrap (n4+1))+1)),x9.2.2.2)).length)) (
 Q1 ((((l6.set (n5.toNat) (n4,x7.2)).set (n5.toNat) (x8.1,(i64.wrap (n4+1)),x8.2.2)).set (n5.toNat) (x9.1,x9.2.1,(i64.wrap ((i64.wrap (n4+1))+1)),x9.2.2.2))[n5.toNat]?) fun aR =>
 aa (decide (0<=n5)) (
 aa (Nat.blt (n5.toNat) (((((l6.set (n5.toNat) (n4,x7.2)).set (n5.toNat) (x8.1,(i64.wrap (n4+1)),x8.2.2)).set (n5.toNat) (x9.1,x9.2.1,(i64.wrap ((i64.wrap (n4+1))+1)),x9.2.2.2)).set (n5.toNat) (aR.1,aR.2.1,aR.2.2.1,(i64.wrap ((i64.wrap ((i64.wrap (n4+1))+1))+1)),aR.2.2.2.2)).length)) (
 Q1 (((((l6.set (n5.toNat) (n4,x7.2)).set (n5.toNat) (x8.1,(i64.wrap (n4+1)),x8.2.2)).set (n5.toNat) (x9.1,x9.2.1,(i64.wrap ((i64.wrap (n4+1))+1)),x9.2.2.2)).set (n5.toNat) (aR.1,aR.2.1,aR.2.2.1,(i64.wrap ((i64.wrap ((i64.wrap (n4+1))+1))+1)),aR.2.2.2.2))[n5.toNat]?) fun bH =>
 aa (decide (0<=n5)) (
 aa (Nat.blt (n5.toNat) ((((((l6.set (n5.toNat) (n4,x7.2)).set (n5.toNat) (x8.1,(i64.wrap (n4+1)),x8.2.2)).set (n5.toNat) (x9.1,x9.2.1,(i64.wrap ((i64.wrap (n4+1))+1)),x9.2.2.2)).set (n5.toNat) (aR.1,aR.2.1,aR.2.2.1,(i64.wrap ((i64.wrap ((i64.wrap (n4+1))+1))+1)),aR.2.2.2.2)).set (n5.toNat) (bH.1,bH.2.1,bH.2.2.1,bH.2.2.2.1,(i64.wrap ((i64.wrap ((i64.wrap ((i64.wrap (n4+1))+1))+1))+1)),bH.2.2.2.2.2)).length)) (
 Q1 ((((((l6.set (n5.toNat) (n4,x7.2)).set (n5.toNat) (x8.1,(i64.wrap (n4+1)),x8.2.2)).set (n5.toNat) (x9.1,x9.2.1,(i64.wrap ((i64.wrap (n4+1))+1)),x9.2.2.2)).set (n5.toNat) (aR.1,aR.2.1,aR.2.2.1,(i64.wrap ((i64.wrap ((i64.wrap (n4+1))+1))+1)),aR.2.2.2.2)).set (n5.toNat) (bH.1,bH.2.1,bH.2.2.1,bH.2.2.2.1,(i64.wrap ((i64.wrap ((i64.wrap ((i64.wrap (n4+1))+1))+1))+1)),bH.2.2.2.2.2))[n5.toNat]?) fun dI =>
 aa (decide (0<=n5)) (
 aa (Nat.blt (n5.toNat) (((((((l6.set (n5.toNat) (n4,x7.2)).set (n5.toNat) (x8.1,(i64.wrap (n4+1)),x8.2.2)).set (n5.toNat) (x9.1,x9.2.1,(i64.wrap ((i64.wrap (n4+1))+1)),x9.2.2.2)).set (n5.toNat) (aR.1,aR.2.1,aR.2.2.1,(i64.wrap ((i64.wrap ((i64.wrap (n4+1))+1))+1)),aR.2.2.2.2)).set (n5.toNat) (bH.1,bH.2.1,bH.2.2.1,bH.2.2.2.1,(i64.wrap ((i64.wrap ((i64.wrap ((i64.wrap (n4+1))+1))+1))+1)),bH.2.2.2.2.2)).set (n5.toNat) (dI.1,dI.2.1,dI.2.2.1,dI.2.2.2.1,dI.2.2.2.2.1,(i64.wrap ((i64.wrap ((i64.wrap ((i64.wrap ((i64.wrap (n4+1))+1))+1))+1))+1)),dI.2.2.2.2.2.2)).length)) (
 Q1 (((((((l6.set (n5.toNat) (n4,x7.2)).set (n5.toNat) (x8.1,(i64.wrap (n4+1)),x8.2.2)).set (n5.toNat) (x9.1,x9.2.1,(i64.wrap ((i64.wrap (n4+1))+1)),x9.2.2.2)).set (n5.toNat) (aR.1,aR.2.1,aR.2.2.1,(i64.wrap ((i64.wrap ((i64.wrap (n4+1))+1))+1)),aR.2.2.2.2)).set (n5.toNat) (bH.1,bH.2.1,bH.2.2.1,bH.2.2.2.1,(i64.wrap ((i64.wrap ((i64.wrap ((i64.wrap (n4+1))+1))+1))+1)),bH.2.2.2.2.2)).set (n5.toNat) (dI.1,dI.2.1,dI.2.2.1,dI.2.2.2.1,dI.2.2.2.2.1,(i64.wrap ((i64.wrap ((i64.wrap ((i64.wrap ((i64.wrap (n4+1))+1))+1))+1))+1)),dI.2.2.2.2.2.2))[n5.toNat]?) fun fm =>
 aa (decide (0<=n5)) (
 aa (Nat.blt (n5.toNat) ((((((((l6.set (n5.toNat) (n4,x7.2)).set (n5.toNat) (x8.1,(i64.wrap (n4+1)),x8.2.2)).set (n5.toNat) (x9.1,x9.2.1,(i64.wrap ((i64.wrap (n4+1))+1)),x9.2.2.2)).set (n5.toNat) (aR.1,aR.2.1,aR.2.2.1,(i64.wrap ((i64.wrap ((i64.wrap (n4+1))+1))+1)),aR.2.2.2.2)).set (n5.toNat) (bH.1,bH.2.1,bH.2.2.1,bH.2.2.2.1,(i64.wrap ((i64.wrap ((i64.wrap ((i64.wrap (n4+1))+1))+1))+1)),bH.2.2.2.2.2)).set (n5.toNat) (dI.1,dI.2.1,dI.2.2.1,dI.2.2.2.1,dI.2.2.2.2.1,(i64.wrap ((i64.wrap ((i64.wrap ((i64.wrap ((i64.wrap (n4+1))+1))+1))+1))+1)),dI.2.2.2.2.2.2)).set (n5.toNat) (fm.1,fm.2.1,fm.2.2.1,fm.2.2.2.1,fm.2.2.2.2.1,fm.2.2.2.2.2.1,(i64.wrap ((i64.wrap ((i64.wrap ((i64.wrap ((i64.wrap ((i64.wrap (n4+1))+1))+1))+1))+1))+1)),fm.2.2.2.2.2.2.2)).length)) (
 Q1 ((((((((l6.set (n5.toNat) (n4,x7.2)).set (n5.toNat) (x8.1,(i64.wrap (n4+1)),x8.2.2)).set (n5.toNat) (x9.1,x9.2.1,(i64.wrap ((i64.wrap (n4+1))+1)),x9.2.2.2)).set (n5.toNat) (aR.1,aR.2.1,aR.2.2.1,(i64.wrap ((i64.wrap ((i64.wrap (n4+1))+1))+1)),aR.2.2.2.2)).set (n5.toNat) (bH.1,bH.2.1,bH.2.2.1,bH.2.2.2.1,(i64.wrap ((i64.wrap ((i64.wrap ((i64.wrap (n4+1))+1))+1))+1)),bH.2.2.2.2.2)).set (n5.toNat) (dI.1,dI.2.1,dI.2.2.1,dI.2.2.2.1,dI.2.2.2.2.1,(i64.wrap ((i64.wrap ((i64.wrap ((i64.wrap ((i64.wrap (n4+1))+1))+1))+1))+1)),dI.2.2.2.2.2.2)).set (n5.toNat) (fm.1,fm.2.1,fm.2.2.1,fm.2.2.2.1,fm.2.2.2.2.1,fm.2.2.2.2.2.1,(i64.wrap ((i64.wrap ((i64.wrap ((i64.wrap ((i64.wrap ((i64.wrap (n4+1))+1))+1))+1))+1))+1)),fm.2.2.2.2.2.2.2))[n5.toNat]?) fun m_ =>
 bP ((i64.wrap ((i64.wrap ((i64.wrap ((i64.wrap ((i64.wrap ((i64.wrap ((i64.wrap ((i64.wrap (n4+1))+1))+1))+1))+1))+1))+1))+1)),(i64.wrap (n5+1)),((((((((l6.set (n5.toNat) (n4,x7.2)).set (n5.toNat) (x8.1,(i64.wrap (n4+1)),x8.2.2)).set (n5.toNat) (x9.1,x9.2.1,(i64.wrap ((i64.wrap (n4+1))+1)),x9.2.2.2)).set (n5.toNat) (aR.1,aR.2.1,aR.2.2.1,(i64.wrap ((i64.wrap ((i64.wrap (n4+1))+1))+1)),aR.2.2.2.2)).set (n5.toNat) (bH.1,bH.2.1,bH.2.2.1,bH.2.2.2.1,(i64.wrap ((i64.wrap ((i64.wrap ((i64.wrap (n4+1))+1))+1))+1)),bH.2.2.2.2.2)).set (n5.toNat) (dI.1,dI.2.1,dI.2.2.1,dI.2.2.2.1,dI.2.2.2.2.1,(i64.wrap ((i64.wrap ((i64.wrap ((i64.wrap ((i64.wrap (n4+1))+1))+1))+1))+1)),dI.2.2.2.2.2.2)).set (n5.toNat) (fm.1,fm.2.1,fm.2.2.1,fm.2.2.2.1,fm.2.2.2.2.1,fm.2.2.2.2.2.1,(i64.wrap ((i64.wrap ((i64.wrap ((i64.wrap ((i64.wrap ((i64.wrap (n4+1))+1))+1))+1))+1))+1)),fm.2.2.2.2.2.2.2)).set (n5.toNat) (m_.1,m_.2.1,m_.2.2.1,m_.2.2.2.1,m_.2.2.2.2.1,m_.2.2.2.2.2.1,m_.2.2.2.2.2.2.1,(i64.wrap ((i64.wrap ((i64.wrap ((i64.wrap ((i64.wrap ((i64.wrap ((i64.wrap (n4+1))+1))+1))+1))+1))+1))+1)))))) none) none) none) none) none) none) none) none) none) none) none) none) none) none) none) none) (
 zT n4 l6)) s.1 s.2.1 s.2.2
theorem e81 (d:Nat) (l1:List t1) (n2:Int):Pe (d+1) l1 n2 =
 Q9 (sH d (zS d)) Qd (n2,0,l1):=by kernel_rfl
noncomputable def zU (d:Nat) (n4:Int) (l5:List t5):Option (Int×(List t5)) :=
 some (n4,l5)
noncomputable def sI (d:Nat) (zV:Int->(List t5)->Option (Int×(List t5))) (bP:(Int×Int×(List t5))->Option (Int×(List t5))) (s:(Int×Int×(List t5))):Option (Int×(List t5)) :=
(fun n4 n5 (l6:List t5) =>
 aa (decide (n5 < (l6.length:Int))) (
 aa (decide (0<=n5)) (
 aa (Nat.blt (n5.toNat) l6.length) (
 Q1 (l6[n5.toNat]?) fun x7 =>
 aa (decide (0<=n5)) (
 aa (Nat.blt (n5.toNat) ((l6.set (n5.toNat) (n4,x7.2)).length)) (
 Q1 ((l6.set (n5.toNat) (n4,x7.2))[n5.toNat]?) fun x8 =>
 aa (decide (0<=n5)) (
 aa (Nat.blt (n5.toNat) (((l6.set (n5.toNat) (n4,x7.2)).set (n5.toNat) (x8.1,(i64.wrap (n4+1)),x8.2.2)).length)) (
 Q1 (((l6.set (n5.toNat) (n4,x7.2)).set (n5.toNat) (x8.1,(i64.wrap (n4+1)),x8.2.2))[n5.toNat]?) fun x9 =>
 aa (decide (0<=n5)) (
 aa (Nat.blt (n5.toNat) ((((l6.set (n5.toNat) (n4,x7.2)).set (n5.toNat) (x8.1,(i64.wrap (n4+1)),x8.2.2)).set (n5.toNat) (x9.1,x9.2.1,(i64.wrap ((i64.wrap (n4+1))+1)),x9.2.2.2)).length)) (
 Q1 ((((l6.set (n5.toNat) (n4,x7.2)).set (n5.toNat) (x8.1,(i64.wrap (n4+1)),x8.2.2)).set (n5.toNat) (x9.1,x9.2.1,(i64.wrap ((i64.wrap (n4+1))+1)),x9.2.2.2))[n5.toNat]?) fun aR =>
 aa (decide (0<=n5)) (
 aa (Nat.blt (n5.toNat) (((((l6.set (n5.toNat) (n4,x7.2)).set (n5.toNat) (x8.1,(i64.wrap (n4+1)),x8.2.2)).set (n5.toNat) (x9.1,x9.2.1,(i64.wrap ((i64.wrap (n4+1))+1)),x9.2.2.2)).set (n5.toNat) (aR.1,aR.2.1,aR.2.2.1,(i64.wrap ((i64.wrap ((i64.wrap (n4+1))+1))+1)),aR.2.2.2.2)).length)) (
 Q1 (((((l6.set (n5.toNat) (n4,x7.2)).set (n5.toNat) (x8.1,(i64.wrap (n4+1)),x8.2.2)).set (n5.toNat) (x9.1,x9.2.1,(i64.wrap ((i64.wrap (n4+1))+1)),x9.2.2.2)).set (n5.toNat) (aR.1,aR.2.1,aR.2.2.1,(i64.wrap ((i64.wrap ((i64.wrap (n4+1))+1))+1)),aR.2.2.2.2))[n5.toNat]?) fun bH =>
 bP ((i64.wrap ((i64.wrap ((i64.wrap ((i64.wrap ((i64.wrap (n4+1))+1))+1))+1))+1)),(i64.wrap (n5+1)),(((((l6.set (n5.toNat) (n4,x7.2)).set (n5.toNat) (x8.1,(i64.wrap (n4+1)),x8.2.2)).set (n5.toNat) (x9.1,x9.2.1,(i64.wrap ((i64.wrap (n4+1))+1)),x9.2.2.2)).set (n5.toNat) (aR.1,aR.2.1,aR.2.2.1,(i64.wrap ((i64.wrap ((i64.wrap (n4+1))+1))+1)),aR.2.2.2.2)).set (n5.toNat) (bH.1,bH.2.1,bH.2.2.1,bH.2.2.2.1,(i64.wrap ((i64.wrap ((i64.wrap ((i64.wrap (n4+1))+1))+1))+1)))))) none) none) none) none) none) none) none) none) none) none) (
 zV n4 l6)) s.1 s.2.1 s.2.2
theorem e82 (d:Nat) (l1:List t5) (n2:Int):Pf (d+1) l1 n2 =
 Q9 (sI d (zU d)) Qd (n2,0,l1):=by kernel_rfl
noncomputable def zW (d:Nat) (n4:Int) (l5:List t4):Option (Int×(List t4)) :=
 some (n4,l5)
noncomputable def sJ (d:Nat) (zX:Int->(List t4)->Option (Int×(List t4))) (bP:(Int×Int×(List t4))->Option (Int×(List t4))) (s:(Int×Int×(List t4))):Option (Int×(List t4)) :=
(fun n4 n5 (l6:List t4) =>
 aa (decide (n5 < (l6.length:Int))) (
 aa (decide (0<=n5)) (
 aa (Nat.blt (n5.toNat) l6.length) (
 Q1 (l6[n5.toNat]?) fun x7 =>
 aa (decide (0<=n5)) (
 aa (Nat.blt (n5.toNat) ((l6.set (n5.toNat) (n4,x7.2)).length)) (
 Q1 ((l6.set (n5.toNat) (n4,x7.2))[n5.toNat]?) fun x8 =>
 aa (decide (0<=n5)) (
 aa (Nat.blt (n5.toNat) (((l6.set (n5.toNat) (n4,x7.2)).set (n5.toNat) (x8.1,(i64.wrap (n4+1)),x8.2.2)).length)) (
 Q1 (((l6.set (n5.toNat) (n4,x7.2)).set (n5.toNat) (x8.1,(i64.wrap (n4+1)),x8.2.2))[n5.toNat]?) fun x9 =>
 aa (decide (0<=n5)) (
 aa (Nat.blt (n5.toNat) ((((l6.set (n5.toNat) (n4,x7.2)).set (n5.toNat) (x8.1,(i64.wrap (n4+1)),x8.2.2)).set (n5.toNat) (x9.1,x9.2.1,(i64.wrap ((i64.wrap (n4+1))+1)),x9.2.2.2)).length)) (
 Q1 ((((l6.set (n5.toNat) (n4,x7.2)).set (n5.toNat) (x8.1,(i64.wrap (n4+1)),x8.2.2)).set (n5.toNat) (x9.1,x9.2.1,(i64.wrap ((i64.wrap (n4+1))+1)),x9.2.2.2))[n5.toNat]?) fun aR =>
 aa (decide (0<=n5)) (
 aa (Nat.blt (n5.toNat) (((((l6.set (n5.toNat) (n4,x7.2)).set (n5.toNat) (x8.1,(i64.wrap (n4+1)),x8.2.2)).set (n5.toNat) (x9.1,x9.2.1,(i64.wrap ((i64.wrap (n4+1))+1)),x9.2.2.2)).set (n5.toNat) (aR.1,aR.2.1,aR.2.2.1,(i64.wrap ((i64.wrap ((i64.wrap (n4+1))+1))+1)),aR.2.2.2.2)).length)) (
 Q1 (((((l6.set (n5.toNat) (n4,x7.2)).set (n5.toNat) (x8.1,(i64.wrap (n4+1)),x8.2.2)).set (n5.toNat) (x9.1,x9.2.1,(i64.wrap ((i64.wrap (n4+1))+1)),x9.2.2.2)).set (n5.toNat) (aR.1,aR.2.1,aR.2.2.1,(i64.wrap ((i64.wrap ((i64.wrap (n4+1))+1))+1)),aR.2.2.2.2))[n5.toNat]?) fun bH =>
 aa (decide (0<=n5)) (
 aa (Nat.blt (n5.toNat) ((((((l6.set (n5.toNat) (n4,x7.2)).set (n5.toNat) (x8.1,(i64.wrap (n4+1)),x8.2.2)).set (n5.toNat) (x9.1,x9.2.1,(i64.wrap ((i64.wrap (n4+1))+1)),x9.2.2.2)).set (n5.toNat) (aR.1,aR.2.1,aR.2.2.1,(i64.wrap ((i64.wrap ((i64.wrap (n4+1))+1))+1)),aR.2.2.2.2)).set (n5.toNat) (bH.1,bH.2.1,bH.2.2.1,bH.2.2.2.1,(i64.wrap ((i64.wrap ((i64.wrap ((i64.wrap (n4+1))+1))+1))+1)),bH.2.2.2.2.2)).length)) (
 Q1 ((((((l6.set (n5.toNat) (n4,x7.2)).set (n5.toNat) (x8.1,(i64.wrap (n4+1)),x8.2.2)).set (n5.toNat) (x9.1,x9.2.1,(i64.wrap ((i64.wrap (n4+1))+1)),x9.2.2.2)).set (n5.toNat) (aR.1,aR.2.1,aR.2.2.1,(i64.wrap ((i64.wrap ((i64.wrap (n4+1))+1))+1)),aR.2.2.2.2)).set (n5.toNat) (bH.1,bH.2.1,bH.2.2.1,bH.2.2.2.1,(i64.wrap ((i64.wrap ((i64.wrap ((i64.wrap (n4+1))+1))+1))+1)),bH.2.2.2.2.2))[n5.toNat]?) fun dI =>
 bP ((i64.wrap ((i64.wrap ((i64.wrap ((i64.wrap ((i64.wrap ((i64.wrap (n4+1))+1))+1))+1))+1))+1)),(i64.wrap (n5+1)),((((((l6.set (n5.toNat) (n4,x7.2)).set (n5.toNat) (x8.1,(i64.wrap (n4+1)),x8.2.2)).set (n5.toNat) (x9.1,x9.2.1,(i64.wrap ((i64.wrap (n4+1))+1)),x9.2.2.2)).set (n5.toNat) (aR.1,aR.2.1,aR.2.2.1,(i64.wrap ((i64.wrap ((i64.wrap (n4+1))+1))+1)),aR.2.2.2.2)).set (n5.toNat) (bH.1,bH.2.1,bH.2.2.1,bH.2.2.2.1,(i64.wrap ((i64.wrap ((i64.wrap ((i64.wrap (n4+1))+1))+1))+1)),bH.2.2.2.2.2)).set (n5.toNat) (dI.1,dI.2.1,dI.2.2.1,dI.2.2.2.1,dI.2.2.2.2.1,(i64.wrap ((i64.wrap ((i64.wrap ((i64.wrap ((i64.wrap (n4+1))+1))+1))+1))+1)))))) none) none) none) none) none) none) none) none) none) none) none) none) (
 zX n4 l6)) s.1 s.2.1 s.2.2
theorem e83 (d:Nat) (l1:List t4) (n2:Int):LW (d+1) l1 n2 =
 Q9 (sJ d (zW d)) Qd (n2,0,l1):=by kernel_rfl
noncomputable def Ca (d:Nat) (r7:t14) (pn:t13) (Cz oL CA zG:t11) (uE:(Int×(List t5))) (zH uD CC:t11) (iV:List (List t4)) (Ew:t11) (b41:Bool):Option Bool :=
 aa b41 (
 some false) (
 Q1 (g14 (d+2) ((r7.1.1.1,pn.2,Cz.2,oL.2,CA.2,zG.2,uE.2,zH.2,r7.1.1.2.2.2.2.2.2.2.2),(uD.2,CC.2),iV,r7.1.2.2.2) 1) fun Pg =>
 aa (decide (Pg < 0)) (
 some false) (
 Q1 (g15 (d+2) Ew.2 Pg) fun r43 =>
 aa (decide (r43 < 0)) (
 some false) (
 aa (r43 != Ew.1) (
 some false) (
 some true))))
noncomputable def jn (d:Nat) (x1:t2) (n2:Int) (r5 r7:t14) (pn:t13) (Cz oL CA zG:t11) (uE:(Int×(List t5))) (zH uD CC:t11) (LG:Int) (iV:List (List t4)):Option Bool :=
 Q1 (g13 (d+2) r7.2.1 LG) fun Ew =>
 Q1 (g14 (d+2) ((r7.1.1.1,pn.2,Cz.2,oL.2,CA.2,zG.2,uE.2,zH.2,r7.1.1.2.2.2.2.2.2.2.2),(uD.2,CC.2),iV,r7.1.2.2.2) 1) fun LI =>
 aa (decide (LI < 0)) (
 some false) (
 Q1 (g15 (d+2) Ew.2 LI) fun r38 =>
 aa (decide (r38 < 0)) (
 some false) (
 aa (r38 != Ew.1) (
 some false) (
 Q1 (g8 (d+2) x1) fun Ph =>
 Q1 (g17 (d+2) Ph n2) fun U6 =>
 Q1 (g10 (d+2) U6.1 r5.1) fun r41 =>
 aa (!r41) (
 Ca d r7 pn Cz oL CA zG uE zH uD CC iV Ew true) (
 Q1 (g11 (d+2) U6.2.1 r5.2.1) fun Pg =>
 aa (!Pg) (
 Ca d r7 pn Cz oL CA zG uE zH uD CC iV Ew true) (
 Ca d r7 pn Cz oL CA zG uE zH uD CC iV Ew (!(U6.2.2==r5.2.2)))))))
noncomputable def qR (d:Nat) (ez:Int->(List (List t4))->Option Bool) (U7:(Int×Int×(List (List t4)))->Option Bool) (s:(Int×Int×(List (List t4)))):Option Bool :=
(fun LG Hi (mz:List (List t4)) =>
 aa (decide (Hi < (mz.length:Int))) (
 aa (decide (0<=Hi)) (
 aa (Nat.blt (Hi.toNat) mz.length) (
 Q1 (mz[Hi.toNat]?) fun Jm =>
 Q1 (mz[Hi.toNat]?) fun sD =>
 aa (Nat.beq sD.length Jm.length) (
 Q1 (LW d Jm LG) fun Ph =>
 U7 (Ph.1,(i64.wrap (Hi+1)),(mz.set (Hi.toNat) Ph.2))) none) none) none) (
 ez LG mz)) s.1 s.2.1 s.2.2
noncomputable def xq (d:Nat) (x1:t2) (n2:Int) (r5 r7:t14) (b23:Bool):Option Bool :=
 aa b23 (
 some false) (
 Q1 (Pe d r7.1.1.2.1 1) fun pn =>
 Q1 (g13 d r7.1.1.2.2.1 pn.1) fun Cz =>
 Q1 (g13 d r7.1.1.2.2.2.1 Cz.1) fun oL =>
 Q1 (g13 d r7.1.1.2.2.2.2.1 oL.1) fun CA =>
 Q1 (g13 d r7.1.1.2.2.2.2.2.1 CA.1) fun zG =>
 Q1 (Pf d r7.1.1.2.2.2.2.2.2.1 zG.1) fun uE =>
 Q1 (g13 d r7.1.1.2.2.2.2.2.2.2.1 uE.1) fun zH =>
 Q1 (g13 d r7.1.2.1.1 zH.1) fun uD =>
 Q1 (g13 d r7.1.2.1.2 uD.1) fun CC =>
 Q9 (qR d (jn d x1 n2 r5 r7 pn Cz oL CA zG uE zH uD CC)) Qd (CC.1,0,r7.1.2.2.1))
noncomputable def jm (d:Nat) (x1:t2) (n2:Int) (r5 r7:t14) (kM:Int) (El:List (List t4)):Option Bool :=
 aa (decide (kM < 0)) (
 xq d x1 n2 r5 r7 true) (
 Q1 (g10 (d+2) r7.1 r5.1) fun v7 =>
 aa (!v7) (
 xq d x1 n2 r5 r7 true) (
 Q1 (g11 (d+2) r7.2.1 r5.2.1) fun pn =>
 aa (!pn) (
 xq d x1 n2 r5 r7 true) (
 xq d x1 n2 r5 r7 (!(r7.2.2==r5.2.2)))))
noncomputable def nS (d:Nat) (ez:Int->(List (List t4))->Option Bool) (U8:(Int×Int×(List (List t4)))->Option Bool) (s:(Int×Int×(List (List t4)))):Option Bool :=
(fun kM Ce (vX:List (List t4)) =>
 aa (decide (Ce < (vX.length:Int))) (
 aa (decide (0<=Ce)) (
 aa (Nat.blt (Ce.toNat) vX.length) (
 Q1 (vX[Ce.toNat]?) fun sy =>
 Q1 (vX[Ce.toNat]?) fun Em =>
 aa (Nat.beq Em.length sy.length) (
 Q1 (LW d sy kM) fun oL =>
 U8 (oL.1,(i64.wrap (Ce+1)),(vX.set (Ce.toNat) oL.2))) none) none) none) (
 ez kM vX)) s.1 s.2.1 s.2.2
noncomputable def B9 (d:Nat) (x1:t2) (n2:Int) (r5:t14) (r6:t2) (r7:t14) (b8:Bool):Option Bool :=
 aa b8 (
 some false) (
 Q1 (g8 (d+2) x1) fun r9 =>
 Q1 (g10 (d+2) r6 r9) fun pN =>
 aa (!pN) (
 some false) (
 Q1 (Pe d r6.1.2.1 1) fun fe =>
 Q1 (g13 d r6.1.2.2.1 fe.1) fun jq =>
 Q1 (g13 d r6.1.2.2.2.1 jq.1) fun oP =>
 Q1 (g13 d r6.1.2.2.2.2.1 oP.1) fun iK =>
 Q1 (g13 d r6.1.2.2.2.2.2.1 iK.1) fun pI =>
 Q1 (Pf d r6.1.2.2.2.2.2.2.1 pI.1) fun pJ =>
 Q1 (g13 d r6.1.2.2.2.2.2.2.2.1 pJ.1) fun F9 =>
 Q1 (g13 d r6.2.1.1 F9.1) fun Ch =>
 Q1 (g13 d r6.2.1.2 Ch.1) fun vY =>
 Q9 (nS d (jm d x1 n2 r5 r7)) Qd (vY.1,0,r6.2.2.1)))
theorem e4 (d:Nat) (x1:t2) (n2:Int):g4 (d+3) x1 n2 =
 Q1 (g6 (d+2) x1 1048576) fun r3 =>
 aa (decide (r3 < 0)) (
 some true) (
 Q1 (g8 (d+2) x1) fun r4 =>
 Q1 (g16 (d+2) r4 n2) fun r5 =>
 Q1 (g8 (d+2) x1) fun r6 =>
 Q1 (g17 (d+2) r6 n2) fun r7 =>
 Q1 (g10 (d+2) r7.1 r5.1) fun r8 =>
 aa (!r8) (
 B9 d x1 n2 r5 r6 r7 true) (
 Q1 (g11 (d+2) r7.2.1 r5.2.1) fun r9 =>
 aa (!r9) (
 B9 d x1 n2 r5 r6 r7 true) (
 B9 d x1 n2 r5 r6 r7 (!(r7.2.2==r5.2.2))))):=by kernel_rfl
end Go.Proofs.YtcoimfbmgjhcjabGreatDoor
