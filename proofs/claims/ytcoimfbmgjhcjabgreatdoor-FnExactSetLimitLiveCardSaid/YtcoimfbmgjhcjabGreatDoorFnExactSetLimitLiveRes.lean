/-
  The residual forms of the program's functions under the interpreter by value, printed by program (wip/pv/gen2.py); each equation is checked by the kernel.
  Conditions: none.
-/
import Derived.Test.YtcoimfbmgjhcjabGreatDoorFnExactSetLimitLiveResA
import Derived.KernelRfl
set_option linter.all false
set_option maxRecDepth 1000000
namespace Go.Proofs.YtcoimfbmgjhcjabGreatDoor
open Go.Ev Go.Pv
open IntKind (i64 u64)
theorem e49 (d:Nat) (l1:List t1) (n2:Int):Sr (d+1) l1 n2 =
 aa (decide (((i64.wrap (n2 - (l1.length:Int))):Int) < 0)) (
 some (-1)) (
 some (i64.wrap (n2 - (l1.length:Int)))):=by kernel_rfl
theorem e50 (d:Nat) (l1:List Int) (n2:Int):BQ (d+1) l1 n2 =
 aa (decide (((i64.wrap (n2 - (l1.length:Int))):Int) < 0)) (
 some (-1)) (
 some (i64.wrap (n2 - (l1.length:Int)))):=by kernel_rfl
theorem e51 (d:Nat) (l1:List t5) (n2:Int):Ss (d+1) l1 n2 =
 aa (decide (((i64.wrap (n2 - (l1.length:Int))):Int) < 0)) (
 some (-1)) (
 some (i64.wrap (n2 - (l1.length:Int)))):=by kernel_rfl
theorem e21 (d:Nat) (x1:t0) (n2:Int):g21 (d+1) x1 n2 =
 aa (decide (((i64.wrap (n2 - (x1.1.size:Int))):Int) < 0)) (
 some (-1)) (
 Q1 (Sr d x1.2.1 (i64.wrap (n2 - (x1.1.size:Int)))) fun r3 =>
 aa (decide (r3 < 0)) (
 some (-1)) (
 Q1 (BQ d x1.2.2.1 r3) fun r4 =>
 aa (decide (r4 < 0)) (
 some (-1)) (
 Q1 (BQ d x1.2.2.2.1 r4) fun r5 =>
 aa (decide (r5 < 0)) (
 some (-1)) (
 Q1 (BQ d x1.2.2.2.2.1 r5) fun r6 =>
 aa (decide (r6 < 0)) (
 some (-1)) (
 Q1 (BQ d x1.2.2.2.2.2.1 r6) fun r7 =>
 aa (decide (r7 < 0)) (
 some (-1)) (
 Q1 (Ss d x1.2.2.2.2.2.2.1 r7) fun r8 =>
 aa (decide (r8 < 0)) (
 some (-1)) (
 Q1 (BQ d x1.2.2.2.2.2.2.2.1 r8) fun r9 =>
 aa (decide (r9 < 0)) (
 some (-1)) (
 some r9)))))))):=by kernel_rfl
theorem e22 (d:Nat) (x1:t7) (n2:Int):g22 (d+1) x1 n2 =
 Q1 (BQ d x1.1 n2) fun r3 =>
 aa (decide (r3 < 0)) (
 some (-1)) (
 Q1 (BQ d x1.2 r3) fun r4 =>
 aa (decide (r4 < 0)) (
 some (-1)) (
 some r4)):=by kernel_rfl
theorem e52 (d:Nat) (l1:List t4) (n2:Int):Y7 (d+1) l1 n2 =
 aa (decide (((i64.wrap (n2 - (l1.length:Int))):Int) < 0)) (
 some (-1)) (
 some (i64.wrap (n2 - (l1.length:Int)))):=by kernel_rfl
noncomputable def KG (d:Nat) (n4 n5:Int):Option Int :=
 some n4
noncomputable def w4 (d:Nat) (l1:List (List t4)) (w5:Int->Int->Option Int) (bM:(Int×Int×Int)->Option Int) (s:(Int×Int×Int)):Option Int :=
(fun n4 n5 n6 =>
 aa (decide (n6 < (l1.length:Int))) (
 aa (decide (0<=n6)) (
 Q1 (l1[n6.toNat]?) fun l7 =>
 Q1 (Y7 d l7 n4) fun r8 =>
 aa (decide (r8 < 0)) (
 some (-1)) (
 bM (r8,n5,(i64.wrap (n6+1))))) none) (
 w5 n4 n5)) s.1 s.2.1 s.2.2
theorem e23 (d:Nat) (l1:List (List t4)) (n2:Int):g23 (d+1) l1 n2 =
 aa (decide (((i64.wrap (n2 - (l1.length:Int))):Int) < 0)) (
 some (-1)) (
 Q9 (w4 d l1 (KG d)) Qd ((i64.wrap (n2 - (l1.length:Int))),0,0)):=by kernel_rfl
theorem e6 (d:Nat) (x1:t2) (n2:Int):g6 (d+1) x1 n2 =
 Q1 (g21 d x1.1 n2) fun r3 =>
 aa (decide (r3 < 0)) (
 some (-1)) (
 Q1 (g22 d x1.2.1 r3) fun r4 =>
 aa (decide (r4 < 0)) (
 some (-1)) (
 Q1 (g23 d x1.2.2.1 r4) fun r5 =>
 aa (decide (r5 < 0)) (
 some (-1)) (
 some r5))):=by kernel_rfl
theorem e55 (d:Nat) (n1 n2 n3:Int):je (d+1) n1 n2 n3 =
 aa (decide (n1>=n2)) (
 some (decide (n1<=n3))) (
 some false):=by kernel_rfl
noncomputable def rN (d:Nat) (l1:List t1) (x2:t1) (n4:Int):Option (List t1) :=
 aa (decide (0<=n4)) (
 aa (Nat.ble (n4.toNat) l1.length) (
 aa (Nat.ble ((([]:List t1).length+(l1.take (n4.toNat)).length)*64) Q7) (
 aa (Nat.ble (((([]:List t1)++(l1.take (n4.toNat))).length+[x2].length)*64) Q7) (
 aa (decide (0<=n4)) (
 aa (Nat.ble (n4.toNat) l1.length) (
 aa (Nat.ble ((((([]:List t1)++(l1.take (n4.toNat)))++[x2]).length+(l1.drop (n4.toNat)).length)*64) Q7) (
 some (((([]:List t1)++(l1.take (n4.toNat)))++[x2])++(l1.drop (n4.toNat)))) none) none) none) none) none) none) none
noncomputable def rO (d:Nat) (l1:List t1) (x2:t1) (nB bM:Int->Option (List t1)) (s:Int):Option (List t1) :=
(fun n4 =>
 aa (decide (n4 < (l1.length:Int))) (
 aa (decide (0<=n4)) (
 Q1 (l1[n4.toNat]?) fun x5 =>
 aa (decide (x5.1 < x2.1)) (
 bM (i64.wrap (n4+1))) (
 nB n4)) none) (
 nB n4)) s
theorem e64 (d:Nat) (l1:List t1) (x2:t1):Ox (d+1) l1 x2 =
 Q9 (rO d l1 x2 (rN d l1 x2)) Qd 0:=by kernel_rfl
noncomputable def w6 (d:Nat) (x1:t0) (s3:ByteArray) (n4:Int) (l5:List t1) (l6:List t5):Option t3 :=
 Q1 (je d x1.2.2.2.2.2.2.2.2 0 (i64.wrap ((x1.2.1.length:Int) - 1))) fun r7 =>
 aa r7 (
 aa (decide (0<=x1.2.2.2.2.2.2.2.2)) (
 Q1 (x1.2.1[x1.2.2.2.2.2.2.2.2.toNat]?) fun x8 =>
 some (s3,l5,l6,x8.1)) none) (
 some (s3,l5,l6,n4))
noncomputable def w7 (d:Nat) (x1:t0) (w8:ByteArray->Int->(List t1)->(List t5)->Option t3) (bV:(Int×t3)->Option t3) (s:(Int×t3)):Option t3 :=
(fun n3 (x4:t3) =>
 aa (decide (n3 < (x1.2.1.length:Int))) (
 aa (decide (0<=n3)) (
 Q1 (x1.2.1[n3.toNat]?) fun x5 =>
 Q1 (Ox d x4.2.1 x5) fun r6 =>
 bV ((i64.wrap (n3+1)),(x4.1,r6,x4.2.2))) none) (
 w8 x4.1 x4.2.2.2 x4.2.1 x4.2.2.1)) s.1 s.2
theorem e26 (d:Nat) (x1:t0):Oy (d+1) x1 =
 aa (Nat.ble ((([]:List t5).length+x1.2.2.2.2.2.2.1.length)*40) Q7) (
 Q9 (w7 d x1 (w6 d x1)) Qd (0,(x1.1,[],(([]:List t5)++x1.2.2.2.2.2.2.1),0))) none:=by kernel_rfl
noncomputable def KH (d:Nat) (n4:Int):Option Int :=
 some (-1)
noncomputable def w9 (d:Nat) (x1:t3) (n2:Int) (w_:Int->Option Int) (bM:t10->Option Int) (s:t10):Option Int :=
(fun n4 n5 =>
 aa (decide (n5 < (x1.2.1.length:Int))) (
 aa (decide (0<=n5)) (
 Q1 (x1.2.1[n5.toNat]?) fun x6 =>
 aa (x6.1==n2) (
 some n5) (
 bM (n4,(i64.wrap (n5+1))))) none) (
 w_ n4)) s.1 s.2
theorem e62 (d:Nat) (x1:t3) (n2:Int):DC (d+1) x1 n2 =
 Q9 (w9 d x1 n2 (KH d)) Qd (0,0):=by kernel_rfl
noncomputable def Fu (d:Nat) (l4:List Int):Option (List Int) :=
 some l4
noncomputable def oY (d:Nat) (x1:t3) (n2:Int) (tn:(List Int)->Option (List Int)) (bM:t15->Option (List Int)) (s:t15):Option (List Int) :=
(fun (l4:List Int) n5 =>
 aa (decide (n5 < (x1.2.1.length:Int))) (
 aa (decide (0<=n5)) (
 Q1 (x1.2.1[n5.toNat]?) fun x6 =>
 aa (decide (0<=n2)) (
 Q1 (x1.2.1[n2.toNat]?) fun x7 =>
 aa (x6.2.1==x7.1) (
 aa (Nat.ble ((l4.length+[n5].length)*8) Q7) (
 bM ((l4++[n5]),(i64.wrap (n5+1)))) none) (
 bM (l4,(i64.wrap (n5+1))))) none) none) (
 tn l4)) s.1 s.2
theorem Su (d:Nat) (x1:t3) (n2:Int):kZ (d+1) x1 n2 =
 Q9 (oY d x1 n2 (Fu d)) Qd ([],0):=by kernel_rfl
theorem e87 (d:Nat) (x1:t3) (n2:Int):IM (d+1) x1 n2 =
 Q1 (kZ d x1 n2) fun r3 =>
 some ((r3.length:Int)==0):=by kernel_rfl
theorem e60 (d:Nat) (x1:t3) (n2:Int):IN (d+1) x1 n2 =
 Q1 (DC d x1 n2) fun r3 =>
 aa (decide (r3>=0)) (
 Q1 (IM d x1 r3) fun r4 =>
 some r4) (
 some false):=by kernel_rfl
noncomputable def Fv (d:Nat) (b4:Bool):Option Bool :=
 some false
noncomputable def oZ (d:Nat) (l1:List ByteArray) (s2:ByteArray) (tq:Bool->Option Bool) (bM:t9->Option Bool) (s:t9):Option Bool :=
(fun (b4:Bool) n5 =>
 aa (decide (n5 < (l1.length:Int))) (
 aa (decide (0<=n5)) (
 Q1 (l1[n5.toNat]?) fun s6 =>
 aa (s6.toList==s2.toList) (
 some true) (
 bM (b4,(i64.wrap (n5+1))))) none) (
 tq b4)) s.1 s.2
theorem Sv (d:Nat) (l1:List ByteArray) (s2:ByteArray):KI (d+1) l1 s2 =
 Q9 (oZ d l1 s2 (Fv d)) Qd (false,0):=by kernel_rfl
theorem Sw (d:Nat):KJ (d+1) =
 some [(⟨#[113,100,105,115,99]⟩:ByteArray),(⟨#[100,101,102,97,117,108,116]⟩:ByteArray),(⟨#[99,108,97,115,115]⟩:ByteArray),(⟨#[114,97,116,101]⟩:ByteArray),(⟨#[99,101,105,108]⟩:ByteArray),(⟨#[98,117,114,115,116]⟩:ByteArray),(⟨#[99,98,117,114,115,116]⟩:ByteArray),(⟨#[112,114,105,111]⟩:ByteArray),(⟨#[108,105,109,105,116]⟩:ByteArray),(⟨#[102,105,108,116,101,114]⟩:ByteArray),(⟨#[115,111,117,114,99,101]⟩:ByteArray),(⟨#[100,101,115,116]⟩:ByteArray),(⟨#[112,111,114,116]⟩:ByteArray),(⟨#[109,97,114,107]⟩:ByteArray)]:=by kernel_rfl
theorem Sx (d:Nat) (s1:ByteArray):Fw (d+1) s1 =
 Q1 (KJ d) fun r2 =>
 Q1 (KI d r2 s1) fun r3 =>
 some r3:=by kernel_rfl
noncomputable def xd (d:Nat) (s1:ByteArray) (b3:Bool):Option Bool :=
 Q1 (je d (s1.size:Int) 1 8) fun r4 =>
 aa r4 (
 Q1 (Fw d s1) fun r5 =>
 some (!r5)) (
 some false)
noncomputable def xe (d:Nat) (s1:ByteArray) (xg:Bool->Option Bool) (bV:t9->Option Bool) (s:t9):Option Bool :=
(fun (b3:Bool) n4 =>
 aa (decide (n4 < (s1.size:Int))) (
 aa (decide (0<=n4)) (
 Q1 (s1.data.toList[n4.toNat]?) fun c5 =>
 aa (decide ((c5.toNat:Int) < 97)) (
 some false) (
 aa (decide (0<=n4)) (
 Q1 (s1.data.toList[n4.toNat]?) fun c6 =>
 aa (decide ((c6.toNat:Int) > 122)) (
 some false) (
 bV (b3,(i64.wrap (n4+1))))) none)) none) (
 xg b3)) s.1 s.2
theorem e95 (d:Nat) (s1:ByteArray):Sy (d+1) s1 =
 Q9 (xe d s1 (xd d s1)) Qd (false,0):=by kernel_rfl
theorem Sz (d:Nat) (x1:t1):Fx (d+1) x1 =
 Q1 (je d x1.1 1 999) fun r2 =>
 aa r2 (
 Q1 (je d x1.2.2.1 1 100000) fun r3 =>
 aa r3 (
 Q1 (je d x1.2.2.2.1 x1.2.2.1 100000) fun r4 =>
 aa r4 (
 Q1 (je d x1.2.2.2.2.1 1500 1000000) fun r5 =>
 aa r5 (
 Q1 (je d x1.2.2.2.2.2.1 1500 1000000) fun r6 =>
 aa r6 (
 Q1 (je d x1.2.2.2.2.2.2.1 0 7) fun r7 =>
 some r7) (
 some false)) (
 some false)) (
 some false)) (
 some false)) (
 some false):=by kernel_rfl
noncomputable def k_ (d:Nat) (l4:List Int):Option (List Int) :=
 some l4
noncomputable def ld (d:Nat) (fB:(List Int)->Option (List Int)) (x1:t3) (bM:t11->Option (List Int)) (n4:Int) (l5:List Int) (b6 b7:Bool):Option (List Int) :=
 aa b7 (
 aa (Nat.ble ((l5.length+[n4].length)*8) Q7) (
 aa (decide (0<=n4)) (
 Q1 (x1.2.1[n4.toNat]?) fun x8 =>
 Q1 (DC d x1 x8.2.1) fun r9 =>
 bM (r9,(l5++[n4]))) none) none) (
 fB l5)
noncomputable def lg (d:Nat) (x1:t3) (fB:(List Int)->Option (List Int)) (bM:t11->Option (List Int)) (s:t11):Option (List Int) :=
(fun n4 (l5:List Int) =>
 aa (decide (n4>=0)) (
 ld d fB x1 bM n4 l5 true (decide ((l5.length:Int)<=8))) (
 ld d fB x1 bM n4 l5 false false)) s.1 s.2
theorem SA (d:Nat) (x1:t3) (n2:Int):Fy (d+1) x1 n2 =
 Q9 (lg d x1 (k_ d)) Qd (n2,[]):=by kernel_rfl
noncomputable def Fz (d:Nat) (n6:Int):Option Int :=
 some n6
noncomputable def o5 (d:Nat) (x1:t3) (r4:List Int) (tu:Int->Option Int) (gW:t10->Option Int) (s:t10):Option Int :=
(fun n6 n7 =>
 aa (decide (n7 < (r4.length:Int))) (
 aa (decide (0<=n7)) (
 aa (Nat.blt (n7.toNat) r4.length) (
 Q1 (r4[n7.toNat]?) fun n8 =>
 aa (decide (0<=n8)) (
 Q1 (x1.2.1[n8.toNat]?) fun x9 =>
 gW ((i64.wrap (n6 - x9.2.2.1)),(i64.wrap (n7+1)))) none) none) none) (
 tu n6)) s.1 s.2
theorem SB (d:Nat) (x1:t3) (n2:Int):FA (d+1) x1 n2 =
 aa (decide (0<=n2)) (
 Q1 (x1.2.1[n2.toNat]?) fun x3 =>
 Q1 (kZ d x1 n2) fun r4 =>
 Q9 (o5 d x1 r4 (Fz d)) Qd (x3.2.2.1,0)) none:=by kernel_rfl
noncomputable def KK (d:Nat) (b6:Bool):Option Bool :=
 some true
noncomputable def kA (d:Nat) (gW:t9->Option Bool) (b6:Bool) (n7:Int) (b14 Y8 Y9 b17 Y_:Bool):Option Bool :=
 aa Y_ (
 some false) (
 gW (b6,(i64.wrap (n7+1))))
noncomputable def kB (d:Nat) (x1:t3) (gW:t9->Option Bool) (b6:Bool) (n7:Int) (x8:t1) (KL DD Oz vL:Bool):Option Bool :=
 aa vL (
 some false) (
 Q1 (IM d x1 n7) fun jJ =>
 aa jJ (
 Q1 (je d x8.2.2.2.2.2.2.2 1 60) fun vM =>
 aa (!vM) (
 kA d gW b6 n7 jJ true (!vM) true true) (
 Q1 (IM d x1 n7) fun o6 =>
 aa (!o6) (
 kA d gW b6 n7 jJ true (!vM) false (x8.2.2.2.2.2.2.2 != 0)) (
 kA d gW b6 n7 jJ true (!vM) false false))) (
 Q1 (IM d x1 n7) fun FB =>
 aa (!FB) (
 kA d gW b6 n7 jJ false false false (x8.2.2.2.2.2.2.2 != 0)) (
 kA d gW b6 n7 jJ false false false false)))
noncomputable def xh (d:Nat) (x1:t3) (xj:Bool->Option Bool) (gW:t9->Option Bool) (s:t9):Option Bool :=
(fun (b6:Bool) n7 =>
 aa (decide (n7 < (x1.2.1.length:Int))) (
 aa (decide (0<=n7)) (
 Q1 (x1.2.1[n7.toNat]?) fun x8 =>
 Q1 (Fy d x1 n7) fun r9 =>
 aa (decide ((r9.length:Int) > 8)) (
 kB d x1 gW b6 n7 x8 true true true true) (
 aa (decide (0<=((i64.wrap ((r9.length:Int) - 1)):Int))) (
 aa (Nat.blt (((i64.wrap ((r9.length:Int) - 1)):Int).toNat) r9.length) (
 Q1 (r9[((i64.wrap ((r9.length:Int) - 1)):Int).toNat]?) fun dW =>
 aa (decide (0<=dW)) (
 Q1 (x1.2.1[dW.toNat]?) fun bQ =>
 aa (bQ.2.1 != 0) (
 kB d x1 gW b6 n7 x8 false (bQ.2.1 != 0) true true) (
 Q1 (FA d x1 n7) fun mQ =>
 kB d x1 gW b6 n7 x8 false (bQ.2.1 != 0) false (decide (mQ < 0)))) none) none) none)) none) (
 xj b6)) s.1 s.2
noncomputable def xk (d:Nat) (x1:t3) (b3:Bool) (n4:Int):Option Bool :=
 aa (n4 != 1) (
 some false) (
 Q9 (xh d x1 (KK d)) Qd (b3,0))
noncomputable def rP (d:Nat) (bV:(Bool×Int×Int)->Option Bool) (b3:Bool) (n4 n5:Int) (x6:t1) (b7 b8 b9 KL:Bool):Option Bool :=
 aa KL (
 some false) (
 aa (x6.2.1==0) (
 bV (b3,(i64.wrap (n4+1)),(i64.wrap (n5+1)))) (
 bV (b3,n4,(i64.wrap (n5+1)))))
noncomputable def xl (d:Nat) (x1:t3) (xm:Bool->Int->Option Bool) (bV:(Bool×Int×Int)->Option Bool) (s:(Bool×Int×Int)):Option Bool :=
(fun (b3:Bool) n4 n5 =>
 aa (decide (n5 < (x1.2.1.length:Int))) (
 aa (decide (0<=n5)) (
 Q1 (x1.2.1[n5.toNat]?) fun x6 =>
 Q1 (Fx d x6) fun r7 =>
 aa (!r7) (
 rP d bV b3 n4 n5 x6 r7 (!r7) true true) (
 aa (decide (n5 > 0)) (
 aa (decide (0<=((i64.wrap (n5 - 1)):Int))) (
 Q1 (x1.2.1[((i64.wrap (n5 - 1)):Int).toNat]?) fun x8 =>
 rP d bV b3 n4 n5 x6 r7 (!r7) false (decide (x8.1>=x6.1))) none) (
 rP d bV b3 n4 n5 x6 r7 (!r7) false false))) none) (
 xm b3 n4)) s.1 s.2.1 s.2.2
theorem e96 (d:Nat) (x1:t3):SC (d+1) x1 =
 Q9 (xl d x1 (xk d x1)) Qd (false,0,0):=by kernel_rfl
theorem SD (d:Nat) (x1:t5):FC (d+1) x1 =
 Q1 (je d x1.1 1 99) fun r2 =>
 aa r2 (
 Q1 (je d x1.2.1 0 3) fun r3 =>
 aa r3 (
 Q1 (je d x1.2.2.1 0 65535) fun r4 =>
 aa r4 (
 Q1 (je d x1.2.2.2.1 0 65535) fun r5 =>
 aa r5 (
 some (((i64.wrap ((BitVec.ofInt i64.bits x1.2.2.2.1 &&& BitVec.ofInt i64.bits x1.2.2.1).toNat:Int)):Int)==x1.2.2.2.1)) (
 some false)) (
 some false)) (
 some false)) (
 some false):=by kernel_rfl
noncomputable def DE (d:Nat) (x1:t3) (b3:Bool):Option Bool :=
 some (decide ((x1.2.2.1.length:Int)<=16))
noncomputable def nC (d:Nat) (bV:t9->Option Bool) (b3:Bool) (n4:Int) (b6 b7 b8 b9 KL DD:Bool):Option Bool :=
 aa DD (
 some false) (
 bV (b3,(i64.wrap (n4+1))))
noncomputable def xq (d:Nat) (x1:t3) (xu:Bool->Option Bool) (bV:t9->Option Bool) (s:t9):Option Bool :=
(fun (b3:Bool) n4 =>
 aa (decide (n4 < (x1.2.2.1.length:Int))) (
 aa (decide (0<=n4)) (
 Q1 (x1.2.2.1[n4.toNat]?) fun x5 =>
 Q1 (FC d x5) fun r6 =>
 aa (!r6) (
 nC d bV b3 n4 r6 (!r6) true true true true) (
 aa (decide (n4 > 0)) (
 aa (decide (0<=((i64.wrap (n4 - 1)):Int))) (
 Q1 (x1.2.2.1[((i64.wrap (n4 - 1)):Int).toNat]?) fun x7 =>
 aa (decide (x7.1>=x5.1)) (
 nC d bV b3 n4 r6 (!r6) false (decide (x7.1>=x5.1)) true true) (
 Q1 (IN d x1 x5.2.2.2.2) fun r8 =>
 nC d bV b3 n4 r6 (!r6) false (decide (x7.1>=x5.1)) false (!r8))) none) (
 Q1 (IN d x1 x5.2.2.2.2) fun r9 =>
 nC d bV b3 n4 r6 (!r6) false false false (!r9)))) none) (
 xu b3)) s.1 s.2
theorem e97 (d:Nat) (x1:t3):SE (d+1) x1 =
 Q9 (xq d x1 (DE d x1)) Qd (false,0):=by kernel_rfl
theorem e59 (d:Nat) (x1:t3):IP (d+1) x1 =
 Q1 (Sy d x1.1) fun r2 =>
 aa r2 (
 Q1 (je d (x1.2.1.length:Int) 1 24) fun r3 =>
 aa r3 (
 Q1 (SC d x1) fun r4 =>
 aa r4 (
 Q1 (SE d x1) fun r5 =>
 aa r5 (
 aa (x1.2.2.2==0) (
 some true) (
 Q1 (IN d x1 x1.2.2.2) fun r6 =>
 some r6)) (
 some false)) (
 some false)) (
 some false)) (
 some false):=by kernel_rfl
noncomputable def FD (d:Nat) (b4:Bool):Option Bool :=
 some true
noncomputable def o7 (d:Nat) (l1 l2:List Int) (tv:Bool->Option Bool) (bM:t9->Option Bool) (s:t9):Option Bool :=
(fun (b4:Bool) n5 =>
 aa (decide (n5 < (l1.length:Int))) (
 aa (decide (0<=n5)) (
 Q1 (l1[n5.toNat]?) fun n6 =>
 aa (decide (0<=n5)) (
 Q1 (l2[n5.toNat]?) fun n7 =>
 aa (n6 != n7) (
 some false) (
 bM (b4,(i64.wrap (n5+1))))) none) none) (
 tv b4)) s.1 s.2
theorem SF (d:Nat) (l1 l2:List Int):o8 (d+1) l1 l2 =
 aa ((l1.length:Int) != (l2.length:Int)) (
 some false) (
 Q9 (o7 d l1 l2 (FD d)) Qd (false,0)):=by kernel_rfl
noncomputable def o9 (d:Nat) (x1 x2:t0) (b7:Bool):Option Bool :=
 Q1 (o8 d x1.2.2.1 x2.2.2.1) fun r8 =>
 aa r8 (
 Q1 (o8 d x1.2.2.2.1 x2.2.2.2.1) fun r9 =>
 aa r9 (
 Q1 (o8 d x1.2.2.2.2.1 x2.2.2.2.2.1) fun o_ =>
 aa o_ (
 Q1 (o8 d x1.2.2.2.2.2.1 x2.2.2.2.2.2.1) fun gX =>
 aa gX (
 Q1 (o8 d x1.2.2.2.2.2.2.2.1 x2.2.2.2.2.2.2.2.1) fun mQ =>
 some mQ) (
 some false)) (
 some false)) (
 some false)) (
 some false)
noncomputable def pe (d:Nat) (x1 x2:t0) (tw:Bool->Option Bool) (gm:t9->Option Bool) (s:t9):Option Bool :=
(fun (b7:Bool) n8 =>
 aa (decide (n8 < (x1.2.2.2.2.2.2.1.length:Int))) (
 aa (decide (0<=n8)) (
 Q1 (x1.2.2.2.2.2.2.1[n8.toNat]?) fun x9 =>
 aa (decide (0<=n8)) (
 Q1 (x2.2.2.2.2.2.2.1[n8.toNat]?) fun aR =>
 aa (!((x9.1==aR.1)&&((x9.2.1==aR.2.1)&&((x9.2.2.1==aR.2.2.1)&&((x9.2.2.2.1==aR.2.2.2.1)&&((x9.2.2.2.2==aR.2.2.2.2)&&true)))))) (
 some false) (
 gm (b7,(i64.wrap (n8+1))))) none) none) (
 tw b7)) s.1 s.2
noncomputable def pg (d:Nat) (x1 x2:t0) (b5:Bool):Option Bool :=
 Q9 (pe d x1 x2 (o9 d x1 x2)) Qd (b5,0)
noncomputable def pn (d:Nat) (x1 x2:t0) (tA:Bool->Option Bool) (jf:t9->Option Bool) (s:t9):Option Bool :=
(fun (b5:Bool) n6 =>
 aa (decide (n6 < (x1.2.1.length:Int))) (
 aa (decide (0<=n6)) (
 Q1 (x1.2.1[n6.toNat]?) fun x7 =>
 aa (decide (0<=n6)) (
 Q1 (x2.2.1[n6.toNat]?) fun x8 =>
 aa (!((x7.1==x8.1)&&((x7.2.1==x8.2.1)&&((x7.2.2.1==x8.2.2.1)&&((x7.2.2.2.1==x8.2.2.2.1)&&((x7.2.2.2.2.1==x8.2.2.2.2.1)&&((x7.2.2.2.2.2.1==x8.2.2.2.2.2.1)&&((x7.2.2.2.2.2.2.1==x8.2.2.2.2.2.2.1)&&((x7.2.2.2.2.2.2.2==x8.2.2.2.2.2.2.2)&&true))))))))) (
 some false) (
 jf (b5,(i64.wrap (n6+1))))) none) none) (
 tA b5)) s.1 s.2
noncomputable def jg (d:Nat) (x1 x2:t0) (b3:Bool):Option Bool :=
 aa b3 (
 some false) (
 Q9 (pn d x1 x2 (pg d x1 x2)) Qd (false,0))
theorem SG (d:Nat) (x1 x2:t0):FE (d+1) x1 x2 =
 aa (!(x1.1.toList==x2.1.toList)) (
 jg d x1 x2 true) (
 aa ((x1.2.1.length:Int) != (x2.2.1.length:Int)) (
 jg d x1 x2 true) (
 aa ((x1.2.2.2.2.2.2.1.length:Int) != (x2.2.2.2.2.2.2.1.length:Int)) (
 jg d x1 x2 true) (
 jg d x1 x2 (x1.2.2.2.2.2.2.2.2 != x2.2.2.2.2.2.2.2.2)))):=by kernel_rfl
noncomputable def FF (d:Nat) (l5:List Int):Option (List Int) :=
 some l5
noncomputable def pq (d:Nat) (x1:t3) (r3:List Int) (tB:(List Int)->Option (List Int)) (jf:t15->Option (List Int)) (s:t15):Option (List Int) :=
(fun (l5:List Int) n6 =>
 aa (decide (n6 < (r3.length:Int))) (
 aa (decide (0<=n6)) (
 aa (Nat.blt (n6.toNat) r3.length) (
 Q1 (r3[n6.toNat]?) fun n7 =>
 Q1 (pz d x1 n7) fun r8 =>
 aa (Nat.ble ((l5.length+r8.length)*8) Q7) (
 jf ((l5++r8),(i64.wrap (n6+1)))) none) none) none) (
 tB l5)) s.1 s.2
theorem SH (d:Nat) (x1:t3) (n2:Int):pz (d+1) x1 n2 =
 Q1 (kZ d x1 n2) fun r3 =>
 Q9 (pq d x1 r3 (FF d)) Qd ([n2],0):=by kernel_rfl
noncomputable def xw (d:Nat) (n3:Int):Option Int :=
 some n3
noncomputable def lp (d:Nat) (x1:t3) (tC bV:Int->Option Int) (s:Int):Option Int :=
(fun n3 =>
 aa (decide (0<=n3)) (
 Q1 (x1.2.1[n3.toNat]?) fun x4 =>
 aa (x4.2.1 != 0) (
 bV (i64.wrap (n3+1))) (
 tC n3)) none) s
theorem SI (d:Nat) (x1:t3):FG (d+1) x1 =
 Q9 (lp d x1 (xw d)) Qd 0:=by kernel_rfl
noncomputable def pE (d:Nat) (x1:t3) (l5:List Int) (Zt:ByteArray) (eJ:Int) (gY:List t1) (dX eS FH IQ:List Int) (mR:List t5) (BS:List Int):Option t0 :=
 aa (x1.2.2.2 != 0) (
 Q1 (DC d x1 x1.2.2.2) fun tD =>
 aa (decide (0<=tD)) (
 aa (Nat.blt (tD.toNat) l5.length) (
 Q1 (l5[tD.toNat]?) fun eL =>
 some (Zt,gY,dX,eS,FH,IQ,mR,BS,eL)) none) none) (
 some (Zt,gY,dX,eS,FH,IQ,mR,BS,eJ))
noncomputable def lq (d:Nat) (x1:t3) (l5:List Int) (tG:ByteArray->Int->(List t1)->(List Int)->(List Int)->(List Int)->(List Int)->(List t5)->(List Int)->Option t0) (FI:(Int×t0)->Option t0) (s:(Int×t0)):Option t0 :=
(fun eC (fT:t0) =>
 aa (decide (eC < (x1.2.2.1.length:Int))) (
 aa (decide (0<=eC)) (
 Q1 (x1.2.2.1[eC.toNat]?) fun nD =>
 Q1 (DC d x1 nD.2.2.2.2) fun BT =>
 aa (decide (0<=BT)) (
 aa (Nat.blt (BT.toNat) l5.length) (
 Q1 (l5[BT.toNat]?) fun pG =>
 aa (Nat.ble ((fT.2.2.2.2.2.2.2.1.length+[pG].length)*8) Q7) (
 FI ((i64.wrap (eC+1)),(fT.1,fT.2.1,fT.2.2.1,fT.2.2.2.1,fT.2.2.2.2.1,fT.2.2.2.2.2.1,fT.2.2.2.2.2.2.1,(fT.2.2.2.2.2.2.2.1++[pG]),fT.2.2.2.2.2.2.2.2))) none) none) none) none) (
 tG fT.1 fT.2.2.2.2.2.2.2.2 fT.2.1 fT.2.2.1 fT.2.2.2.1 fT.2.2.2.2.1 fT.2.2.2.2.2.1 fT.2.2.2.2.2.2.1 fT.2.2.2.2.2.2.2.1)) s.1 s.2
noncomputable def lu (d:Nat) (x1:t3) (l5:List Int) (s7:ByteArray) (n8:Int) (l9:List t1) (l10 lz DF fU:List Int) (kC:List t5) (iw:List Int):Option t0 :=
 Q9 (lq d x1 l5 (pE d x1 l5)) Qd (0,(s7,l9,l10,lz,DF,fU,kC,iw,n8))
noncomputable def lA (d:Nat) (x1:t3) (gm:(Int×t0)->Option t0) (n7:Int) (x8:t0) (n9:Int) (aR:t1) (jX nE eC:Int) (Y_:Bool):Option t0 :=
 aa (Nat.ble ((x8.2.2.1.length+[jX].length)*8) Q7) (
 aa (Nat.ble ((x8.2.2.2.1.length+[eC].length)*8) Q7) (
 aa (Nat.ble ((x8.2.2.2.2.1.length+[nE].length)*8) Q7) (
 Q1 (pz d x1 n9) fun vN =>
 aa (Nat.ble ((x8.2.2.2.2.2.1.length+[(i64.wrap (n7+(vN.length:Int)))].length)*8) Q7) (
 gm ((i64.wrap (n7+1)),(x8.1,(x8.2.1++[aR]),(x8.2.2.1++[jX]),(x8.2.2.2.1++[eC]),(x8.2.2.2.2.1++[nE]),(x8.2.2.2.2.2.1++[(i64.wrap (n7+(vN.length:Int)))]),x8.2.2.2.2.2.2))) none) none) none) none
noncomputable def lB (d:Nat) (x1:t3) (l5:List Int) (gm:(Int×t0)->Option t0) (n7:Int) (x8:t0) (n9:Int) (aR:t1) (jX nE:Int) (Y8:Bool):Option t0 :=
 Q1 (kZ d x1 n9) fun o6 =>
 aa (decide ((o6.length:Int) > 0)) (
 aa (Nat.blt 0 o6.length) (
 Q1 (o6[0]?) fun eC =>
 aa (decide (0<=eC)) (
 aa (Nat.blt (eC.toNat) l5.length) (
 Q1 (l5[eC.toNat]?) fun eJ =>
 lA d x1 gm n7 x8 n9 aR jX nE eJ true) none) none) none) (
 lA d x1 gm n7 x8 n9 aR jX nE (-1) false)
noncomputable def xx (d:Nat) (x1:t3) (l5:List Int) (gm:(Int×t0)->Option t0) (n7:Int) (x8:t0) (n9:Int) (aR:t1) (jX dK eC:Int):Option t0 :=
 lB d x1 l5 gm n7 x8 n9 aR jX dK true
noncomputable def pH (d:Nat) (l5 jJ:List Int) (nF:t10->Option t0) (dK eC:Int) (b19 KM:Bool):Option t0 :=
 aa KM (
 aa (decide (0<=((i64.wrap (eC+1)):Int))) (
 aa (Nat.blt (((i64.wrap (eC+1)):Int).toNat) jJ.length) (
 Q1 (jJ[((i64.wrap (eC+1)):Int).toNat]?) fun pG =>
 aa (decide (0<=pG)) (
 aa (Nat.blt (pG.toNat) l5.length) (
 Q1 (l5[pG.toNat]?) fun IS =>
 nF (IS,(i64.wrap (eC+1)))) none) none) none) none) (
 nF (dK,(i64.wrap (eC+1))))
noncomputable def lC (d:Nat) (l5:List Int) (n9:Int) (jJ:List Int) (tH:Int->Int->Option t0) (nF:t10->Option t0) (s:t10):Option t0 :=
(fun dK eC =>
 aa (decide (eC < (jJ.length:Int))) (
 aa (decide (0<=eC)) (
 aa (Nat.blt (eC.toNat) jJ.length) (
 Q1 (jJ[eC.toNat]?) fun eJ =>
 aa (eJ==n9) (
 pH d l5 jJ nF dK eC true (decide (((i64.wrap (eC+1)):Int) < (jJ.length:Int)))) (
 pH d l5 jJ nF dK eC false false)) none) none) (
 tH dK eC)) s.1 s.2
noncomputable def jh (d:Nat) (x1:t3) (r3 l5:List Int) (tI:ByteArray->Int->(List t1)->(List Int)->(List Int)->(List Int)->(List Int)->(List t5)->(List Int)->Option t0) (gm:(Int×t0)->Option t0) (s:(Int×t0)):Option t0 :=
(fun n7 (x8:t0) =>
 aa (decide (n7 < (r3.length:Int))) (
 aa (decide (0<=n7)) (
 aa (Nat.blt (n7.toNat) r3.length) (
 Q1 (r3[n7.toNat]?) fun n9 =>
 aa (decide (0<=n9)) (
 Q1 (x1.2.1[n9.toNat]?) fun aR =>
 aa (Nat.ble ((x8.2.1.length+[aR].length)*64) Q7) (
 aa (decide (0<=n9)) (
 Q1 (x1.2.1[n9.toNat]?) fun bQ =>
 Q1 (DC d x1 bQ.2.1) fun mQ =>
 aa (decide (mQ>=0)) (
 aa (decide (0<=mQ)) (
 aa (Nat.blt (mQ.toNat) l5.length) (
 Q1 (l5[mQ.toNat]?) fun jX =>
 Q1 (kZ d x1 mQ) fun jJ =>
 Q9 (lC d l5 n9 jJ (xx d x1 l5 gm n7 x8 n9 aR jX)) Qd ((-1),0)) none) none) (
 lB d x1 l5 gm n7 x8 n9 aR (-1) (-1) false)) none) none) none) none) none) (
 tI x8.1 x8.2.2.2.2.2.2.2.2 x8.2.1 x8.2.2.1 x8.2.2.2.1 x8.2.2.2.2.1 x8.2.2.2.2.2.1 x8.2.2.2.2.2.2.1 x8.2.2.2.2.2.2.2.1)) s.1 s.2
noncomputable def pI (d:Nat) (x1:t3) (r3 l5:List Int):Option t0 :=
 aa (Nat.ble ((([]:List t5).length+x1.2.2.1.length)*40) Q7) (
 Q9 (jh d x1 r3 l5 (lu d x1 l5)) Qd (0,(x1.1,[],[],[],[],[],(([]:List t5)++x1.2.2.1),[],(-1)))) none
noncomputable def pJ (d:Nat) (r3:List Int) (tJ:(List Int)->Option t0) (jf:t11->Option t0) (s:t11):Option t0 :=
(fun n5 (l6:List Int) =>
 aa (decide (n5 < (r3.length:Int))) (
 aa (decide (0<=n5)) (
 aa (Nat.blt (n5.toNat) r3.length) (
 Q1 (r3[n5.toNat]?) fun n7 =>
 aa (decide (0<=n7)) (
 aa (Nat.blt (n7.toNat) l6.length) (
 Q1 (l6[n7.toNat]?) fun n8 =>
 jf ((i64.wrap (n5+1)),(l6.set (n7.toNat) n5))) none) none) none) none) (
 tJ l6)) s.1 s.2
theorem SJ (d:Nat) (x1:t3):BU (d+1) x1 =
 Q1 (FG d x1) fun r2 =>
 Q1 (pz d x1 r2) fun r3 =>
 aa (decide (0<=(r3.length:Int))) (
 aa (decide (0<=(r3.length:Int))) (
 aa (Nat.ble ((r3.length:Int).toNat) ((r3.length:Int).toNat)&&Nat.ble (((r3.length:Int).toNat)*8) Q7) (
 Q9 (pJ d r3 (pI d x1 r3)) Qd (0,(List.replicate ((r3.length:Int).toNat) (0:Int)))) none) none) none:=by kernel_rfl
noncomputable def xy (d:Nat) (x1:t0) (b2:Bool):Option Bool :=
 aa b2 (
 some false) (
 Q1 (Oy d x1) fun r3 =>
 Q1 (IP d r3) fun r4 =>
 aa r4 (
 Q1 (BU d r3) fun r5 =>
 Q1 (FE d x1 r5) fun r6 =>
 some r6) (
 some false))
theorem e90 (d:Nat) (x1:t0):SK (d+1) x1 =
 aa (decide ((x1.2.1.length:Int) > 24)) (
 xy d x1 true) (
 xy d x1 (decide ((x1.2.2.2.2.2.2.1.length:Int) > 16))):=by kernel_rfl
noncomputable def KN (d:Nat) (b5:Bool):Option Bool :=
 some true
noncomputable def xz (d:Nat) (x1:t0) (x2:t7) (xA:Bool->Option Bool) (jf:t9->Option Bool) (s:t9):Option Bool :=
(fun (b5:Bool) n6 =>
 aa (decide (n6 < (x1.2.1.length:Int))) (
 aa (decide (0<=n6)) (
 Q1 (x1.2.1[n6.toNat]?) fun x7 =>
 aa (decide (0<=n6)) (
 Q1 (x2.1[n6.toNat]?) fun n8 =>
 Q1 (je d n8 0 x7.2.2.2.2.1) fun r9 =>
 aa (!r9) (
 some false) (
 aa (decide (0<=n6)) (
 Q1 (x2.2[n6.toNat]?) fun dW =>
 Q1 (je d dW 0 x7.2.2.2.2.2.1) fun gX =>
 aa (!gX) (
 some false) (
 jf (b5,(i64.wrap (n6+1))))) none)) none) none) (
 xA b5)) s.1 s.2
noncomputable def xB (d:Nat) (x1:t0) (x2:t7) (b3:Bool):Option Bool :=
 aa b3 (
 some false) (
 Q9 (xz d x1 x2 (KN d)) Qd (false,0))
theorem e91 (d:Nat) (x1:t0) (x2:t7):SL (d+1) x1 x2 =
 aa ((x2.1.length:Int) != (x1.2.1.length:Int)) (
 xB d x1 x2 true) (
 xB d x1 x2 ((x2.2.length:Int) != (x1.2.1.length:Int))):=by kernel_rfl
theorem e53 (d:Nat) (x1:t0) (x2:t7):SM (d+1) x1 x2 =
 Q1 (SK d x1) fun r3 =>
 aa r3 (
 Q1 (SL d x1 x2) fun r4 =>
 some r4) (
 some false):=by kernel_rfl
theorem e92 (d:Nat) (x1:t0) (n2:Int):SN (d+1) x1 n2 =
 aa (decide (0<=n2)) (
 Q1 (x1.2.2.2.1[n2.toNat]?) fun n3 =>
 some (decide (n3 < 0))) none:=by kernel_rfl
noncomputable def KO (d:Nat) (l3:List Int):Option (List Int) :=
 some l3
noncomputable def xC (d:Nat) (x1:t0) (xD:(List Int)->Option (List Int)) (bV:t15->Option (List Int)) (s:t15):Option (List Int) :=
(fun (l3:List Int) n4 =>
 aa (decide (n4 < (x1.2.1.length:Int))) (
 Q1 (SN d x1 n4) fun r5 =>
 aa r5 (
 aa (Nat.ble ((l3.length+[n4].length)*8) Q7) (
 bV ((l3++[n4]),(i64.wrap (n4+1)))) none) (
 bV (l3,(i64.wrap (n4+1))))) (
 xD l3)) s.1 s.2
theorem e54 (d:Nat) (x1:t0):DG (d+1) x1 =
 Q9 (xC d x1 (KO d)) Qd ([],0):=by kernel_rfl
theorem e93 (d:Nat) (n1:Int):IT (d+1) n1 =
 Q1 (je d n1 0 65535) fun r2 =>
 some r2:=by kernel_rfl
theorem e56 (d:Nat) (x1:t4):SO (d+1) x1 =
 Q1 (je d x1.1 1 100000) fun r2 =>
 aa r2 (
 Q1 (IT d x1.2.1) fun r3 =>
 aa r3 (
 Q1 (IT d x1.2.2.1) fun r4 =>
 aa r4 (
 Q1 (IT d x1.2.2.2.1) fun r5 =>
 aa r5 (
 Q1 (IT d x1.2.2.2.2.1) fun r6 =>
 aa r6 (
 Q1 (je d x1.2.2.2.2.2 1 1500) fun r7 =>
 some r7) (
 some false)) (
 some false)) (
 some false)) (
 some false)) (
 some false):=by kernel_rfl
theorem SP (d:Nat) (x1:t4) (n2:Int):KP (d+1) x1 n2 =
 aa (decide (0<=n2)) (
 aa (Nat.blt (n2.toNat) ([x1.2.1,x1.2.2.1,x1.2.2.2.1,x1.2.2.2.2.1].length)) (
 Q1 ([x1.2.1,x1.2.2.1,x1.2.2.2.1,x1.2.2.2.2.1][n2.toNat]?) fun n3 =>
 some n3) none) none:=by kernel_rfl
theorem SQ (d:Nat) (x1:t5) (x2:t4):FJ (d+1) x1 x2 =
 Q1 (KP d x2 x1.2.1) fun r3 =>
 some (((i64.wrap ((BitVec.ofInt i64.bits r3 &&& BitVec.ofInt i64.bits x1.2.2.1).toNat:Int)):Int)==x1.2.2.2.1):=by kernel_rfl
noncomputable def KQ (d:Nat) (n4:Int):Option Int :=
 some (-1)
noncomputable def xE (d:Nat) (l1:List t5) (x2:t4) (xF:Int->Option Int) (bM:t10->Option Int) (s:t10):Option Int :=
(fun n4 n5 =>
 aa (decide (n5 < (l1.length:Int))) (
 aa (decide (0<=n5)) (
 Q1 (l1[n5.toNat]?) fun x6 =>
 Q1 (FJ d x6 x2) fun r7 =>
 aa r7 (
 some n5) (
 bM (n4,(i64.wrap (n5+1))))) none) (
 xF n4)) s.1 s.2
theorem e94 (d:Nat) (l1:List t5) (x2:t4):SS (d+1) l1 x2 =
 Q9 (xE d l1 x2 (KQ d)) Qd (0,0):=by kernel_rfl
theorem e57 (d:Nat) (x1:t0) (x2:t4):OA (d+1) x1 x2 =
 Q1 (SS d x1.2.2.2.2.2.2.1 x2) fun r3 =>
 aa (decide (r3>=0)) (
 aa (decide (0<=r3)) (
 Q1 (x1.2.2.2.2.2.2.2.1[r3.toNat]?) fun n4 =>
 some n4) none) (
 some x1.2.2.2.2.2.2.2.2):=by kernel_rfl
noncomputable def KR (d:Nat) (b4:Bool):Option Bool :=
 some false
noncomputable def xG (d:Nat) (l1:List Int) (n2:Int) (xH:Bool->Option Bool) (bM:t9->Option Bool) (s:t9):Option Bool :=
(fun (b4:Bool) n5 =>
 aa (decide (n5 < (l1.length:Int))) (
 aa (decide (0<=n5)) (
 Q1 (l1[n5.toNat]?) fun n6 =>
 aa (n6==n2) (
 some true) (
 bM (b4,(i64.wrap (n5+1))))) none) (
 xH b4)) s.1 s.2
theorem e58 (d:Nat) (l1:List Int) (n2:Int):OB (d+1) l1 n2 =
 Q9 (xG d l1 n2 (KR d)) Qd (false,0):=by kernel_rfl
noncomputable def KS (d:Nat) (b6:Bool):Option Bool :=
 some true
noncomputable def xI (d:Nat) (gW:(Bool×(List Int)×Int)->Option Bool) (n8:Int) (vL:Bool) (nE:Int) (iw:List Int):Option Bool :=
 gW (vL,iw,(i64.wrap (n8+1)))
noncomputable def nG (d:Nat) (x1:t2) (r3:List Int) (n8:Int) (l9:List t4) (xJ:Bool->Int->(List Int)->Option Bool) (FK:(Bool×(List Int)×Int)->Option Bool) (s:(Bool×(List Int)×Int)):Option Bool :=
(fun (vL:Bool) (kC:List Int) gH =>
 aa (decide (gH < (l9.length:Int))) (
 aa (decide (0<=gH)) (
 Q1 (l9[gH.toNat]?) fun oC =>
 Q1 (SO d oC) fun FB =>
 aa (!FB) (
 some false) (
 Q1 (OA d x1.1 oC) fun BV =>
 aa (decide (0<=n8)) (
 aa (Nat.blt (n8.toNat) r3.length) (
 Q1 (r3[n8.toNat]?) fun tK =>
 aa (BV != tK) (
 some false) (
 Q1 (OB d kC oC.1) fun BT =>
 aa BT (
 some false) (
 aa (Nat.ble ((kC.length+[oC.1].length)*8) Q7) (
 FK (vL,(kC++[oC.1]),(i64.wrap (gH+1)))) none))) none) none)) none) (
 xJ vL gH kC)) s.1 s.2.1 s.2.2
noncomputable def xK (d:Nat) (x1:t2) (r3:List Int) (xL:Bool->Option Bool) (gW:(Bool×(List Int)×Int)->Option Bool) (s:(Bool×(List Int)×Int)):Option Bool :=
(fun (b6:Bool) (l7:List Int) n8 =>
 aa (decide (n8 < (x1.2.2.1.length:Int))) (
 aa (decide (0<=n8)) (
 Q1 (x1.2.2.1[n8.toNat]?) fun l9 =>
 aa (decide (0<=n8)) (
 aa (Nat.blt (n8.toNat) r3.length) (
 Q1 (r3[n8.toNat]?) fun dW =>
 aa (decide (0<=dW)) (
 Q1 (x1.1.2.1[dW.toNat]?) fun bQ =>
 aa (decide ((l9.length:Int) > bQ.2.2.2.2.2.2.2)) (
 some false) (
 Q9 (nG d x1 r3 n8 l9 (xI d gW n8)) Qd (b6,l7,0))) none) none) none) none) (
 xL b6)) s.1 s.2.1 s.2.2
noncomputable def rQ (d:Nat) (x1:t2) (r3:List Int) (b4:Bool):Option Bool :=
 aa b4 (
 some false) (
 Q9 (xK d x1 r3 (KS d)) Qd (false,[],0))
theorem e24 (d:Nat) (x1:t2):g24 (d+1) x1 =
 Q1 (SM d x1.1 x1.2.1) fun r2 =>
 aa (!r2) (
 some false) (
 Q1 (DG d x1.1) fun r3 =>
 aa ((x1.2.2.1.length:Int) != (r3.length:Int)) (
 rQ d x1 r3 true) (
 Q1 (je d x1.2.2.2.1 (-1) (i64.wrap ((r3.length:Int) - 1))) fun r4 =>
 aa (!r4) (
 rQ d x1 r3 true) (
 Q1 (je d x1.2.2.2.2 0 1000000) fun r5 =>
 rQ d x1 r3 (!r5)))):=by kernel_rfl
theorem e61 (d:Nat) (x1:t3):Sh (d+1) x1 =
 aa (Nat.ble ((([]:List t1).length+x1.2.1.length)*64) Q7) (
 aa (Nat.ble ((([]:List t5).length+x1.2.2.1.length)*40) Q7) (
 some (x1.1,(([]:List t1)++x1.2.1),(([]:List t5)++x1.2.2.1),x1.2.2.2)) none) none:=by kernel_rfl
theorem e63 (d:Nat) (x1:t3):Oo (d+1) x1 =
 Q1 (IP d x1) fun r2 =>
 aa (!r2) (
 some (((⟨#[]⟩:ByteArray),([]:List t1),([]:List t5),0),false)) (
 some (x1,true)):=by kernel_rfl
noncomputable def wY (d:Nat) (x1:t3) (n2 n3:Int) (b4:Bool):Option (t3×Bool) :=
 aa b4 (
 some (((⟨#[]⟩:ByteArray),([]:List t1),([]:List t5),0),false)) (
 Q1 (Sh d x1) fun r5 =>
 Q1 (DC d x1 n2) fun r6 =>
 aa (decide (0<=r6)) (
 aa (Nat.blt (r6.toNat) r5.2.1.length) (
 Q1 (r5.2.1[r6.toNat]?) fun x7 =>
 Q1 (Oo d (r5.1,(r5.2.1.set (r6.toNat) (x7.1,x7.2.1,x7.2.2.1,x7.2.2.2.1,x7.2.2.2.2.1,x7.2.2.2.2.2.1,x7.2.2.2.2.2.2.1,n3)),r5.2.2)) fun r8 =>
 some (r8.1,r8.2)) none) none)
theorem e25 (d:Nat) (x1:t3) (n2 n3:Int):Sl (d+1) x1 n2 n3 =
 Q1 (IP d x1) fun r4 =>
 aa (!r4) (
 wY d x1 n2 n3 true) (
 Q1 (IN d x1 n2) fun r5 =>
 wY d x1 n2 n3 (!r5)):=by kernel_rfl
noncomputable def FL (d:Nat) (l3 l4:List Int):Option t7 :=
 some (l3,l4)
noncomputable def pK (d:Nat) (x1:t0) (tL:(List Int)->(List Int)->Option t7) (bV:(Int×t7)->Option t7) (s:(Int×t7)):Option t7 :=
(fun n3 (x4:t7) =>
 aa (decide (n3 < (x1.2.1.length:Int))) (
 aa (decide (0<=n3)) (
 Q1 (x1.2.1[n3.toNat]?) fun x5 =>
 aa (Nat.ble ((x4.1.length+[x5.2.2.2.2.1].length)*8) Q7) (
 aa (Nat.ble ((x4.2.length+[x5.2.2.2.2.2.1].length)*8) Q7) (
 bV ((i64.wrap (n3+1)),((x4.1++[x5.2.2.2.2.1]),(x4.2++[x5.2.2.2.2.2.1])))) none) none) none) (
 tL x4.1 x4.2)) s.1 s.2
theorem SU (d:Nat) (x1:t0):FM (d+1) x1 =
 Q9 (pK d x1 (FL d)) Qd (0,([],[])):=by kernel_rfl
theorem e98 (d:Nat) (x1:t3):R4 (d+1) x1 =
 Q1 (BU d x1) fun r2 =>
 Q1 (FM d r2) fun r3 =>
 Q1 (DG d r2) fun r4 =>
 aa (decide (0<=(r4.length:Int))) (
 aa (decide (0<=(r4.length:Int))) (
 aa (Nat.ble ((r4.length:Int).toNat) ((r4.length:Int).toNat)&&Nat.ble (((r4.length:Int).toNat)*24) Q7) (
 some (r2,r3,(List.replicate ((r4.length:Int).toNat) ([]:List t4)),(-1),0)) none) none) none:=by kernel_rfl
noncomputable def KT (d:Nat) (n4:Int):Option Int :=
 some (-1)
noncomputable def xM (d:Nat) (x1:t0) (n2:Int) (xN:Int->Option Int) (bM:t10->Option Int) (s:t10):Option Int :=
(fun n4 n5 =>
 aa (decide (n5 < (x1.2.1.length:Int))) (
 aa (decide (0<=n5)) (
 Q1 (x1.2.1[n5.toNat]?) fun x6 =>
 aa (x6.1==n2) (
 some n5) (
 bM (n4,(i64.wrap (n5+1))))) none) (
 xN n4)) s.1 s.2
theorem e99 (d:Nat) (x1:t0) (n2:Int):SV (d+1) x1 n2 =
 Q9 (xM d x1 n2 (KT d)) Qd (0,0):=by kernel_rfl
theorem SW (d:Nat) (n1 n2:Int):BW (d+1) n1 n2 =
 aa (decide (n1 < n2)) (
 some n1) (
 some n2):=by kernel_rfl
theorem R9 (d:Nat) (x1:t2):Fp (d+1) x1 =
 aa (decide (x1.2.2.2.1 < 0)) (
 some 0) (
 Q1 (DG d x1.1) fun r2 =>
 aa (decide (0<=x1.2.2.2.1)) (
 aa (Nat.blt (x1.2.2.2.1.toNat) r2.length) (
 Q1 (r2[x1.2.2.2.1.toNat]?) fun n3 =>
 aa (decide (0<=n3)) (
 Q1 (x1.1.2.1[n3.toNat]?) fun x4 =>
 some x4.1) none) none) none):=by kernel_rfl
noncomputable def KU (d:Nat) (s9:ByteArray) (dW iF tM:Int) (fU:List t1) (kC iw pL gp:List Int) (oD:List t5) (gY dX eS mR:List Int) (BS:List (List t4)):Option t8 :=
 some (((s9,fU,kC,iw,pL,gp,oD,gY,dW),(dX,eS),BS,iF,tM),mR)
noncomputable def Dw (d:Nat) (FN:t12->Option t8) (DH n29:Int) (l30:List Int) (kD:List (List t4)):Option t8 :=
 FN (l30,(i64.wrap (DH+1)),kD)
noncomputable def cT (d:Nat) (nH:t12->Option t8) (oE:List Int) (vO:Int) (xO:t4) (n33 n34:Int) (nI:List (List t4)):Option t8 :=
 aa (n33 != 1) (
 aa (Nat.ble ((oE.length+[xO.1].length)*8) Q7) (
 nH ((oE++[xO.1]),(i64.wrap (vO+1)),nI)) none) (
 nH (oE,(i64.wrap (vO+1)),nI))
noncomputable def gU (d:Nat) (nH:t12->Option t8) (oE:List Int) (vO:Int) (kD:List (List t4)) (xO:t4) (KY:t1) (iy:Int):Option t8 :=
 aa (decide (0<=iy)) (
 aa (Nat.blt (iy.toNat) kD.length) (
 Q1 (kD[iy.toNat]?) fun AV =>
 aa (decide ((AV.length:Int)>=KY.2.2.2.2.2.2.2)) (
 cT d nH oE vO xO 2 KY.1 kD) (
 aa (decide (0<=iy)) (
 aa (Nat.blt (iy.toNat) kD.length) (
 Q1 (kD[iy.toNat]?) fun pM =>
 aa (Nat.ble ((pM.length+[xO].length)*48) Q7) (
 aa (decide (0<=iy)) (
 aa (Nat.blt (iy.toNat) kD.length) (
 aa (Nat.beq (iy.toNat) (iy.toNat)) (
 Q1 (kD[iy.toNat]?) fun Zu =>
 cT d nH oE vO xO 1 KY.1 (kD.set (iy.toNat) (pM++[xO]))) none) none) none) none) none) none)) none) none
noncomputable def kq (d:Nat) (s9:ByteArray) (dW:Int) (fU:List t1) (kC iw pL gp:List Int) (oD:List t5) (gY:List Int) (lD:Int) (lE SX:Int->Option t8) (s:Int):Option t8 :=
(fun iy =>
 Q1 (DG d (s9,fU,kC,iw,pL,gp,oD,gY,dW)) fun xP =>
 aa (decide (0<=iy)) (
 aa (Nat.blt (iy.toNat) xP.length) (
 Q1 (xP[iy.toNat]?) fun Zv =>
 aa (Zv != lD) (
 SX (i64.wrap (iy+1))) (
 lE iy)) none) none) s
noncomputable def rL (d:Nat) (s9:ByteArray) (dW:Int) (fU:List t1) (kC iw pL gp:List Int) (oD:List t5) (gY:List Int) (AW:List t4) (xQ:Int->(List Int)->(List (List t4))->Option t8) (nH:t12->Option t8) (s:t12):Option t8 :=
(fun (oE:List Int) vO (kD:List (List t4)) =>
 aa (decide (vO < (AW.length:Int))) (
 aa (decide (0<=vO)) (
 Q1 (AW[vO.toNat]?) fun xO =>
 Q1 (OA d (s9,fU,kC,iw,pL,gp,oD,gY,dW) xO) fun lD =>
 aa (decide (lD < 0)) (
 cT d nH oE vO xO 3 0 kD) (
 aa (decide (0<=lD)) (
 aa (Nat.blt (lD.toNat) fU.length) (
 Q1 (fU[lD.toNat]?) fun KY =>
 Q9 (kq d s9 dW fU kC iw pL gp oD gY lD (gU d nH oE vO kD xO KY)) Qd 0) none) none)) none) (
 xQ vO oE kD)) s.1 s.2.1 s.2.2
noncomputable def rM (d:Nat) (x1:t2) (s9:ByteArray) (dW:Int) (fU:List t1) (kC iw pL gp:List Int) (oD:List t5) (gY:List Int) (xR:(List Int)->(List (List t4))->Option t8) (FN:t12->Option t8) (s:t12):Option t8 :=
(fun (mR:List Int) DH (AX:List (List t4)) =>
 aa (decide (DH < (x1.2.2.1.length:Int))) (
 aa (decide (0<=DH)) (
 Q1 (x1.2.2.1[DH.toNat]?) fun AW =>
 Q9 (rL d s9 dW fU kC iw pL gp oD gY AW (Dw d FN DH)) Qd (mR,0,AX)) none) (
 xR mR AX)) s.1 s.2.1 s.2.2
noncomputable def wQ (d:Nat) (x1:t2) (s9:ByteArray) (dW iF tM:Int) (fU:List t1) (kC iw pL gp:List Int) (oD:List t5) (gY dX eS:List Int) (FH:List (List t4)):Option t8 :=
 Q9 (rM d x1 s9 dW fU kC iw pL gp oD gY (KU d s9 dW iF tM fU kC iw pL gp oD gY dX eS)) Qd ([],0,FH)
noncomputable def wR (d:Nat) (x1:t2) (r7:List Int) (xS:ByteArray->Int->Int->Int->(List t1)->(List Int)->(List Int)->(List Int)->(List Int)->(List t5)->(List Int)->(List Int)->(List Int)->(List (List t4))->Option t8) (xT:(Int×t2)->Option t8) (s:(Int×t2)):Option t8 :=
(fun n9 (aR:t2) =>
 aa (decide (n9 < (r7.length:Int))) (
 aa (decide (0<=n9)) (
 aa (Nat.blt (n9.toNat) r7.length) (
 Q1 (r7[n9.toNat]?) fun iF =>
 aa (decide (0<=iF)) (
 aa (Nat.blt (iF.toNat) aR.1.2.1.length) (
 Q1 (aR.1.2.1[iF.toNat]?) fun dF =>
 Q1 (Fp (d+1) x1) fun tN =>
 aa (dF.1==tN) (
 xT ((i64.wrap (n9+1)),(aR.1,aR.2.1,aR.2.2.1,n9,aR.2.2.2.2))) (
 xT ((i64.wrap (n9+1)),aR))) none) none) none) none) (
 xS aR.1.1 aR.1.2.2.2.2.2.2.2.2 aR.2.2.2.1 aR.2.2.2.2 aR.1.2.1 aR.1.2.2.1 aR.1.2.2.2.1 aR.1.2.2.2.2.1 aR.1.2.2.2.2.2.1 aR.1.2.2.2.2.2.2.1 aR.1.2.2.2.2.2.2.2.1 aR.2.1.1 aR.2.1.2 aR.2.2.1)) s.1 s.2
noncomputable def wP (d:Nat) (x1 r3:t2) (l5 l6:List Int):Option t8 :=
 Q1 (DG (d+1) r3.1) fun r7 =>
 Q9 (wR d x1 r7 (wQ d x1)) Qd (0,(r3.1,(l5,l6),r3.2.2.1,r3.2.2.2.1,x1.2.2.2.2))
noncomputable def rK (d:Nat) (x1 r3:t2) (xU:(List Int)->(List Int)->Option t8) (jf:t16->Option t8) (s:t16):Option t8 :=
(fun n5 (l6:List Int) (l7:List Int) =>
 aa (decide (n5 < (r3.1.2.1.length:Int))) (
 aa (decide (0<=n5)) (
 aa (Nat.blt (n5.toNat) r3.1.2.1.length) (
 Q1 (r3.1.2.1[n5.toNat]?) fun x8 =>
 Q1 (SV (d+1) x1.1 x8.1) fun r9 =>
 aa (decide (r9>=0)) (
 aa (decide (0<=r9)) (
 Q1 (x1.2.1.1[r9.toNat]?) fun dW =>
 Q1 (BW (d+1) dW x8.2.2.2.2.1) fun gX =>
 aa (decide (0<=n5)) (
 aa (Nat.blt (n5.toNat) l6.length) (
 Q1 (l6[n5.toNat]?) fun tM =>
 aa (decide (0<=r9)) (
 Q1 (x1.2.1.2[r9.toNat]?) fun jX =>
 Q1 (BW (d+1) jX x8.2.2.2.2.2.1) fun jJ =>
 aa (decide (0<=n5)) (
 aa (Nat.blt (n5.toNat) l7.length) (
 Q1 (l7[n5.toNat]?) fun gH =>
 jf ((i64.wrap (n5+1)),(l6.set (n5.toNat) gX),(l7.set (n5.toNat) jJ))) none) none) none) none) none) none) (
 jf ((i64.wrap (n5+1)),l6,l7))) none) none) (
 xU l6 l7)) s.1 s.2.1 s.2.2
theorem e65 (d:Nat) (x1:t2) (x2:t3):Sa (d+2) x1 x2 =
 Q1 (R4 (d+1) x2) fun r3 =>
 Q9 (rK d x1 r3 (wP d x1 r3)) Qd (0,r3.2.1.1,r3.2.1.2):=by kernel_rfl
theorem YS (d:Nat) (x1:t2) (x2:t3) (b3:Bool):KB (d+1) x1 x2 b3 =
 aa (!b3) (
 some ((((⟨#[]⟩:ByteArray),[],[],[],[],[],[],[],0),([],[]),[],0,0),[],false)) (
 Q1 (IP d x2) fun r4 =>
 aa (!r4) (
 some ((((⟨#[]⟩:ByteArray),[],[],[],[],[],[],[],0),([],[]),[],0,0),[],false)) (
 Q1 (Sa d x1 x2) fun r5 =>
 some (r5.1,r5.2,true))):=by kernel_rfl
theorem e7 (d:Nat) (x1:t2) (n2 n3:Int):g7 (d+1) x1 n2 n3 =
 Q1 (g24 d x1) fun r4 =>
 aa (!r4) (
 some ((((⟨#[]⟩:ByteArray),[],[],[],[],[],[],[],0),([],[]),[],0,0),[],false)) (
 Q1 (Oy d x1.1) fun r5 =>
 Q1 (Sl d r5 n2 n3) fun r6 =>
 Q1 (KB d x1 r6.1 r6.2) fun r7 =>
 some (r7.1,r7.2.1,r7.2.2)):=by kernel_rfl
theorem e19 (d:Nat) (x1:t1):g19 (d+1) x1 =
 some x1:=by kernel_rfl
noncomputable def DI (d:Nat) (l3:List t1):Option (List t1) :=
 some l3
noncomputable def DJ (d:Nat) (l1:List t1) (xV:(List t1)->Option (List t1)) (bV:t13->Option (List t1)) (s:t13):Option (List t1) :=
(fun n3 (l4:List t1) =>
 aa (decide (n3 < (l1.length:Int))) (
 aa (decide (0<=n3)) (
 Q1 (l1[n3.toNat]?) fun x5 =>
 Q1 (g19 d x5) fun r6 =>
 aa (decide (0<=n3)) (
 aa (Nat.blt (n3.toNat) l4.length) (
 Q1 (l4[n3.toNat]?) fun x7 =>
 bV ((i64.wrap (n3+1)),(l4.set (n3.toNat) r6))) none) none) none) (
 xV l4)) s.1 s.2
theorem e66 (d:Nat) (l1:List t1):SY (d+1) l1 =
 aa (decide (0<=(l1.length:Int))) (
 aa (decide (0<=(l1.length:Int))) (
 aa (Nat.ble ((l1.length:Int).toNat) ((l1.length:Int).toNat)&&Nat.ble (((l1.length:Int).toNat)*64) Q7) (
 Q9 (DJ d l1 (DI d)) Qd (0,(List.replicate ((l1.length:Int).toNat) ((0,0,0,0,0,0,0,0):t1)))) none) none) none:=by kernel_rfl
noncomputable def DK (d:Nat) (l3:List Int):Option (List Int) :=
 some l3
noncomputable def DL (d:Nat) (l1:List Int) (xW:(List Int)->Option (List Int)) (bV:t11->Option (List Int)) (s:t11):Option (List Int) :=
(fun n3 (l4:List Int) =>
 aa (decide (n3 < (l1.length:Int))) (
 aa (decide (0<=n3)) (
 Q1 (l1[n3.toNat]?) fun n5 =>
 aa (decide (0<=n3)) (
 aa (Nat.blt (n3.toNat) l4.length) (
 Q1 (l4[n3.toNat]?) fun n6 =>
 bV ((i64.wrap (n3+1)),(l4.set (n3.toNat) n5))) none) none) none) (
 xW l4)) s.1 s.2
theorem e67 (d:Nat) (l1:List Int):BX (d+1) l1 =
 aa (decide (0<=(l1.length:Int))) (
 aa (decide (0<=(l1.length:Int))) (
 aa (Nat.ble ((l1.length:Int).toNat) ((l1.length:Int).toNat)&&Nat.ble (((l1.length:Int).toNat)*8) Q7) (
 Q9 (DL d l1 (DK d)) Qd (0,(List.replicate ((l1.length:Int).toNat) (0:Int)))) none) none) none:=by kernel_rfl
theorem SZ (d:Nat) (x1:t5):KZ (d+1) x1 =
 some x1:=by kernel_rfl
noncomputable def DM (d:Nat) (l3:List t5):Option (List t5) :=
 some l3
noncomputable def DN (d:Nat) (l1:List t5) (xX:(List t5)->Option (List t5)) (bV:(Int×(List t5))->Option (List t5)) (s:(Int×(List t5))):Option (List t5) :=
(fun n3 (l4:List t5) =>
 aa (decide (n3 < (l1.length:Int))) (
 aa (decide (0<=n3)) (
 Q1 (l1[n3.toNat]?) fun x5 =>
 Q1 (KZ d x5) fun r6 =>
 aa (decide (0<=n3)) (
 aa (Nat.blt (n3.toNat) l4.length) (
 Q1 (l4[n3.toNat]?) fun x7 =>
 bV ((i64.wrap (n3+1)),(l4.set (n3.toNat) r6))) none) none) none) (
 xX l4)) s.1 s.2
theorem e68 (d:Nat) (l1:List t5):S0 (d+1) l1 =
 aa (decide (0<=(l1.length:Int))) (
 aa (decide (0<=(l1.length:Int))) (
 aa (Nat.ble ((l1.length:Int).toNat) ((l1.length:Int).toNat)&&Nat.ble (((l1.length:Int).toNat)*40) Q7) (
 Q9 (DN d l1 (DM d)) Qd (0,(List.replicate ((l1.length:Int).toNat) ((0,0,0,0,0):t5)))) none) none) none:=by kernel_rfl
theorem e28 (d:Nat) (x1:t0):S3 (d+1) x1 =
 Q1 (SY d x1.2.1) fun r2 =>
 Q1 (BX d x1.2.2.1) fun r3 =>
 Q1 (BX d x1.2.2.2.1) fun r4 =>
 Q1 (BX d x1.2.2.2.2.1) fun r5 =>
 Q1 (BX d x1.2.2.2.2.2.1) fun r6 =>
 Q1 (S0 d x1.2.2.2.2.2.2.1) fun r7 =>
 Q1 (BX d x1.2.2.2.2.2.2.2.1) fun r8 =>
 some (x1.1,r2,r3,r4,r5,r6,r7,r8,x1.2.2.2.2.2.2.2.2):=by kernel_rfl
theorem e29 (d:Nat) (x1:t7):S4 (d+1) x1 =
 Q1 (BX d x1.1) fun r2 =>
 Q1 (BX d x1.2) fun r3 =>
 some (r2,r3):=by kernel_rfl
theorem S5 (d:Nat) (x1:t4):K0 (d+1) x1 =
 some x1:=by kernel_rfl
noncomputable def DO (d:Nat) (l3:List t4):Option (List t4) :=
 some l3
noncomputable def DP (d:Nat) (l1:List t4) (xY:(List t4)->Option (List t4)) (bV:(Int×(List t4))->Option (List t4)) (s:(Int×(List t4))):Option (List t4) :=
(fun n3 (l4:List t4) =>
 aa (decide (n3 < (l1.length:Int))) (
 aa (decide (0<=n3)) (
 Q1 (l1[n3.toNat]?) fun x5 =>
 Q1 (K0 d x5) fun r6 =>
 aa (decide (0<=n3)) (
 aa (Nat.blt (n3.toNat) l4.length) (
 Q1 (l4[n3.toNat]?) fun x7 =>
 bV ((i64.wrap (n3+1)),(l4.set (n3.toNat) r6))) none) none) none) (
 xY l4)) s.1 s.2
theorem e69 (d:Nat) (l1:List t4):S6 (d+1) l1 =
 aa (decide (0<=(l1.length:Int))) (
 aa (decide (0<=(l1.length:Int))) (
 aa (Nat.ble ((l1.length:Int).toNat) ((l1.length:Int).toNat)&&Nat.ble (((l1.length:Int).toNat)*48) Q7) (
 Q9 (DP d l1 (DO d)) Qd (0,(List.replicate ((l1.length:Int).toNat) ((0,0,0,0,0,0):t4)))) none) none) none:=by kernel_rfl
noncomputable def DQ (d:Nat) (l3:List (List t4)):Option (List (List t4)) :=
 some l3
noncomputable def DR (d:Nat) (l1:List (List t4)) (xZ:(List (List t4))->Option (List (List t4))) (bV:(Int×(List (List t4)))->Option (List (List t4))) (s:(Int×(List (List t4)))):Option (List (List t4)) :=
(fun n3 (l4:List (List t4)) =>
 aa (decide (n3 < (l1.length:Int))) (
 aa (decide (0<=n3)) (
 Q1 (l1[n3.toNat]?) fun l5 =>
 Q1 (S6 d l5) fun r6 =>
 aa (decide (0<=n3)) (
 aa (Nat.blt (n3.toNat) l4.length) (
 Q1 (l4[n3.toNat]?) fun l7 =>
 bV ((i64.wrap (n3+1)),(l4.set (n3.toNat) r6))) none) none) none) (
 xZ l4)) s.1 s.2
theorem e30 (d:Nat) (l1:List (List t4)):S7 (d+1) l1 =
 aa (decide (0<=(l1.length:Int))) (
 aa (decide (0<=(l1.length:Int))) (
 aa (Nat.ble ((l1.length:Int).toNat) ((l1.length:Int).toNat)&&Nat.ble (((l1.length:Int).toNat)*24) Q7) (
 Q9 (DR d l1 (DQ d)) Qd (0,(List.replicate ((l1.length:Int).toNat) ([]:List t4)))) none) none) none:=by kernel_rfl
theorem e8 (d:Nat) (x1:t2):g8 (d+1) x1 =
 Q1 (S3 d x1.1) fun r2 =>
 Q1 (S4 d x1.2.1) fun r3 =>
 Q1 (S7 d x1.2.2.1) fun r4 =>
 some (r2,r3,r4,x1.2.2.2):=by kernel_rfl
theorem S8 (d:Nat) (n1:Int):FO (d+1) n1 =
 aa (decide (n1>=97)) (
 some (decide (n1<=122))) (
 some false):=by kernel_rfl
noncomputable def FP (d:Nat) (b3:Bool):Option Bool :=
 some false
noncomputable def pN (d:Nat) (s1:ByteArray) (tO:Bool->Option Bool) (bV:t9->Option Bool) (s:t9):Option Bool :=
(fun (b3:Bool) n4 =>
 aa (decide (n4 < 14)) (
 aa (decide (0<=n4)) (
 Q1 (([(⟨#[113,100,105,115,99]⟩:ByteArray),(⟨#[100,101,102,97,117,108,116]⟩:ByteArray),(⟨#[99,108,97,115,115]⟩:ByteArray),(⟨#[114,97,116,101]⟩:ByteArray),(⟨#[99,101,105,108]⟩:ByteArray),(⟨#[98,117,114,115,116]⟩:ByteArray),(⟨#[99,98,117,114,115,116]⟩:ByteArray),(⟨#[112,114,105,111]⟩:ByteArray),(⟨#[108,105,109,105,116]⟩:ByteArray),(⟨#[102,105,108,116,101,114]⟩:ByteArray),(⟨#[115,111,117,114,99,101]⟩:ByteArray),(⟨#[100,101,115,116]⟩:ByteArray),(⟨#[112,111,114,116]⟩:ByteArray),(⟨#[109,97,114,107]⟩:ByteArray)]:List ByteArray)[n4.toNat]?) fun s5 =>
 aa (s5.toList==s1.toList) (
 some true) (
 bV (b3,(i64.wrap (n4+1))))) none) (
 tO b3)) s.1 s.2
theorem S9 (d:Nat) (s1:ByteArray):FQ (d+1) s1 =
 Q9 (pN d s1 (FP d)) Qd (false,0):=by kernel_rfl
noncomputable def pO (d:Nat) (s1:ByteArray) (b4:Bool):Option Bool :=
 Q1 (FQ d s1) fun r5 =>
 some (!r5)
noncomputable def pP (d:Nat) (s1:ByteArray) (tP:Bool->Option Bool) (bM:t9->Option Bool) (s:t9):Option Bool :=
(fun (b4:Bool) n5 =>
 aa (decide (n5 < (s1.size:Int))) (
 aa (decide (0<=n5)) (
 Q1 (s1.data.toList[n5.toNat]?) fun c6 =>
 Q1 (FO d (c6.toNat:Int)) fun r7 =>
 aa (!r7) (
 some false) (
 bM (b4,(i64.wrap (n5+1))))) none) (
 tP b4)) s.1 s.2
noncomputable def pQ (d:Nat) (s1:ByteArray) (b2:Bool):Option Bool :=
 aa b2 (
 some false) (
 Q9 (pP d s1 (pO d s1)) Qd (false,0))
theorem S_ (d:Nat) (s1:ByteArray):FR (d+1) s1 =
 aa (decide (((s1.size:Int):Int) < 1)) (
 pQ d s1 true) (
 pQ d s1 (decide (((s1.size:Int):Int) > 8))):=by kernel_rfl
theorem Ta (d:Nat) (n1:Int):FT (d+1) n1 =
 aa (decide (n1>=1)) (
 some (decide (n1<=999))) (
 some false):=by kernel_rfl
noncomputable def x_ (d:Nat) (x1:t3) (b3:Bool):Option Bool :=
 aa (decide ((x1.2.1.length:Int)>=1)) (
 some (decide ((x1.2.1.length:Int)<=24))) (
 some false)
noncomputable def pR (d:Nat) (x1:t3) (tQ:Bool->Option Bool) (bV:t9->Option Bool) (s:t9):Option Bool :=
(fun (b3:Bool) n4 =>
 aa (decide (n4 < (x1.2.1.length:Int))) (
 aa (decide (0<=n4)) (
 Q1 (x1.2.1[n4.toNat]?) fun x5 =>
 Q1 (FT d x5.1) fun r6 =>
 aa (!r6) (
 some false) (
 aa (decide (n4 > 0)) (
 aa (decide (0<=((i64.wrap (n4 - 1)):Int))) (
 Q1 (x1.2.1[((i64.wrap (n4 - 1)):Int).toNat]?) fun x7 =>
 aa (decide (x5.1<=x7.1)) (
 some false) (
 bV (b3,(i64.wrap (n4+1))))) none) (
 bV (b3,(i64.wrap (n4+1)))))) none) (
 tQ b3)) s.1 s.2
theorem Tb (d:Nat) (x1:t3):FU (d+1) x1 =
 Q9 (pR d x1 (x_ d x1)) Qd (false,0):=by kernel_rfl
noncomputable def tR (d:Nat) (n4:Int):Option Int :=
 some (-1)
noncomputable def gZ (d:Nat) (x1:t3) (n2:Int) (lG:Int->Option Int) (bM:t10->Option Int) (s:t10):Option Int :=
(fun n4 n5 =>
 aa (decide (n5 < (x1.2.1.length:Int))) (
 aa (decide (0<=n5)) (
 Q1 (x1.2.1[n5.toNat]?) fun x6 =>
 aa (x6.1==n2) (
 some n5) (
 bM (n4,(i64.wrap (n5+1))))) none) (
 lG n4)) s.1 s.2
theorem e74 (d:Nat) (x1:t3) (n2:Int):IU (d+3) x1 n2 =
 Q9 (gZ d x1 n2 (tR d)) Qd (0,0):=by kernel_rfl
noncomputable def FV (d:Nat) (l3:List Int):Option (List Int) :=
 some l3
noncomputable def pS (d:Nat) (bV:t15->Option (List Int)) (l3:List Int) (n4:Int) (b6 b7:Bool):Option (List Int) :=
 aa b7 (
 aa (Nat.ble ((l3.length+[n4].length)*8) Q7) (
 bV ((l3++[n4]),(i64.wrap (n4+1)))) none) (
 bV (l3,(i64.wrap (n4+1))))
noncomputable def pT (d:Nat) (x1:t3) (tS:(List Int)->Option (List Int)) (bV:t15->Option (List Int)) (s:t15):Option (List Int) :=
(fun (l3:List Int) n4 =>
 aa (decide (n4 < (x1.2.1.length:Int))) (
 aa (decide (0<=n4)) (
 Q1 (x1.2.1[n4.toNat]?) fun x5 =>
 aa (x5.2.1 != 0) (
 Q1 (IU d x1 x5.2.1) fun r6 =>
 pS d bV l3 n4 true (decide (r6 < 0))) (
 pS d bV l3 n4 false false)) none) (
 tS l3)) s.1 s.2
theorem Tc (d:Nat) (x1:t3):FW (d+1) x1 =
 Q9 (pT d x1 (FV d)) Qd (([]:List Int),0):=by kernel_rfl
noncomputable def pU (d:Nat) (x1:t3) (n3:Int):Option Bool :=
 aa (n3==1) (
 Q1 (FW d x1) fun r4 =>
 some ((r4.length:Int)==0)) (
 some false)
noncomputable def pV (d:Nat) (x1:t3) (tT:Int->Option Bool) (bV:t10->Option Bool) (s:t10):Option Bool :=
(fun n3 n4 =>
 aa (decide (n4 < (x1.2.1.length:Int))) (
 aa (decide (0<=n4)) (
 Q1 (x1.2.1[n4.toNat]?) fun x5 =>
 aa (x5.2.1==0) (
 bV ((i64.wrap (n3+1)),(i64.wrap (n4+1)))) (
 bV (n3,(i64.wrap (n4+1))))) none) (
 tT n3)) s.1 s.2
theorem Td (d:Nat) (x1:t3):FX (d+1) x1 =
 Q9 (pV d x1 (pU d x1)) Qd (0,0):=by kernel_rfl
noncomputable def FY (d:Nat) (n4:Int):Option Int :=
 some (-1)
noncomputable def pX (d:Nat) (l1:List Int) (n2:Int) (tU:Int->Option Int) (bM:t10->Option Int) (s:t10):Option Int :=
(fun n4 n5 =>
 aa (decide (n5 < (l1.length:Int))) (
 aa (decide (0<=n5)) (
 Q1 (l1[n5.toNat]?) fun n6 =>
 aa (n2==n6) (
 some n5) (
 bM (n4,(i64.wrap (n5+1))))) none) (
 tU n4)) s.1 s.2
theorem Te (d:Nat) (l1:List Int) (n2:Int):ya (d+1) l1 n2 =
 Q9 (pX d l1 n2 (FY d)) Qd (0,0):=by kernel_rfl
theorem Tf (d:Nat) (l1:List Int) (n2:Int):FZ (d+1) l1 n2 =
 Q1 (ya d l1 n2) fun r3 =>
 some (decide (r3>=0)):=by kernel_rfl
noncomputable def yb (d:Nat) (b4:Bool) (l5 l6:List Int):Option ((List Int)×Bool) :=
 some (l6,true)
noncomputable def yd (d:Nat) (x1:t3) (tV:Bool->(List Int)->(List Int)->Option ((List Int)×Bool)) (bM:(Int×(List Int)×Bool×(List Int))->Option ((List Int)×Bool)) (s:(Int×(List Int)×Bool×(List Int))):Option ((List Int)×Bool) :=
(fun n4 (l5:List Int) (b6:Bool) (l7:List Int) =>
 aa (decide (n4>=0)) (
 Q1 (FZ d l7 n4) fun r8 =>
 aa r8 (
 some (l7,false)) (
 aa (Nat.ble ((l7.length+[n4].length)*8) Q7) (
 aa (decide (0<=n4)) (
 Q1 (x1.2.1[n4.toNat]?) fun x9 =>
 Q1 (IU d x1 x9.2.1) fun o_ =>
 bM (o_,l5,b6,(l7++[n4]))) none) none)) (
 tV b6 l5 l7)) s.1 s.2.1 s.2.2.1 s.2.2.2
theorem Tg (d:Nat) (x1:t3) (n2:Int):F0 (d+1) x1 n2 =
 Q9 (yd d x1 (yb d)) Qd (n2,[],false,([]:List Int)):=by kernel_rfl
noncomputable def F1 (d:Nat) (b3:Bool):Option Bool :=
 some true
noncomputable def pY (d:Nat) (x1:t3) (tW:Bool->Option Bool) (bV:t9->Option Bool) (s:t9):Option Bool :=
(fun (b3:Bool) n4 =>
 aa (decide (n4 < (x1.2.1.length:Int))) (
 Q1 (F0 d x1 n4) fun r5 =>
 aa (!r5.2) (
 some false) (
 aa (decide ((r5.1.length:Int) > 8)) (
 some false) (
 aa (decide (0<=((i64.wrap ((r5.1.length:Int) - 1)):Int))) (
 aa (Nat.blt (((i64.wrap ((r5.1.length:Int) - 1)):Int).toNat) r5.1.length) (
 Q1 (r5.1[((i64.wrap ((r5.1.length:Int) - 1)):Int).toNat]?) fun n6 =>
 aa (decide (0<=n6)) (
 Q1 (x1.2.1[n6.toNat]?) fun x7 =>
 aa (x7.2.1 != 0) (
 some false) (
 bV (b3,(i64.wrap (n4+1))))) none) none) none))) (
 tW b3)) s.1 s.2
theorem Th (d:Nat) (x1:t3):F2 (d+1) x1 =
 Q9 (pY d x1 (F1 d)) Qd (false,0):=by kernel_rfl
theorem Ti (d:Nat) (x1:t1):F3 (d+1) x1 =
 aa (decide (x1.2.2.1>=1)) (
 aa (decide (x1.2.2.1<=100000)) (
 aa (decide (x1.2.2.2.1>=x1.2.2.1)) (
 some (decide (x1.2.2.2.1<=100000))) (
 some false)) (
 some false)) (
 some false):=by kernel_rfl
noncomputable def ji (d:Nat) (n3:Int):Option Bool :=
 some (!(decide (((-1):Int)>=0)))
noncomputable def dL (d:Nat) (x1:t3) (gq:Int->Option Bool) (bV:t10->Option Bool) (s:t10):Option Bool :=
(fun n3 n4 =>
 aa (decide (n4 < (x1.2.1.length:Int))) (
 aa (decide (0<=n4)) (
 Q1 (x1.2.1[n4.toNat]?) fun x5 =>
 aa (decide (x5.2.2.1 < 0)) (
 some (!(decide (n4>=0)))) (
 aa (decide (x5.2.2.1 > 1000000000)) (
 some (!(decide (n4>=0)))) (
 bV (n3,(i64.wrap (n4+1)))))) none) (
 gq n3)) s.1 s.2
theorem Tj (d:Nat) (x1:t3):F4 (d+4) x1 =
 Q9 (dL d x1 (ji d)) Qd (0,0):=by kernel_rfl
noncomputable def F5 (d:Nat) (l4:List Int):Option (List Int) :=
 some l4
noncomputable def pZ (d:Nat) (x1:t3) (n2:Int) (tX:(List Int)->Option (List Int)) (bM:t15->Option (List Int)) (s:t15):Option (List Int) :=
(fun (l4:List Int) n5 =>
 aa (decide (n5 < (x1.2.1.length:Int))) (
 aa (decide (0<=n5)) (
 Q1 (x1.2.1[n5.toNat]?) fun x6 =>
 aa (decide (0<=n2)) (
 Q1 (x1.2.1[n2.toNat]?) fun x7 =>
 aa (x6.2.1==x7.1) (
 aa (Nat.ble ((l4.length+[n5].length)*8) Q7) (
 bM ((l4++[n5]),(i64.wrap (n5+1)))) none) (
 bM (l4,(i64.wrap (n5+1))))) none) none) (
 tX l4)) s.1 s.2
theorem Tl (d:Nat) (x1:t3) (n2:Int):ye (d+1) x1 n2 =
 Q9 (pZ d x1 n2 (F5 d)) Qd (([]:List Int),0):=by kernel_rfl
noncomputable def F6 (d:Nat) (n5:Int):Option Int :=
 some n5
noncomputable def p5 (d:Nat) (x1:t3) (r3:List Int) (tY:Int->Option Int) (jf:t10->Option Int) (s:t10):Option Int :=
(fun n5 n6 =>
 aa (decide (n6 < (r3.length:Int))) (
 aa (decide (0<=n6)) (
 aa (Nat.blt (n6.toNat) r3.length) (
 Q1 (r3[n6.toNat]?) fun n7 =>
 aa (decide (0<=n7)) (
 Q1 (x1.2.1[n7.toNat]?) fun x8 =>
 jf ((i64.wrap (n5+x8.2.2.1)),(i64.wrap (n6+1)))) none) none) none) (
 tY n5)) s.1 s.2
theorem Tm (d:Nat) (x1:t3) (n2:Int):F7 (d+1) x1 n2 =
 Q1 (ye d x1 n2) fun r3 =>
 Q9 (p5 d x1 r3 (F6 d)) Qd (0,0):=by kernel_rfl
noncomputable def F8 (d:Nat) (l3:List Int):Option (List Int) :=
 some l3
noncomputable def p6 (d:Nat) (x1:t3) (tZ:(List Int)->Option (List Int)) (bV:t15->Option (List Int)) (s:t15):Option (List Int) :=
(fun (l3:List Int) n4 =>
 aa (decide (n4 < (x1.2.1.length:Int))) (
 aa (decide (0<=n4)) (
 Q1 (x1.2.1[n4.toNat]?) fun x5 =>
 Q1 (F7 d x1 n4) fun r6 =>
 aa (decide (r6 > x5.2.2.1)) (
 aa (Nat.ble ((l3.length+[n4].length)*8) Q7) (
 bV ((l3++[n4]),(i64.wrap (n4+1)))) none) (
 bV (l3,(i64.wrap (n4+1))))) none) (
 tZ l3)) s.1 s.2
theorem Tn (d:Nat) (x1:t3):F9 (d+1) x1 =
 Q9 (p6 d x1 (F8 d)) Qd (([]:List Int),0):=by kernel_rfl
theorem To (d:Nat) (x1:t1):F_ (d+1) x1 =
 aa (decide (x1.2.2.2.2.1>=1500)) (
 aa (decide (x1.2.2.2.2.1<=1000000)) (
 aa (decide (x1.2.2.2.2.2.1>=1500)) (
 aa (decide (x1.2.2.2.2.2.1<=1000000)) (
 aa (decide (x1.2.2.2.2.2.2.1>=0)) (
 some (decide (x1.2.2.2.2.2.2.1<=7))) (
 some false)) (
 some false)) (
 some false)) (
 some false)) (
 some false):=by kernel_rfl
noncomputable def jY (d:Nat) (n4:Int):Option Bool :=
 some (!(decide (((-1):Int)>=0)))
noncomputable def eg (d:Nat) (x1:t3) (n2:Int) (g_:Int->Option Bool) (bM:t10->Option Bool) (s:t10):Option Bool :=
(fun n4 n5 =>
 aa (decide (n5 < (x1.2.1.length:Int))) (
 aa (decide (0<=n5)) (
 Q1 (x1.2.1[n5.toNat]?) fun x6 =>
 aa (decide (0<=n2)) (
 Q1 (x1.2.1[n2.toNat]?) fun x7 =>
 aa (x6.2.1==x7.1) (
 some (!(decide (n5>=0)))) (
 bM (n4,(i64.wrap (n5+1))))) none) none) (
 g_ n4)) s.1 s.2
theorem e75 (d:Nat) (x1:t3) (n2:Int):Ga (d+4) x1 n2 =
 Q9 (eg d x1 n2 (jY d)) Qd (0,0):=by kernel_rfl
theorem Tp (d:Nat) (x1:t3) (n2:Int):Gb (d+1) x1 n2 =
 aa (decide (0<=n2)) (
 Q1 (x1.2.1[n2.toNat]?) fun x3 =>
 Q1 (Ga d x1 n2) fun r4 =>
 aa r4 (
 aa (decide (x3.2.2.2.2.2.2.2>=1)) (
 some (decide (x3.2.2.2.2.2.2.2<=60))) (
 some false)) (
 some (x3.2.2.2.2.2.2.2==0))) none:=by kernel_rfl
theorem Tq (d:Nat) (x1:t3) (n2:Int):yg (d+1) x1 n2 =
 Q1 (IU d x1 n2) fun r3 =>
 aa (decide (r3>=0)) (
 Q1 (Ga d x1 r3) fun r4 =>
 some r4) (
 some false):=by kernel_rfl
theorem Tt (d:Nat) (x1:t5):Gc (d+1) x1 =
 aa (decide (x1.1>=1)) (
 aa (decide (x1.1<=99)) (
 aa (decide (x1.2.1>=0)) (
 aa (decide (x1.2.1<=3)) (
 aa (decide (x1.2.2.1>=0)) (
 aa (decide (x1.2.2.1<=65535)) (
 aa (decide (x1.2.2.2.1>=0)) (
 aa (decide (x1.2.2.2.1<=65535)) (
 some (((i64.wrap ((BitVec.ofInt i64.bits x1.2.2.2.1 &&& ~~~BitVec.ofInt i64.bits x1.2.2.1).toNat:Int)):Int)==0)) (
 some false)) (
 some false)) (
 some false)) (
 some false)) (
 some false)) (
 some false)) (
 some false)) (
 some false):=by kernel_rfl
noncomputable def yh (d:Nat) (x1:t3) (b3:Bool):Option Bool :=
 some (decide ((x1.2.2.1.length:Int)<=16))
noncomputable def jj (d:Nat) (bV:t9->Option Bool) (b3:Bool) (n4:Int) (b6 b7 b8 b9 KL DD:Bool):Option Bool :=
 aa DD (
 some false) (
 bV (b3,(i64.wrap (n4+1))))
noncomputable def p7 (d:Nat) (x1:t3) (t_:Bool->Option Bool) (bV:t9->Option Bool) (s:t9):Option Bool :=
(fun (b3:Bool) n4 =>
 aa (decide (n4 < (x1.2.2.1.length:Int))) (
 aa (decide (0<=n4)) (
 Q1 (x1.2.2.1[n4.toNat]?) fun x5 =>
 Q1 (Gc d x5) fun r6 =>
 aa (!r6) (
 jj d bV b3 n4 r6 (!r6) true true true true) (
 aa (decide (n4 > 0)) (
 aa (decide (0<=((i64.wrap (n4 - 1)):Int))) (
 Q1 (x1.2.2.1[((i64.wrap (n4 - 1)):Int).toNat]?) fun x7 =>
 aa (decide (x5.1<=x7.1)) (
 jj d bV b3 n4 r6 (!r6) false (decide (x5.1<=x7.1)) true true) (
 Q1 (yg d x1 x5.2.2.2.2) fun r8 =>
 jj d bV b3 n4 r6 (!r6) false (decide (x5.1<=x7.1)) false (!r8))) none) (
 Q1 (yg d x1 x5.2.2.2.2) fun r9 =>
 jj d bV b3 n4 r6 (!r6) false false false (!r9)))) none) (
 t_ b3)) s.1 s.2
theorem Tu (d:Nat) (x1:t3):Ge (d+1) x1 =
 Q9 (p7 d x1 (yh d x1)) Qd (false,0):=by kernel_rfl
noncomputable def jk (d:Nat) (n8:Int):Option Bool :=
 some (!(decide (((-1):Int)>=0)))
noncomputable def dM (d:Nat) (x1:t3) (cJ:Int->Option Bool) (Tv:t10->Option Bool) (s:t10):Option Bool :=
(fun n8 n9 =>
 aa (decide (n9 < (x1.2.1.length:Int))) (
 aa (decide (0<=n9)) (
 Q1 (x1.2.1[n9.toNat]?) fun aR =>
 Q1 (F3 d aR) fun gX =>
 aa (!gX) (
 some (!(decide (n9>=0)))) (
 Tv (n8,(i64.wrap (n9+1))))) none) (
 cJ n8)) s.1 s.2
noncomputable def jl (d:Nat) (gH:Int):Option Bool :=
 some (!(decide (((-1):Int)>=0)))
noncomputable def dw (d:Nat) (x1:t3) (cJ:Int->Option Bool) (iG:t10->Option Bool) (s:t10):Option Bool :=
(fun gH dK =>
 aa (decide (dK < (x1.2.1.length:Int))) (
 aa (decide (0<=dK)) (
 Q1 (x1.2.1[dK.toNat]?) fun x17 =>
 Q1 (F_ d x17) fun BV =>
 aa (!BV) (
 some (!(decide (dK>=0)))) (
 iG (gH,(i64.wrap (dK+1))))) none) (
 cJ gH)) s.1 s.2
noncomputable def Gf (d:Nat) (KM:Bool):Option Bool :=
 some true
noncomputable def p8 (d:Nat) (x1:t3) (ua:Bool->Option Bool) (Tw:t9->Option Bool) (s:t9):Option Bool :=
(fun (KM:Bool) pG =>
 aa (decide (pG < (x1.2.1.length:Int))) (
 Q1 (Gb (d+3) x1 pG) fun rR =>
 aa (!rR) (
 some false) (
 Tw (KM,(i64.wrap (pG+1))))) (
 ua KM)) s.1 s.2
theorem AY (d:Nat) (x1:t3) (n2:Int):hO (d+4) x1 n2 =
 aa (n2==1) (
 Q1 (FR (d+3) x1.1) fun r3 =>
 some r3) (
 aa (n2==2) (
 Q1 (FU (d+3) x1) fun r4 =>
 some r4) (
 aa (n2==3) (
 Q1 (FX (d+3) x1) fun r5 =>
 some r5) (
 aa (n2==4) (
 Q1 (F2 (d+3) x1) fun r6 =>
 some r6) (
 aa (n2==5) (
 Q9 (dM d x1 (jk d)) Qd (0,0)) (
 aa (n2==6) (
 Q1 (F4 (d+3) x1) fun mQ =>
 aa mQ (
 Q1 (F9 (d+3) x1) fun tN =>
 some ((tN.length:Int)==0)) (
 some false)) (
 aa (n2==7) (
 Q9 (dw d x1 (jl d)) Qd (0,0)) (
 aa (n2==8) (
 Q9 (p8 d x1 (Gf d)) Qd (false,0)) (
 aa (n2==9) (
 Q1 (Ge (d+3) x1) fun AZ =>
 some AZ) (
 aa (x1.2.2.2==0) (
 some true) (
 Q1 (yg (d+3) x1 x1.2.2.2) fun Ky =>
 some Ky)))))))))):=by kernel_rfl
noncomputable def gr (d:Nat) (b4:Bool):Option Bool :=
 some true
noncomputable def fj (d:Nat) (x1:t3) (yj:Bool->Option Bool) (bM:t9->Option Bool) (s:t9):Option Bool :=
(fun (b4:Bool) n5 =>
 aa (decide (n5<=10)) (
 Q1 (hO d x1 n5) fun r6 =>
 aa (!r6) (
 some false) (
 bM (b4,(i64.wrap (n5+1))))) (
 yj b4)) s.1 s.2
noncomputable def ym (d:Nat) (x1:t3) (b2:Bool):Option Bool :=
 aa b2 (
 some false) (
 Q9 (fj d x1 (gr d)) Qd (false,1))
theorem e73 (d:Nat) (x1:t3):IV (d+1) x1 =
 aa (decide ((x1.2.1.length:Int) > 24)) (
 ym d x1 true) (
 ym d x1 (decide ((x1.2.2.1.length:Int) > 16))):=by kernel_rfl
theorem Tx (d:Nat) (l1:List t1):BY (d+1) l1 =
 IW l1.length (
 some []) (
 aa (Nat.ble ((([]:List t1).length+l1.length)*64) Q7) (
 some (([]:List t1)++l1)) none):=by kernel_rfl
theorem Tz (d:Nat) (l1:List t5):yp (d+1) l1 =
 IW l1.length (
 some []) (
 aa (Nat.ble ((([]:List t5).length+l1.length)*40) Q7) (
 some (([]:List t5)++l1)) none):=by kernel_rfl
theorem e76 (d:Nat) (x1:t3):Sf (d+1) x1 =
 Q1 (BY d x1.2.1) fun r2 =>
 Q1 (yp d x1.2.2.1) fun r3 =>
 some (x1.1,r2,r3,x1.2.2.2):=by kernel_rfl
theorem e77 (d:Nat) (x1:t3):On (d+1) x1 =
 Q1 (IV d x1) fun r2 =>
 aa (!r2) (
 some (((⟨#[]⟩:ByteArray),([]:List t1),([]:List t5),0),false)) (
 some (x1,true)):=by kernel_rfl
noncomputable def wX (d:Nat) (x1:t3) (n3 r5:Int) (b6:Bool):Option (t3×Bool) :=
 aa b6 (
 some (((⟨#[]⟩:ByteArray),([]:List t1),([]:List t5),0),false)) (
 Q1 (Sf d x1) fun r7 =>
 aa (decide (0<=r5)) (
 aa (Nat.blt (r5.toNat) r7.2.1.length) (
 Q1 (r7.2.1[r5.toNat]?) fun x8 =>
 Q1 (On d (r7.1,(r7.2.1.set (r5.toNat) (x8.1,x8.2.1,x8.2.2.1,x8.2.2.2.1,x8.2.2.2.2.1,x8.2.2.2.2.2.1,x8.2.2.2.2.2.2.1,n3)),r7.2.2)) fun r9 =>
 some (r9.1,r9.2)) none) none)
theorem e33 (d:Nat) (x1:t3) (n2 n3:Int):Sk (d+1) x1 n2 n3 =
 Q1 (IV d x1) fun r4 =>
 aa (!r4) (
 some (((⟨#[]⟩:ByteArray),([]:List t1),([]:List t5),0),false)) (
 Q1 (IU d x1 n2) fun r5 =>
 aa (decide (r5 < 0)) (
 wX d x1 n3 r5 true) (
 Q1 (Ga d x1 r5) fun r6 =>
 wX d x1 n3 r5 (!r6))):=by kernel_rfl
theorem TA (d:Nat) (n1 n2:Int):uc (d+1) n1 n2 =
 aa (decide (n1 < n2)) (
 some (-1)) (
 aa (decide (n1 > n2)) (
 some 1) (
 some 0)):=by kernel_rfl
noncomputable def p9 (d:Nat) (l6:List t1):Option (List t1) :=
 some l6
noncomputable def p_ (d:Nat) (gW:t13->Option (List t1)) (n6 n9 dW:Int) (DD Oz:Bool) (fU:List t1):Option (List t1) :=
 gW ((i64.wrap (n6+1)),fU)
noncomputable def lH (d:Nat) (fC:Int->Int->Bool->Bool->(List t1)->Option (List t1)) (n2:Int) (xT:t13->Option (List t1)) (n9:Int) (l10:List t1) (DD Oz:Bool):Option (List t1) :=
 aa Oz (
 aa (decide (0<=((i64.wrap (n9 - 1)):Int))) (
 aa (Nat.blt (((i64.wrap (n9 - 1)):Int).toNat) l10.length) (
 Q1 (l10[((i64.wrap (n9 - 1)):Int).toNat]?) fun gI =>
 aa (decide (0<=n9)) (
 aa (Nat.blt (n9.toNat) l10.length) (
 Q1 (l10[n9.toNat]?) fun mS =>
 aa (decide (0<=n9)) (
 aa (Nat.blt (n9.toNat) l10.length) (
 Q1 (l10[n9.toNat]?) fun TB =>
 aa (decide (0<=((i64.wrap (n9 - 1)):Int))) (
 aa (Nat.blt (((i64.wrap (n9 - 1)):Int).toNat) ((l10.set (n9.toNat) gI).length)) (
 Q1 ((l10.set (n9.toNat) gI)[((i64.wrap (n9 - 1)):Int).toNat]?) fun oC =>
 xT ((i64.wrap (n9 - 1)),((l10.set (n9.toNat) gI).set (((i64.wrap (n9 - 1)):Int).toNat) mS))) none) none) none) none) none) none) none) none) (
 fC n9 n9 (decide (n9 > n2)) DD l10)
noncomputable def yq (d:Nat) (n2:Int) (fC:Int->Int->Bool->Bool->(List t1)->Option (List t1)) (xT:t13->Option (List t1)) (s:t13):Option (List t1) :=
(fun n9 (l10:List t1) =>
 aa (decide (n9 > n2)) (
 aa (decide (0<=n9)) (
 aa (Nat.blt (n9.toNat) l10.length) (
 Q1 (l10[n9.toNat]?) fun bQ =>
 aa (decide (0<=((i64.wrap (n9 - 1)):Int))) (
 aa (Nat.blt (((i64.wrap (n9 - 1)):Int).toNat) l10.length) (
 Q1 (l10[((i64.wrap (n9 - 1)):Int).toNat]?) fun dF =>
 Q1 (uc d bQ.1 dF.1) fun tN =>
 lH d fC n2 xT n9 l10 true (decide (tN < 0))) none) none) none) none) (
 lH d fC n2 xT n9 l10 false false)) s.1 s.2
noncomputable def qa (d:Nat) (n2 n3:Int) (ud:(List t1)->Option (List t1)) (gW:t13->Option (List t1)) (s:t13):Option (List t1) :=
(fun n6 (l7:List t1) =>
 aa (decide (n6 < n3)) (
 Q9 (yq d n2 (p_ d gW n6)) Qd (n6,l7)) (
 ud l7)) s.1 s.2
theorem TC (d:Nat) (l1:List t1) (n2 n3:Int) (b4:Bool):BZ (d+2) l1 n2 n3 b4 =
 Q9 (qa d n2 n3 (p9 d)) Qd ((i64.wrap (n2+1)),l1):=by kernel_rfl
noncomputable def yt (d:Nat) (l7:List t1):Option (List t1) :=
 some l7
noncomputable def yu (d:Nat) (n2 n3 n4:Int) (ue:(List t1)->Option (List t1)) (gm:t13->Option (List t1)) (s:t13):Option (List t1) :=
(fun n7 (l8:List t1) =>
 aa (decide (n7 < n4)) (
 aa (decide (0<=((i64.wrap (n3+n7)):Int))) (
 aa (Nat.blt (((i64.wrap (n3+n7)):Int).toNat) l8.length) (
 Q1 (l8[((i64.wrap (n3+n7)):Int).toNat]?) fun x9 =>
 aa (decide (0<=((i64.wrap (n2+n7)):Int))) (
 aa (Nat.blt (((i64.wrap (n2+n7)):Int).toNat) l8.length) (
 Q1 (l8[((i64.wrap (n2+n7)):Int).toNat]?) fun aR =>
 aa (decide (0<=((i64.wrap (n2+n7)):Int))) (
 aa (Nat.blt (((i64.wrap (n2+n7)):Int).toNat) l8.length) (
 Q1 (l8[((i64.wrap (n2+n7)):Int).toNat]?) fun bQ =>
 aa (decide (0<=((i64.wrap (n3+n7)):Int))) (
 aa (Nat.blt (((i64.wrap (n3+n7)):Int).toNat) ((l8.set (((i64.wrap (n2+n7)):Int).toNat) x9).length)) (
 Q1 ((l8.set (((i64.wrap (n2+n7)):Int).toNat) x9)[((i64.wrap (n3+n7)):Int).toNat]?) fun dF =>
 gm ((i64.wrap (n7+1)),((l8.set (((i64.wrap (n2+n7)):Int).toNat) x9).set (((i64.wrap (n3+n7)):Int).toNat) aR))) none) none) none) none) none) none) none) none) (
 ue l8)) s.1 s.2
theorem TD (d:Nat) (l1:List t1) (n2 n3 n4:Int) (b5:Bool):yw (d+1) l1 n2 n3 n4 b5 =
 Q9 (yu d n2 n3 n4 (yt d)) Qd (0,l1):=by kernel_rfl
noncomputable def yx (d:Nat) (n3 n7:Int) (l8:List t1):Option (List t1) :=
 Q1 (yw d l8 (i64.wrap (n3 - n7)) n3 n7 false) fun r9 =>
 some r9
noncomputable def yy (d:Nat) (n3:Int) (ug:Int->(List t1)->Option (List t1)) (gm:(Int×Int×(List t1))->Option (List t1)) (s:(Int×Int×(List t1))):Option (List t1) :=
(fun n7 n8 (l9:List t1) =>
 aa (n7 != n8) (
 aa (decide (n7 > n8)) (
 Q1 (yw d l9 (i64.wrap (n3 - n7)) n3 n8 false) fun o_ =>
 gm ((i64.wrap (n7 - n8)),n8,o_)) (
 Q1 (yw d l9 (i64.wrap (n3 - n7)) (i64.wrap ((i64.wrap (n3+n8)) - n7)) n7 false) fun gX =>
 gm (n7,(i64.wrap (n8 - n7)),gX))) (
 ug n7 l9)) s.1 s.2.1 s.2.2
theorem TE (d:Nat) (l1:List t1) (n2 n3 n4:Int) (b5:Bool):Gg (d+1) l1 n2 n3 n4 b5 =
 Q9 (yy d n3 (yx d n3)) Qd ((i64.wrap (n3 - n2)),(i64.wrap (n4 - n3)),l1):=by kernel_rfl
noncomputable def qb (d:Nat) (l9:List t1):Option (List t1) :=
 some l9
noncomputable def qc (d:Nat) (n7:Int) (uh:(List t1)->Option (List t1)) (xT:t13->Option (List t1)) (s:t13):Option (List t1) :=
(fun n9 (l10:List t1) =>
 aa (decide (n9 < (i64.wrap (n7 - 1)))) (
 aa (decide (0<=((i64.wrap (n9+1)):Int))) (
 aa (Nat.blt (((i64.wrap (n9+1)):Int).toNat) l10.length) (
 Q1 (l10[((i64.wrap (n9+1)):Int).toNat]?) fun bQ =>
 aa (decide (0<=n9)) (
 aa (Nat.blt (n9.toNat) l10.length) (
 Q1 (l10[n9.toNat]?) fun dF =>
 aa (decide (0<=n9)) (
 aa (Nat.blt (n9.toNat) l10.length) (
 Q1 (l10[n9.toNat]?) fun gI =>
 aa (decide (0<=((i64.wrap (n9+1)):Int))) (
 aa (Nat.blt (((i64.wrap (n9+1)):Int).toNat) ((l10.set (n9.toNat) bQ).length)) (
 Q1 ((l10.set (n9.toNat) bQ)[((i64.wrap (n9+1)):Int).toNat]?) fun mS =>
 xT ((i64.wrap (n9+1)),((l10.set (n9.toNat) bQ).set (((i64.wrap (n9+1)):Int).toNat) dF))) none) none) none) none) none) none) none) none) (
 uh l10)) s.1 s.2
noncomputable def lI (d:Nat) (l1:List t1) (n2 n7:Int):Option (List t1) :=
 Q9 (qc d n7 (qb d)) Qd (n2,l1)
noncomputable def qd (d:Nat) (l1:List t1) (n2:Int) (uj:Int->Option (List t1)) (gm:t10->Option (List t1)) (s:t10):Option (List t1) :=
(fun n7 n8 =>
 aa (decide (n7 < n8)) (
 aa (decide (0<=((i64.wrap ((u64.wrap (i64.wrap (n7+n8))).fdiv (2 ^ (min (1:Int).toNat u64.bits)))):Int))) (
 aa (Nat.blt (((i64.wrap ((u64.wrap (i64.wrap (n7+n8))).fdiv (2 ^ (min (1:Int).toNat u64.bits)))):Int).toNat) l1.length) (
 Q1 (l1[((i64.wrap ((u64.wrap (i64.wrap (n7+n8))).fdiv (2 ^ (min (1:Int).toNat u64.bits)))):Int).toNat]?) fun x9 =>
 aa (decide (0<=n2)) (
 aa (Nat.blt (n2.toNat) l1.length) (
 Q1 (l1[n2.toNat]?) fun aR =>
 Q1 (uc d x9.1 aR.1) fun gX =>
 aa (decide (gX < 0)) (
 gm ((i64.wrap ((i64.wrap ((u64.wrap (i64.wrap (n7+n8))).fdiv (2 ^ (min (1:Int).toNat u64.bits))))+1)),n8)) (
 gm (n7,(i64.wrap ((u64.wrap (i64.wrap (n7+n8))).fdiv (2 ^ (min (1:Int).toNat u64.bits))))))) none) none) none) none) (
 uj n7)) s.1 s.2
noncomputable def qe (d:Nat) (oD:List t1):Option (List t1) :=
 some oD
noncomputable def qf (d:Nat) (dK:Int) (uk:(List t1)->Option (List t1)) (Gh:t13->Option (List t1)) (s:t13):Option (List t1) :=
(fun eJ (gY:List t1) =>
 aa (decide (eJ > dK)) (
 aa (decide (0<=((i64.wrap (eJ - 1)):Int))) (
 aa (Nat.blt (((i64.wrap (eJ - 1)):Int).toNat) gY.length) (
 Q1 (gY[((i64.wrap (eJ - 1)):Int).toNat]?) fun B3 =>
 aa (decide (0<=eJ)) (
 aa (Nat.blt (eJ.toNat) gY.length) (
 Q1 (gY[eJ.toNat]?) fun x21 =>
 aa (decide (0<=eJ)) (
 aa (Nat.blt (eJ.toNat) gY.length) (
 Q1 (gY[eJ.toNat]?) fun TF =>
 aa (decide (0<=((i64.wrap (eJ - 1)):Int))) (
 aa (Nat.blt (((i64.wrap (eJ - 1)):Int).toNat) ((gY.set (eJ.toNat) B3).length)) (
 Q1 ((gY.set (eJ.toNat) B3)[((i64.wrap (eJ - 1)):Int).toNat]?) fun Zw =>
 Gh ((i64.wrap (eJ - 1)),((gY.set (eJ.toNat) B3).set (((i64.wrap (eJ - 1)):Int).toNat) x21))) none) none) none) none) none) none) none) none) (
 uk gY)) s.1 s.2
noncomputable def lJ (d:Nat) (l1:List t1) (n3 dK:Int):Option (List t1) :=
 Q9 (qf d dK (qe d)) Qd (n3,l1)
noncomputable def qg (d:Nat) (l1:List t1) (n3:Int) (um:Int->Option (List t1)) (nF:t10->Option (List t1)) (s:t10):Option (List t1) :=
(fun dK eC =>
 aa (decide (dK < eC)) (
 aa (decide (0<=n3)) (
 aa (Nat.blt (n3.toNat) l1.length) (
 Q1 (l1[n3.toNat]?) fun fT =>
 aa (decide (0<=((i64.wrap ((u64.wrap (i64.wrap (dK+eC))).fdiv (2 ^ (min (1:Int).toNat u64.bits)))):Int))) (
 aa (Nat.blt (((i64.wrap ((u64.wrap (i64.wrap (dK+eC))).fdiv (2 ^ (min (1:Int).toNat u64.bits)))):Int).toNat) l1.length) (
 Q1 (l1[((i64.wrap ((u64.wrap (i64.wrap (dK+eC))).fdiv (2 ^ (min (1:Int).toNat u64.bits)))):Int).toNat]?) fun nD =>
 Q1 (uc d fT.1 nD.1) fun BT =>
 aa (!(decide (BT < 0))) (
 nF ((i64.wrap ((i64.wrap ((u64.wrap (i64.wrap (dK+eC))).fdiv (2 ^ (min (1:Int).toNat u64.bits))))+1)),eC)) (
 nF (dK,(i64.wrap ((u64.wrap (i64.wrap (dK+eC))).fdiv (2 ^ (min (1:Int).toNat u64.bits))))))) none) none) none) none) (
 um dK)) s.1 s.2
noncomputable def lK (d:Nat) (n2 n3 n4 eL:Int) (kD:List t1) (b32:Bool):Option (List t1) :=
 aa b32 (
 Q1 (uo (d+1) kD (i64.wrap ((u64.wrap (i64.wrap (n2+n4))).fdiv (2 ^ (min (1:Int).toNat u64.bits)))) (i64.wrap ((i64.wrap ((i64.wrap ((u64.wrap (i64.wrap (n2+n4))).fdiv (2 ^ (min (1:Int).toNat u64.bits))))+n3)) - eL)) n4 false) fun lD =>
 some lD) (
 some kD)
noncomputable def lM (d:Nat) (n2 n3 n4 eL:Int) (kD:List t1):Option (List t1) :=
 aa (decide (((i64.wrap ((u64.wrap (i64.wrap (n2+n4))).fdiv (2 ^ (min (1:Int).toNat u64.bits)))):Int) < (i64.wrap ((i64.wrap ((i64.wrap ((u64.wrap (i64.wrap (n2+n4))).fdiv (2 ^ (min (1:Int).toNat u64.bits))))+n3)) - eL)))) (
 lK d n2 n3 n4 eL kD (decide (((i64.wrap ((i64.wrap ((i64.wrap ((u64.wrap (i64.wrap (n2+n4))).fdiv (2 ^ (min (1:Int).toNat u64.bits))))+n3)) - eL)):Int) < n4))) (
 lK d n2 n3 n4 eL kD false)
noncomputable def lN (d:Nat) (n2 n3 n4 eL:Int) (oE:List t1) (b30:Bool):Option (List t1) :=
 aa b30 (
 Q1 (uo (d+1) oE n2 eL (i64.wrap ((u64.wrap (i64.wrap (n2+n4))).fdiv (2 ^ (min (1:Int).toNat u64.bits)))) false) fun uq =>
 lM d n2 n3 n4 eL uq) (
 lM d n2 n3 n4 eL oE)
noncomputable def lO (d:Nat) (n2 n3 n4 eL:Int) (oE:List t1):Option (List t1) :=
 aa (decide (n2 < eL)) (
 lN d n2 n3 n4 eL oE (decide (eL < (i64.wrap ((u64.wrap (i64.wrap (n2+n4))).fdiv (2 ^ (min (1:Int).toNat u64.bits))))))) (
 lN d n2 n3 n4 eL oE false)
noncomputable def lP (d:Nat) (l1:List t1) (n2 n3 n4 eL:Int) (b28:Bool):Option (List t1) :=
 aa b28 (
 Q1 (Gg (d+1) l1 eL n3 (i64.wrap ((i64.wrap ((i64.wrap ((u64.wrap (i64.wrap (n2+n4))).fdiv (2 ^ (min (1:Int).toNat u64.bits))))+n3)) - eL)) false) fun ur =>
 lO d n2 n3 n4 eL ur) (
 lO d n2 n3 n4 eL l1)
noncomputable def lQ (d:Nat) (l1:List t1) (n2 n3 n4 eL:Int):Option (List t1) :=
 aa (decide (eL < n3)) (
 lP d l1 n2 n3 n4 eL (decide (n3 < (i64.wrap ((i64.wrap ((i64.wrap ((u64.wrap (i64.wrap (n2+n4))).fdiv (2 ^ (min (1:Int).toNat u64.bits))))+n3)) - eL))))) (
 lP d l1 n2 n3 n4 eL false)
noncomputable def qh (d:Nat) (l1:List t1) (n2 n3 n4:Int) (uu:Int->Option (List t1)) (K4:t10->Option (List t1)) (s:t10):Option (List t1) :=
(fun eL A0 =>
 aa (decide (eL < A0)) (
 aa (decide (0<=((i64.wrap ((i64.wrap ((i64.wrap ((i64.wrap ((u64.wrap (i64.wrap (n2+n4))).fdiv (2 ^ (min (1:Int).toNat u64.bits))))+n3)) - 1)) - (i64.wrap ((u64.wrap (i64.wrap (eL+A0))).fdiv (2 ^ (min (1:Int).toNat u64.bits)))))):Int))) (
 aa (Nat.blt (((i64.wrap ((i64.wrap ((i64.wrap ((i64.wrap ((u64.wrap (i64.wrap (n2+n4))).fdiv (2 ^ (min (1:Int).toNat u64.bits))))+n3)) - 1)) - (i64.wrap ((u64.wrap (i64.wrap (eL+A0))).fdiv (2 ^ (min (1:Int).toNat u64.bits)))))):Int).toNat) l1.length) (
 Q1 (l1[((i64.wrap ((i64.wrap ((i64.wrap ((i64.wrap ((u64.wrap (i64.wrap (n2+n4))).fdiv (2 ^ (min (1:Int).toNat u64.bits))))+n3)) - 1)) - (i64.wrap ((u64.wrap (i64.wrap (eL+A0))).fdiv (2 ^ (min (1:Int).toNat u64.bits)))))):Int).toNat]?) fun x29 =>
 aa (decide (0<=((i64.wrap ((u64.wrap (i64.wrap (eL+A0))).fdiv (2 ^ (min (1:Int).toNat u64.bits)))):Int))) (
 aa (Nat.blt (((i64.wrap ((u64.wrap (i64.wrap (eL+A0))).fdiv (2 ^ (min (1:Int).toNat u64.bits)))):Int).toNat) l1.length) (
 Q1 (l1[((i64.wrap ((u64.wrap (i64.wrap (eL+A0))).fdiv (2 ^ (min (1:Int).toNat u64.bits)))):Int).toNat]?) fun x30 =>
 Q1 (uc d x29.1 x30.1) fun uq =>
 aa (!(decide (uq < 0))) (
 K4 ((i64.wrap ((i64.wrap ((u64.wrap (i64.wrap (eL+A0))).fdiv (2 ^ (min (1:Int).toNat u64.bits))))+1)),A0)) (
 K4 (eL,(i64.wrap ((u64.wrap (i64.wrap (eL+A0))).fdiv (2 ^ (min (1:Int).toNat u64.bits))))))) none) none) none) none) (
 uu eL)) s.1 s.2
noncomputable def iP (d:Nat) (l1:List t1) (n2 n3 n4 fF DH:Int):Option (List t1) :=
 Q9 (qh d l1 n2 n3 n4 (lQ d l1 n2 n3 n4)) Qd (fF,DH)
theorem TG (d:Nat) (l1:List t1) (n2 n3 n4:Int) (b5:Bool):uo (d+2) l1 n2 n3 n4 b5 =
 aa (((i64.wrap (n3 - n2)):Int)==1) (
 Q9 (qd d l1 n2 (lI d l1 n2)) Qd (n3,n4)) (
 aa (((i64.wrap (n4 - n3)):Int)==1) (
 Q9 (qg d l1 n3 (lJ d l1 n3)) Qd (n2,n3)) (
 aa (decide (n3 > (i64.wrap ((u64.wrap (i64.wrap (n2+n4))).fdiv (2 ^ (min (1:Int).toNat u64.bits)))))) (
 iP d l1 n2 n3 n4 (i64.wrap ((i64.wrap ((i64.wrap ((u64.wrap (i64.wrap (n2+n4))).fdiv (2 ^ (min (1:Int).toNat u64.bits))))+n3)) - n4)) (i64.wrap ((u64.wrap (i64.wrap (n2+n4))).fdiv (2 ^ (min (1:Int).toNat u64.bits))))) (
 iP d l1 n2 n3 n4 n2 n3))):=by kernel_rfl
noncomputable def yz (d:Nat) (l10:List t1):Option (List t1) :=
 some l10
noncomputable def yA (d:Nat) (n2:Int) (DS:(Int×Int×Int×(List t1))->Option (List t1)) (dW gH dK eC:Int) (oD:List t1):Option (List t1) :=
 aa (decide (((i64.wrap (gH+dW)):Int) < n2)) (
 Q1 (uo d oD gH (i64.wrap (gH+dW)) n2 false) fun vN =>
 DS ((i64.wrap (dW*2)),gH,dK,vN)) (
 DS ((i64.wrap (dW*2)),gH,dK,oD))
noncomputable def yB (d:Nat) (n2 dW:Int) (uv:Int->Int->Int->(List t1)->Option (List t1)) (iG:(Int×Int×(List t1))->Option (List t1)) (s:(Int×Int×(List t1))):Option (List t1) :=
(fun gH dK (gp:List t1) =>
 aa (decide (dK<=n2)) (
 Q1 (uo d gp gH (i64.wrap (gH+dW)) dK false) fun BV =>
 iG (dK,(i64.wrap (dK+(i64.wrap ((2:Int)*dW)))),BV)) (
 uv gH dK dK gp)) s.1 s.2.1 s.2.2
noncomputable def yC (d:Nat) (n2:Int) (uw:(List t1)->Option (List t1)) (DS:(Int×Int×Int×(List t1))->Option (List t1)) (s:(Int×Int×Int×(List t1))):Option (List t1) :=
(fun dW iF tM (fU:List t1) =>
 aa (decide (dW < n2)) (
 Q9 (yB d n2 dW (yA d n2 DS dW)) Qd (0,(i64.wrap ((2:Int)*dW)),fU)) (
 uw fU)) s.1 s.2.1 s.2.2.1 s.2.2.2
noncomputable def yD (d:Nat) (n2 n5 n6:Int) (l7:List t1):Option (List t1) :=
 Q1 (BZ d l7 n5 n2 false) fun r8 =>
 Q9 (yC d n2 (yz d)) Qd (20,n5,n6,r8)
noncomputable def yE (d:Nat) (n2:Int) (ux:Int->Int->(List t1)->Option (List t1)) (jf:(Int×Int×(List t1))->Option (List t1)) (s:(Int×Int×(List t1))):Option (List t1) :=
(fun n5 n6 (l7:List t1) =>
 aa (decide (n6<=n2)) (
 Q1 (BZ d l7 n5 n6 false) fun r8 =>
 jf (n6,(i64.wrap (n6+20)),r8)) (
 ux n5 n6 l7)) s.1 s.2.1 s.2.2
theorem TH (d:Nat) (l1:List t1) (n2:Int) (b3:Bool):Gi (d+1) l1 n2 b3 =
 Q9 (yE d n2 (yD d n2)) Qd (0,20,l1):=by kernel_rfl
theorem TI (d:Nat) (l1:List t1) (b2:Bool):B4 (d+1) l1 b2 =
 Q1 (Gi d l1 (l1.length:Int) false) fun r3 =>
 some r3:=by kernel_rfl
noncomputable def yF (d:Nat) (x1:t0) (r2:List t1) (r3:List t5) (b4:Bool):Option t3 :=
 aa b4 (
 aa (decide (0<=x1.2.2.2.2.2.2.2.2)) (
 Q1 (x1.2.1[x1.2.2.2.2.2.2.2.2.toNat]?) fun x5 =>
 Q1 (B4 d r2 false) fun r6 =>
 some (x1.1,r6,r3,x5.1)) none) (
 Q1 (B4 d r2 false) fun r7 =>
 some (x1.1,r7,r3,0))
theorem e71 (d:Nat) (x1:t0):K5 (d+1) x1 =
 Q1 (BY d x1.2.1) fun r2 =>
 Q1 (yp d x1.2.2.2.2.2.2.1) fun r3 =>
 aa (decide (x1.2.2.2.2.2.2.2.2>=0)) (
 yF d x1 r2 r3 (decide (x1.2.2.2.2.2.2.2.2 < (x1.2.1.length:Int)))) (
 yF d x1 r2 r3 false):=by kernel_rfl
theorem TJ (d:Nat) (n1 n2:Int):K6 (d+1) n1 n2 =
 some ((u64.wrap ((u64.wrap ((u64.wrap ((n1.fdiv (2 ^ (min (32:Int).toNat u64.bits)))*(n2.fdiv (2 ^ (min (32:Int).toNat u64.bits)))))+((u64.wrap ((u64.wrap ((n1.fdiv (2 ^ (min (32:Int).toNat u64.bits)))*(u64.wrap ((BitVec.ofInt u64.bits n2 &&& BitVec.ofInt u64.bits 4294967295).toNat:Int))))+((u64.wrap ((u64.wrap ((BitVec.ofInt u64.bits n1 &&& BitVec.ofInt u64.bits 4294967295).toNat:Int))*(u64.wrap ((BitVec.ofInt u64.bits n2 &&& BitVec.ofInt u64.bits 4294967295).toNat:Int)))).fdiv (2 ^ (min (32:Int).toNat u64.bits))))).fdiv (2 ^ (min (32:Int).toNat u64.bits)))))+((u64.wrap ((u64.wrap ((BitVec.ofInt u64.bits (u64.wrap ((u64.wrap ((n1.fdiv (2 ^ (min (32:Int).toNat u64.bits)))*(u64.wrap ((BitVec.ofInt u64.bits n2 &&& BitVec.ofInt u64.bits 4294967295).toNat:Int))))+((u64.wrap ((u64.wrap ((BitVec.ofInt u64.bits n1 &&& BitVec.ofInt u64.bits 4294967295).toNat:Int))*(u64.wrap ((BitVec.ofInt u64.bits n2 &&& BitVec.ofInt u64.bits 4294967295).toNat:Int)))).fdiv (2 ^ (min (32:Int).toNat u64.bits))))) &&& BitVec.ofInt u64.bits 4294967295).toNat:Int))+(u64.wrap ((u64.wrap ((BitVec.ofInt u64.bits n1 &&& BitVec.ofInt u64.bits 4294967295).toNat:Int))*(n2.fdiv (2 ^ (min (32:Int).toNat u64.bits))))))).fdiv (2 ^ (min (32:Int).toNat u64.bits))))),(u64.wrap (n1*n2))):=by kernel_rfl
theorem TK (d:Nat) (n1 n2:Int):Gj (d+1) n1 n2 =
 Q1 (K6 d n1 n2) fun r3 =>
 some (r3.1,r3.2):=by kernel_rfl
noncomputable def yG (d:Nat) (l6:List Int):Option (List Int) :=
 some l6
noncomputable def yH (d:Nat) (uy:(List Int)->Option (List Int)) (gW:t11->Option (List Int)) (s:t11):Option (List Int) :=
(fun n6 (l7:List Int) =>
 aa (decide (n6 < (l7.length:Int))) (
 aa (decide (0<=n6)) (
 aa (Nat.ble (n6.toNat) l7.length) (
 aa (decide (0<=n6)) (
 aa (Nat.ble (n6.toNat) l7.length) (
 gW ((i64.wrap (n6+((min (l7.take (n6.toNat)).length (l7.length - (0+n6.toNat)):Nat):Int))),(mT l7 (0+n6.toNat) (l7.length - (0+n6.toNat)) (l7.take (n6.toNat))))) none) none) none) none) (
 uy l7)) s.1 s.2
noncomputable def qi (d:Nat) (l1:List Int) (r3:t10) (b4:Bool):Option (List Int) :=
 aa b4 (
 none) (
 aa (decide (0<=((i64.wrap r3.2):Int))) (
 aa (decide (0<=((i64.wrap r3.2):Int))) (
 aa (Nat.ble (((i64.wrap r3.2):Int).toNat) (((i64.wrap r3.2):Int).toNat)&&Nat.ble ((((i64.wrap r3.2):Int).toNat)*8) Q7) (
 Q9 (yH d (yG d)) Qd (((min l1.length ((List.replicate (((i64.wrap r3.2):Int).toNat) (0:Int)).length):Nat):Int),(mT (List.replicate (((i64.wrap r3.2):Int).toNat) (0:Int)) 0 ((List.replicate (((i64.wrap r3.2):Int).toNat) (0:Int)).length) l1))) none) none) none)
theorem TL (d:Nat) (l1:List Int) (n2:Int):yI (d+1) l1 n2 =
 aa (decide (n2 < 0)) (
 none) (
 Q1 (Gj d (u64.wrap (l1.length:Int)) (u64.wrap n2)) fun r3 =>
 aa (decide (r3.1 > 0)) (
 qi d l1 r3 true) (
 qi d l1 r3 (decide (r3.2 > 9223372036854775807)))):=by kernel_rfl
theorem TN (d:Nat) (n1:Int):jZ (d+1) n1 =
 B5 n1:=by kernel_rfl
theorem TO (d:Nat) (s1:ByteArray) (n2:Int):K7 (d+1) s1 n2 =
 B6 s1 n2:=by kernel_rfl
theorem TP (d:Nat) (x1:t6) (n2:Int) (s3:ByteArray):nJ (d+1) x1 n2 s3 =
 Q1 (K7 d (⟨#[32,32]⟩:ByteArray) n2) fun r4 =>
 aa (Nat.ble (r4.size+s3.size) 9223372036854775807) (
 aa (Nat.ble ((x1.2.1.length+[(r4++s3)].length)*16) Q7) (
 some (x1.1,(x1.2.1++[(r4++s3)]),x1.2.2)) none) none:=by kernel_rfl
noncomputable def lR (d:Nat) (n1:Int) (b4:Bool):Option ByteArray :=
 aa b4 (
 Q1 (jZ d (i64.wrap (n1.tdiv 1000))) fun r5 =>
 aa (Nat.ble (r5.size+((⟨#[107]⟩:ByteArray):ByteArray).size) 9223372036854775807) (
 some (r5++((⟨#[107]⟩:ByteArray):ByteArray))) none) (
 Q1 (jZ d n1) fun r6 =>
 some r6)
noncomputable def lS (d:Nat) (n1:Int) (b2:Bool):Option ByteArray :=
 aa b2 (
 Q1 (jZ d (i64.wrap (n1.tdiv 1000000))) fun r3 =>
 aa (Nat.ble (r3.size+((⟨#[109]⟩:ByteArray):ByteArray).size) 9223372036854775807) (
 some (r3++((⟨#[109]⟩:ByteArray):ByteArray))) none) (
 aa (decide (n1 > 0)) (
 lR d n1 (((n1.tmod 1000):Int)==0)) (
 lR d n1 false))
theorem TQ (d:Nat) (n1:Int):qj (d+1) n1 =
 aa (decide (n1 > 0)) (
 lS d n1 (((n1.tmod 1000000):Int)==0)) (
 lS d n1 false):=by kernel_rfl
theorem TS (d:Nat) (x1:t1):B7 (d+1) x1 =
 Q1 (jZ d x1.1) fun r2 =>
 aa (Nat.ble (((⟨#[99,108,97,115,115,32]⟩:ByteArray):ByteArray).size+r2.size) 9223372036854775807) (
 aa (Nat.ble (((((⟨#[99,108,97,115,115,32]⟩:ByteArray):ByteArray)++r2):ByteArray).size+((⟨#[32,114,97,116,101,32]⟩:ByteArray):ByteArray).size) 9223372036854775807) (
 Q1 (qj d x1.2.2.1) fun r3 =>
 aa (Nat.ble (((((((⟨#[99,108,97,115,115,32]⟩:ByteArray):ByteArray)++r2):ByteArray)++((⟨#[32,114,97,116,101,32]⟩:ByteArray):ByteArray)):ByteArray).size+r3.size) 9223372036854775807) (
 aa (Nat.ble (((((((((⟨#[99,108,97,115,115,32]⟩:ByteArray):ByteArray)++r2):ByteArray)++((⟨#[32,114,97,116,101,32]⟩:ByteArray):ByteArray)):ByteArray)++r3):ByteArray).size+((⟨#[32,99,101,105,108,32]⟩:ByteArray):ByteArray).size) 9223372036854775807) (
 Q1 (qj d x1.2.2.2.1) fun r4 =>
 aa (Nat.ble (((((((((((⟨#[99,108,97,115,115,32]⟩:ByteArray):ByteArray)++r2):ByteArray)++((⟨#[32,114,97,116,101,32]⟩:ByteArray):ByteArray)):ByteArray)++r3):ByteArray)++((⟨#[32,99,101,105,108,32]⟩:ByteArray):ByteArray)):ByteArray).size+r4.size) 9223372036854775807) (
 aa (Nat.ble (((((((((((((⟨#[99,108,97,115,115,32]⟩:ByteArray):ByteArray)++r2):ByteArray)++((⟨#[32,114,97,116,101,32]⟩:ByteArray):ByteArray)):ByteArray)++r3):ByteArray)++((⟨#[32,99,101,105,108,32]⟩:ByteArray):ByteArray)):ByteArray)++r4):ByteArray).size+((⟨#[32,98,117,114,115,116,32]⟩:ByteArray):ByteArray).size) 9223372036854775807) (
 Q1 (qj d x1.2.2.2.2.1) fun r5 =>
 aa (Nat.ble (((((((((((((((⟨#[99,108,97,115,115,32]⟩:ByteArray):ByteArray)++r2):ByteArray)++((⟨#[32,114,97,116,101,32]⟩:ByteArray):ByteArray)):ByteArray)++r3):ByteArray)++((⟨#[32,99,101,105,108,32]⟩:ByteArray):ByteArray)):ByteArray)++r4):ByteArray)++((⟨#[32,98,117,114,115,116,32]⟩:ByteArray):ByteArray)):ByteArray).size+r5.size) 9223372036854775807) (
 aa (Nat.ble (((((((((((((((((⟨#[99,108,97,115,115,32]⟩:ByteArray):ByteArray)++r2):ByteArray)++((⟨#[32,114,97,116,101,32]⟩:ByteArray):ByteArray)):ByteArray)++r3):ByteArray)++((⟨#[32,99,101,105,108,32]⟩:ByteArray):ByteArray)):ByteArray)++r4):ByteArray)++((⟨#[32,98,117,114,115,116,32]⟩:ByteArray):ByteArray)):ByteArray)++r5):ByteArray).size+((⟨#[32,99,98,117,114,115,116,32]⟩:ByteArray):ByteArray).size) 9223372036854775807) (
 Q1 (qj d x1.2.2.2.2.2.1) fun r6 =>
 aa (Nat.ble (((((((((((((((((((⟨#[99,108,97,115,115,32]⟩:ByteArray):ByteArray)++r2):ByteArray)++((⟨#[32,114,97,116,101,32]⟩:ByteArray):ByteArray)):ByteArray)++r3):ByteArray)++((⟨#[32,99,101,105,108,32]⟩:ByteArray):ByteArray)):ByteArray)++r4):ByteArray)++((⟨#[32,98,117,114,115,116,32]⟩:ByteArray):ByteArray)):ByteArray)++r5):ByteArray)++((⟨#[32,99,98,117,114,115,116,32]⟩:ByteArray):ByteArray)):ByteArray).size+r6.size) 9223372036854775807) (
 aa (Nat.ble (((((((((((((((((((((⟨#[99,108,97,115,115,32]⟩:ByteArray):ByteArray)++r2):ByteArray)++((⟨#[32,114,97,116,101,32]⟩:ByteArray):ByteArray)):ByteArray)++r3):ByteArray)++((⟨#[32,99,101,105,108,32]⟩:ByteArray):ByteArray)):ByteArray)++r4):ByteArray)++((⟨#[32,98,117,114,115,116,32]⟩:ByteArray):ByteArray)):ByteArray)++r5):ByteArray)++((⟨#[32,99,98,117,114,115,116,32]⟩:ByteArray):ByteArray)):ByteArray)++r6):ByteArray).size+((⟨#[32,112,114,105,111,32]⟩:ByteArray):ByteArray).size) 9223372036854775807) (
 Q1 (jZ d x1.2.2.2.2.2.2.1) fun r7 =>
 aa (Nat.ble (((((((((((((((((((((((⟨#[99,108,97,115,115,32]⟩:ByteArray):ByteArray)++r2):ByteArray)++((⟨#[32,114,97,116,101,32]⟩:ByteArray):ByteArray)):ByteArray)++r3):ByteArray)++((⟨#[32,99,101,105,108,32]⟩:ByteArray):ByteArray)):ByteArray)++r4):ByteArray)++((⟨#[32,98,117,114,115,116,32]⟩:ByteArray):ByteArray)):ByteArray)++r5):ByteArray)++((⟨#[32,99,98,117,114,115,116,32]⟩:ByteArray):ByteArray)):ByteArray)++r6):ByteArray)++((⟨#[32,112,114,105,111,32]⟩:ByteArray):ByteArray)):ByteArray).size+r7.size) 9223372036854775807) (
 some (((((((((((((((((((((((⟨#[99,108,97,115,115,32]⟩:ByteArray):ByteArray)++r2):ByteArray)++((⟨#[32,114,97,116,101,32]⟩:ByteArray):ByteArray)):ByteArray)++r3):ByteArray)++((⟨#[32,99,101,105,108,32]⟩:ByteArray):ByteArray)):ByteArray)++r4):ByteArray)++((⟨#[32,98,117,114,115,116,32]⟩:ByteArray):ByteArray)):ByteArray)++r5):ByteArray)++((⟨#[32,99,98,117,114,115,116,32]⟩:ByteArray):ByteArray)):ByteArray)++r6):ByteArray)++((⟨#[32,112,114,105,111,32]⟩:ByteArray):ByteArray)):ByteArray)++r7)) none) none) none) none) none) none) none) none) none) none) none:=by kernel_rfl
noncomputable def lT (d:Nat) (n2:Int) (s6:ByteArray) (l7:List t1) (l8:List t5) (n9:Int) (l10:List ByteArray) (lz DF fU:List Int):Option t6 :=
 aa (decide (0<=n2)) (
 aa (Nat.blt (n2.toNat) fU.length) (
 Q1 (fU[n2.toNat]?) fun nE =>
 some ((s6,l7,l8,n9),l10,lz,DF,(fU.set (n2.toNat) (l10.length:Int)))) none) none
noncomputable def yJ (d:Nat) (n2 n3:Int) (s15:ByteArray) (pL:List t1) (gp:List t5) (eJ:Int) (gY:List ByteArray) (dX eS FH:List Int):Option t6 :=
 Q1 (nJ d ((s15,pL,gp,eJ),gY,dX,eS,FH) n3 (⟨#[125]⟩:ByteArray)) fun AZ =>
 lT d n2 AZ.1.1 AZ.1.2.1 AZ.1.2.2.1 AZ.1.2.2.2 AZ.2.1 AZ.2.2.1 AZ.2.2.2.1 AZ.2.2.2.2
noncomputable def qk (d:Nat) (n3:Int) (tN:List Int) (uz:ByteArray->(List t1)->(List t5)->Int->(List ByteArray)->(List Int)->(List Int)->(List Int)->Option t6) (iG:(Int×t6)->Option t6) (s:(Int×t6)):Option t6 :=
(fun gH (oC:t6) =>
 aa (decide (gH < (tN.length:Int))) (
 aa (decide (0<=gH)) (
 aa (Nat.blt (gH.toNat) tN.length) (
 Q1 (tN[gH.toNat]?) fun eC =>
 Q1 (B8 d oC eC (i64.wrap (n3+1))) fun BV =>
 iG ((i64.wrap (gH+1)),BV)) none) none) (
 uz oC.1.1 oC.1.2.1 oC.1.2.2.1 oC.1.2.2.2 oC.2.1 oC.2.2.1 oC.2.2.2.1 oC.2.2.2.2)) s.1 s.2
theorem TT (d:Nat) (x1:t6) (n2 n3:Int):B8 (d+1) x1 n2 n3 =
 aa (decide (0<=n2)) (
 Q1 (x1.1.2.1[n2.toNat]?) fun x4 =>
 aa (Nat.ble ((x1.2.2.1.length+[n2].length)*8) Q7) (
 Q1 (Ga d x1.1 n2) fun r5 =>
 aa r5 (
 Q1 (B7 d x4) fun r6 =>
 aa (Nat.ble (r6.size+((⟨#[32,108,105,109,105,116,32]⟩:ByteArray):ByteArray).size) 9223372036854775807) (
 Q1 (qj d x4.2.2.2.2.2.2.2) fun r7 =>
 aa (Nat.ble (((r6++((⟨#[32,108,105,109,105,116,32]⟩:ByteArray):ByteArray)):ByteArray).size+r7.size) 9223372036854775807) (
 aa (Nat.ble (((((r6++((⟨#[32,108,105,109,105,116,32]⟩:ByteArray):ByteArray)):ByteArray)++r7):ByteArray).size+((⟨#[59]⟩:ByteArray):ByteArray).size) 9223372036854775807) (
 Q1 (nJ d (x1.1,x1.2.1,(x1.2.2.1++[n2]),x1.2.2.2) n3 (((((r6++((⟨#[32,108,105,109,105,116,32]⟩:ByteArray):ByteArray)):ByteArray)++r7):ByteArray)++((⟨#[59]⟩:ByteArray):ByteArray))) fun r8 =>
 aa (decide (0<=n2)) (
 aa (Nat.blt (n2.toNat) r8.2.2.2.1.length) (
 Q1 (r8.2.2.2.1[n2.toNat]?) fun n9 =>
 lT d n2 r8.1.1 r8.1.2.1 r8.1.2.2.1 r8.1.2.2.2 r8.2.1 r8.2.2.1 (r8.2.2.2.1.set (n2.toNat) (r8.2.1.length:Int)) r8.2.2.2.2) none) none) none) none) none) (
 Q1 (B7 d x4) fun o_ =>
 aa (Nat.ble (o_.size+((⟨#[32,123]⟩:ByteArray):ByteArray).size) 9223372036854775807) (
 Q1 (nJ d (x1.1,x1.2.1,(x1.2.2.1++[n2]),x1.2.2.2) n3 (o_++((⟨#[32,123]⟩:ByteArray):ByteArray))) fun gX =>
 aa (decide (0<=n2)) (
 aa (Nat.blt (n2.toNat) gX.2.2.2.1.length) (
 Q1 (gX.2.2.2.1[n2.toNat]?) fun tM =>
 Q1 (ye d gX.1 n2) fun tN =>
 Q9 (qk d n3 tN (yJ d n2 n3)) Qd (0,(gX.1,gX.2.1,gX.2.2.1,(gX.2.2.2.1.set (n2.toNat) (gX.2.1.length:Int)),gX.2.2.2.2))) none) none) none)) none) none:=by kernel_rfl
noncomputable def ql (d:Nat) (n3:Int):Option Int :=
 some (-1)
noncomputable def fV (d:Nat) (x1:t3) (j4:Int->Option Int) (bV:t10->Option Int) (s:t10):Option Int :=
(fun n3 n4 =>
 aa (decide (n4 < (x1.2.1.length:Int))) (
 aa (decide (0<=n4)) (
 Q1 (x1.2.1[n4.toNat]?) fun x5 =>
 aa (x5.2.1==0) (
 some n4) (
 bV (n3,(i64.wrap (n4+1))))) none) (
 j4 n3)) s.1 s.2
theorem TU (d:Nat) (x1:t3):Gk (d+3) x1 =
 Q9 (fV d x1 (ql d)) Qd (0,0):=by kernel_rfl
noncomputable def lU (d:Nat) (s4:ByteArray):Option (ByteArray×Bool) :=
 aa (Nat.ble (((⟨#[48,120]⟩:ByteArray):ByteArray).size+s4.size) 9223372036854775807) (
 some ((((⟨#[48,120]⟩:ByteArray):ByteArray)++s4),true)) none
noncomputable def jm (d:Nat) (fD:ByteArray->Option (ByteArray×Bool)) (bM:(Int×ByteArray)->Option (ByteArray×Bool)) (n4:Int) (s5:ByteArray) (b6 b7:Bool):Option (ByteArray×Bool) :=
 aa b7 (
 aa (decide (0<=((i64.wrap ((i64.wrap ((BitVec.ofInt i64.bits n4 &&& BitVec.ofInt i64.bits 15).toNat:Int))+1)):Int))) (
 aa (decide (0<=((i64.wrap ((BitVec.ofInt i64.bits n4 &&& BitVec.ofInt i64.bits 15).toNat:Int)):Int))) (
 aa (Nat.ble (((i64.wrap ((BitVec.ofInt i64.bits n4 &&& BitVec.ofInt i64.bits 15).toNat:Int)):Int).toNat) (((i64.wrap ((i64.wrap ((BitVec.ofInt i64.bits n4 &&& BitVec.ofInt i64.bits 15).toNat:Int))+1)):Int).toNat)&&Nat.ble (((i64.wrap ((i64.wrap ((BitVec.ofInt i64.bits n4 &&& BitVec.ofInt i64.bits 15).toNat:Int))+1)):Int).toNat) ((⟨#[48,49,50,51,52,53,54,55,56,57,97,98,99,100,101,102]⟩:ByteArray):ByteArray).size) (
 aa (Nat.ble (((((⟨#[48,49,50,51,52,53,54,55,56,57,97,98,99,100,101,102]⟩:ByteArray):ByteArray).extract (((i64.wrap ((BitVec.ofInt i64.bits n4 &&& BitVec.ofInt i64.bits 15).toNat:Int)):Int).toNat) (((i64.wrap ((i64.wrap ((BitVec.ofInt i64.bits n4 &&& BitVec.ofInt i64.bits 15).toNat:Int))+1)):Int).toNat)):ByteArray).size+s5.size) 9223372036854775807) (
 bM ((n4.fdiv (2 ^ (min (4:Int).toNat i64.bits))),(((((⟨#[48,49,50,51,52,53,54,55,56,57,97,98,99,100,101,102]⟩:ByteArray):ByteArray).extract (((i64.wrap ((BitVec.ofInt i64.bits n4 &&& BitVec.ofInt i64.bits 15).toNat:Int)):Int).toNat) (((i64.wrap ((i64.wrap ((BitVec.ofInt i64.bits n4 &&& BitVec.ofInt i64.bits 15).toNat:Int))+1)):Int).toNat)):ByteArray)++s5))) none) none) none) none) (
 fD s5)
noncomputable def yK (d:Nat) (fD:ByteArray->Option (ByteArray×Bool)) (bM:(Int×ByteArray)->Option (ByteArray×Bool)) (s:(Int×ByteArray)):Option (ByteArray×Bool) :=
(fun n4 s5 =>
 aa (decide (n4 > 0)) (
 jm d fD bM n4 s5 true true) (
 jm d fD bM n4 s5 false (s5.toList==((⟨#[]⟩:ByteArray):ByteArray).toList))) s.1 s.2
noncomputable def qm (d:Nat) (n1:Int) (b2:Bool):Option (ByteArray×Bool) :=
 aa b2 (
 some ((⟨#[]⟩:ByteArray),false)) (
 Q9 (yK d (lU d)) Qd (n1,(⟨#[]⟩:ByteArray)))
theorem TW (d:Nat) (n1:Int):K8 (d+1) n1 =
 aa (decide (n1 < 0)) (
 qm d n1 true) (
 qm d n1 (decide (n1 > 4294967295))):=by kernel_rfl
theorem TX (d:Nat) (n1:Int):B9 (d+1) n1 =
 aa (decide (n1 < 0)) (
 some ((⟨#[]⟩:ByteArray),false)) (
 aa (decide (n1 > 65535)) (
 some ((⟨#[]⟩:ByteArray),false)) (
 Q1 (K8 d n1) fun r2 =>
 some (r2.1,r2.2))):=by kernel_rfl
theorem TY (d:Nat):K9 (d+1) =
 some [(⟨#[115,111,117,114,99,101]⟩:ByteArray),(⟨#[100,101,115,116]⟩:ByteArray),(⟨#[112,111,114,116]⟩:ByteArray),(⟨#[109,97,114,107]⟩:ByteArray)]:=by kernel_rfl
theorem TZ (d:Nat) (x1:t5):Gl (d+1) x1 =
 Q1 (B9 d x1.2.2.2.1) fun r2 =>
 Q1 (B9 d x1.2.2.1) fun r3 =>
 Q1 (jZ d x1.1) fun r4 =>
 aa (Nat.ble (((⟨#[102,105,108,116,101,114,32]⟩:ByteArray):ByteArray).size+r4.size) 9223372036854775807) (
 aa (Nat.ble (((((⟨#[102,105,108,116,101,114,32]⟩:ByteArray):ByteArray)++r4):ByteArray).size+((⟨#[32]⟩:ByteArray):ByteArray).size) 9223372036854775807) (
 Q1 (K9 d) fun r5 =>
 aa (decide (0<=x1.2.1)) (
 aa (Nat.blt (x1.2.1.toNat) r5.length) (
 Q1 (r5[x1.2.1.toNat]?) fun s6 =>
 aa (Nat.ble (((((((⟨#[102,105,108,116,101,114,32]⟩:ByteArray):ByteArray)++r4):ByteArray)++((⟨#[32]⟩:ByteArray):ByteArray)):ByteArray).size+s6.size) 9223372036854775807) (
 aa (Nat.ble (((((((((⟨#[102,105,108,116,101,114,32]⟩:ByteArray):ByteArray)++r4):ByteArray)++((⟨#[32]⟩:ByteArray):ByteArray)):ByteArray)++s6):ByteArray).size+((⟨#[32]⟩:ByteArray):ByteArray).size) 9223372036854775807) (
 aa (Nat.ble (((((((((((⟨#[102,105,108,116,101,114,32]⟩:ByteArray):ByteArray)++r4):ByteArray)++((⟨#[32]⟩:ByteArray):ByteArray)):ByteArray)++s6):ByteArray)++((⟨#[32]⟩:ByteArray):ByteArray)):ByteArray).size+r2.1.size) 9223372036854775807) (
 aa (Nat.ble (((((((((((((⟨#[102,105,108,116,101,114,32]⟩:ByteArray):ByteArray)++r4):ByteArray)++((⟨#[32]⟩:ByteArray):ByteArray)):ByteArray)++s6):ByteArray)++((⟨#[32]⟩:ByteArray):ByteArray)):ByteArray)++r2.1):ByteArray).size+((⟨#[32,47,32]⟩:ByteArray):ByteArray).size) 9223372036854775807) (
 aa (Nat.ble (((((((((((((((⟨#[102,105,108,116,101,114,32]⟩:ByteArray):ByteArray)++r4):ByteArray)++((⟨#[32]⟩:ByteArray):ByteArray)):ByteArray)++s6):ByteArray)++((⟨#[32]⟩:ByteArray):ByteArray)):ByteArray)++r2.1):ByteArray)++((⟨#[32,47,32]⟩:ByteArray):ByteArray)):ByteArray).size+r3.1.size) 9223372036854775807) (
 aa (Nat.ble (((((((((((((((((⟨#[102,105,108,116,101,114,32]⟩:ByteArray):ByteArray)++r4):ByteArray)++((⟨#[32]⟩:ByteArray):ByteArray)):ByteArray)++s6):ByteArray)++((⟨#[32]⟩:ByteArray):ByteArray)):ByteArray)++r2.1):ByteArray)++((⟨#[32,47,32]⟩:ByteArray):ByteArray)):ByteArray)++r3.1):ByteArray).size+((⟨#[32,45,62,32]⟩:ByteArray):ByteArray).size) 9223372036854775807) (
 Q1 (jZ d x1.2.2.2.2) fun r7 =>
 aa (Nat.ble (((((((((((((((((((⟨#[102,105,108,116,101,114,32]⟩:ByteArray):ByteArray)++r4):ByteArray)++((⟨#[32]⟩:ByteArray):ByteArray)):ByteArray)++s6):ByteArray)++((⟨#[32]⟩:ByteArray):ByteArray)):ByteArray)++r2.1):ByteArray)++((⟨#[32,47,32]⟩:ByteArray):ByteArray)):ByteArray)++r3.1):ByteArray)++((⟨#[32,45,62,32]⟩:ByteArray):ByteArray)):ByteArray).size+r7.size) 9223372036854775807) (
 aa (Nat.ble (((((((((((((((((((((⟨#[102,105,108,116,101,114,32]⟩:ByteArray):ByteArray)++r4):ByteArray)++((⟨#[32]⟩:ByteArray):ByteArray)):ByteArray)++s6):ByteArray)++((⟨#[32]⟩:ByteArray):ByteArray)):ByteArray)++r2.1):ByteArray)++((⟨#[32,47,32]⟩:ByteArray):ByteArray)):ByteArray)++r3.1):ByteArray)++((⟨#[32,45,62,32]⟩:ByteArray):ByteArray)):ByteArray)++r7):ByteArray).size+((⟨#[59]⟩:ByteArray):ByteArray).size) 9223372036854775807) (
 some (((((((((((((((((((((⟨#[102,105,108,116,101,114,32]⟩:ByteArray):ByteArray)++r4):ByteArray)++((⟨#[32]⟩:ByteArray):ByteArray)):ByteArray)++s6):ByteArray)++((⟨#[32]⟩:ByteArray):ByteArray)):ByteArray)++r2.1):ByteArray)++((⟨#[32,47,32]⟩:ByteArray):ByteArray)):ByteArray)++r3.1):ByteArray)++((⟨#[32,45,62,32]⟩:ByteArray):ByteArray)):ByteArray)++r7):ByteArray)++((⟨#[59]⟩:ByteArray):ByteArray))) none) none) none) none) none) none) none) none) none) none) none) none:=by kernel_rfl
noncomputable def qn (d:Nat) (x1:t3) (dX:List t10) (Zx:ByteArray) (K_:Int) (Zy:List t1) (OC OD Zz ZA:List Int) (ZB:List t5) (ZC:List Int):Option t0 :=
 aa (x1.2.2.2 != 0) (
 some (Zx,Zy,OC,OD,Zz,ZA,ZB,ZC,((eA dX x1.2.2.2).getD 0))) (
 some (Zx,Zy,OC,OD,Zz,ZA,ZB,ZC,K_))
noncomputable def lV (d:Nat) (x1:t3) (dX:List t10) (uA:ByteArray->Int->(List t1)->(List Int)->(List Int)->(List Int)->(List Int)->(List t5)->(List Int)->Option t0) (T0:(Int×t0)->Option t0) (s:(Int×t0)):Option t0 :=
(fun IX (lW:t0) =>
 aa (decide (IX < (x1.2.2.1.length:Int))) (
 aa (decide (0<=IX)) (
 Q1 (x1.2.2.1[IX.toNat]?) fun ZD =>
 aa (Nat.ble ((lW.2.2.2.2.2.2.2.1.length+[((eA dX ZD.2.2.2.2).getD 0)].length)*8) Q7) (
 T0 ((i64.wrap (IX+1)),(lW.1,lW.2.1,lW.2.2.1,lW.2.2.2.1,lW.2.2.2.2.1,lW.2.2.2.2.2.1,lW.2.2.2.2.2.2.1,(lW.2.2.2.2.2.2.2.1++[((eA dX ZD.2.2.2.2).getD 0)]),lW.2.2.2.2.2.2.2.2))) none) none) (
 uA lW.1 lW.2.2.2.2.2.2.2.2 lW.2.1 lW.2.2.1 lW.2.2.2.1 lW.2.2.2.2.1 lW.2.2.2.2.2.1 lW.2.2.2.2.2.2.1 lW.2.2.2.2.2.2.2.1)) s.1 s.2
noncomputable def qo (d:Nat) (x1:t3) (La:ByteArray) (tK:Int) (dX:List t10) (eS:List t1) (AX:List t5) (AW A3 A4 nI AV:List Int):Option t0 :=
 Q9 (lV d x1 dX (qn d x1 dX)) Qd (0,(La,eS,nI,A3,A4,AV,AX,AW,tK))
noncomputable def lX (d:Nat) (IY:List Int) (uB:(List Int)->Option t0) (Lb:t11->Option t0) (s:t11):Option t0 :=
(fun gJ (pM:List Int) =>
 aa (decide (gJ>=0)) (
 aa (decide (0<=gJ)) (
 aa (Nat.blt (gJ.toNat) pM.length) (
 Q1 (pM[gJ.toNat]?) fun IX =>
 aa (decide (0<=gJ)) (
 aa (Nat.blt (gJ.toNat) IY.length) (
 Q1 (IY[gJ.toNat]?) fun K_ =>
 aa (decide (K_>=0)) (
 aa (decide (0<=gJ)) (
 aa (Nat.blt (gJ.toNat) IY.length) (
 Q1 (IY[gJ.toNat]?) fun OE =>
 aa (decide (0<=OE)) (
 aa (Nat.blt (OE.toNat) ((pM.set (gJ.toNat) (i64.wrap (gJ+1))).length)) (
 Q1 ((pM.set (gJ.toNat) (i64.wrap (gJ+1)))[OE.toNat]?) fun IZ =>
 aa (decide (0<=gJ)) (
 aa (Nat.blt (gJ.toNat) ((pM.set (gJ.toNat) (i64.wrap (gJ+1))).length)) (
 Q1 ((pM.set (gJ.toNat) (i64.wrap (gJ+1)))[gJ.toNat]?) fun n43 =>
 Lb ((i64.wrap (gJ - 1)),((pM.set (gJ.toNat) (i64.wrap (gJ+1))).set (gJ.toNat) IZ))) none) none) none) none) none) none) (
 Lb ((i64.wrap (gJ - 1)),(pM.set (gJ.toNat) (i64.wrap (gJ+1)))))) none) none) none) none) (
 uB pM)) s.1 s.2
noncomputable def yL (d:Nat) (x1:t3) (La:ByteArray) (tK:Int) (dX:List t10) (eS:List t1) (AX:List t5) (AW IY A3 A4 nI:List Int):Option t0 :=
 Q9 (lX d IY (qo d x1 La tK dX eS AX AW A3 A4 nI)) Qd ((i64.wrap ((eS.length:Int) - 1)),(List.replicate ((eS.length:Int).toNat) (0:Int)))
noncomputable def lY (d:Nat) (dX:List t10) (yM:(Int×(List Int)×(List Int)×(List Int)×(List Int))->Option t0) (kE:Int) (nI lZ:List Int) (l_:t1) (b41:Bool) (OC OD:List Int):Option t0 :=
 aa (decide (0<=(((eA dX l_.2.1).getD 0):Int))) (
 aa (Nat.blt ((((eA dX l_.2.1).getD 0):Int).toNat) lZ.length) (
 Q1 (lZ[(((eA dX l_.2.1).getD 0):Int).toNat]?) fun n44 =>
 yM ((i64.wrap (kE+1)),OC,OD,(nI.set (kE.toNat) ((eA dX l_.2.1).getD 0)),(lZ.set ((((eA dX l_.2.1).getD 0):Int).toNat) kE))) none) none
noncomputable def hU (d:Nat) (dX:List t10) (eS:List t1) (uC:(List Int)->(List Int)->(List Int)->(List Int)->Option t0) (yM:(Int×(List Int)×(List Int)×(List Int)×(List Int))->Option t0) (s:(Int×(List Int)×(List Int)×(List Int)×(List Int))):Option t0 :=
(fun kE (A3:List Int) (A4:List Int) (nI:List Int) (lZ:List Int) =>
 aa (decide (kE < (eS.length:Int))) (
 aa (decide (0<=kE)) (
 aa (Nat.blt (kE.toNat) eS.length) (
 Q1 (eS[kE.toNat]?) fun l_ =>
 aa (!((eA dX l_.2.1).isSome)) (
 aa (decide (0<=kE)) (
 aa (Nat.blt (kE.toNat) nI.length) (
 Q1 (nI[kE.toNat]?) fun Zv =>
 yM ((i64.wrap (kE+1)),A3,A4,(nI.set (kE.toNat) (-1)),lZ)) none) none) (
 aa (decide (0<=kE)) (
 aa (Nat.blt (kE.toNat) nI.length) (
 Q1 (nI[kE.toNat]?) fun IX =>
 aa (decide (0<=(((eA dX l_.2.1).getD 0):Int))) (
 aa (Nat.blt ((((eA dX l_.2.1).getD 0):Int).toNat) lZ.length) (
 Q1 (lZ[(((eA dX l_.2.1).getD 0):Int).toNat]?) fun K_ =>
 aa (decide (K_ < 0)) (
 aa (decide (0<=(((eA dX l_.2.1).getD 0):Int))) (
 aa (Nat.blt ((((eA dX l_.2.1).getD 0):Int).toNat) A3.length) (
 Q1 (A3[(((eA dX l_.2.1).getD 0):Int).toNat]?) fun OE =>
 lY d dX yM kE nI lZ l_ true (A3.set ((((eA dX l_.2.1).getD 0):Int).toNat) kE) A4) none) none) (
 aa (decide (0<=(((eA dX l_.2.1).getD 0):Int))) (
 aa (Nat.blt ((((eA dX l_.2.1).getD 0):Int).toNat) lZ.length) (
 Q1 (lZ[(((eA dX l_.2.1).getD 0):Int).toNat]?) fun IZ =>
 aa (decide (0<=IZ)) (
 aa (Nat.blt (IZ.toNat) A4.length) (
 Q1 (A4[IZ.toNat]?) fun n43 =>
 lY d dX yM kE nI lZ l_ false A3 (A4.set (IZ.toNat) kE)) none) none) none) none)) none) none) none) none)) none) none) (
 uC lZ A3 A4 nI)) s.1 s.2.1 s.2.2.1 s.2.2.2.1 s.2.2.2.2
noncomputable def jn (d:Nat) (x1:t3) (La:ByteArray) (tK:Int) (dX:List t10) (eS:List t1) (FH IQ mR BS:List Int) (AX:List t5) (AW:List Int):Option t0 :=
 Q1 (yI (d+1) [(-1)] (eS.length:Int)) fun yN =>
 Q1 (yI (d+1) [(-1)] (eS.length:Int)) fun ur =>
 aa (decide (0<=(eS.length:Int))) (
 aa (decide (0<=(eS.length:Int))) (
 aa (Nat.ble ((eS.length:Int).toNat) ((eS.length:Int).toNat)&&Nat.ble (((eS.length:Int).toNat)*8) Q7) (
 aa (decide (0<=(eS.length:Int))) (
 aa (decide (0<=(eS.length:Int))) (
 aa (Nat.ble ((eS.length:Int).toNat) ((eS.length:Int).toNat)&&Nat.ble (((eS.length:Int).toNat)*8) Q7) (
 Q1 (yI (d+1) [(-1)] (eS.length:Int)) fun yO =>
 Q9 (hU d dX eS (yL d x1 La tK dX eS AX AW)) Qd (0,yN,ur,(List.replicate ((eS.length:Int).toNat) (0:Int)),yO)) none) none) none) none) none) none
noncomputable def mc (d:Nat) (x1:t3) (o6:t6) (uD:ByteArray->Int->(List t10)->(List t1)->(List Int)->(List Int)->(List Int)->(List Int)->(List t5)->(List Int)->Option t0) (Gh:(Int×t0×(List (List (List t10))))->Option t0) (s:(Int×t0×(List (List (List t10))))):Option t0 :=
(fun eJ (nD:t0) (dX:List (List (List t10))) =>
 aa (decide (eJ < (o6.2.2.1.length:Int))) (
 aa (decide (0<=eJ)) (
 aa (Nat.blt (eJ.toNat) o6.2.2.1.length) (
 Q1 (o6.2.2.1[eJ.toNat]?) fun pG =>
 aa (decide (0<=pG)) (
 Q1 (x1.2.1[pG.toNat]?) fun TF =>
 aa (Nat.ble ((nD.2.1.length+[TF].length)*64) Q7) (
 aa (decide (0<=pG)) (
 Q1 (x1.2.1[pG.toNat]?) fun Zw =>
 Gh ((i64.wrap (eJ+1)),(nD.1,(nD.2.1++[TF]),nD.2.2),([[(gR (B_ dX) Zw.1 eJ)]]:List (List (List t10))))) none) none) none) none) none) (
 uD nD.1 nD.2.2.2.2.2.2.2.2 (B_ dX) nD.2.1 nD.2.2.1 nD.2.2.2.1 nD.2.2.2.2.1 nD.2.2.2.2.2.1 nD.2.2.2.2.2.2.1 nD.2.2.2.2.2.2.2.1)) s.1 s.2.1 s.2.2
noncomputable def jo (d:Nat) (x1:t3) (r2:List t5) (s8:ByteArray) (l9:List t1) (l10:List t5) (iF:Int) (DF:List ByteArray) (fU kC iw:List Int):Option t0 :=
 Q1 (nJ d ((s8,l9,l10,iF),DF,fU,kC,iw) 0 (⟨#[125]⟩:ByteArray)) fun o6 =>
 Q9 (mc d x1 o6 (jn d x1)) Qd (0,(x1.1,[],[],[],[],[],r2,[],(-1)),([[([]:List t10)]]:List (List (List t10))))
noncomputable def fW (d:Nat) (x1:t3) (j5:ByteArray->(List t1)->(List t5)->Int->(List ByteArray)->(List Int)->(List Int)->(List Int)->Option t0) (Tv:(Int×t6)->Option t0) (s:(Int×t6)):Option t0 :=
(fun n8 (x9:t6) =>
 aa (decide (n8 < (x1.2.2.1.length:Int))) (
 aa (decide (0<=n8)) (
 Q1 (x1.2.2.1[n8.toNat]?) fun aR =>
 Q1 (Gl d aR) fun gX =>
 Q1 (nJ d x9 1 gX) fun mQ =>
 Tv ((i64.wrap (n8+1)),mQ)) none) (
 j5 x9.1.1 x9.1.2.1 x9.1.2.2.1 x9.1.2.2.2 x9.2.1 x9.2.2.1 x9.2.2.2.1 x9.2.2.2.2)) s.1 s.2
noncomputable def eM (d:Nat) (x1:t3) (r2:List t5) (s3:ByteArray):Option t0 :=
 aa (Nat.ble (s3.size+((⟨#[32,123]⟩:ByteArray):ByteArray).size) 9223372036854775807) (
 Q1 (nJ d (x1,[],[],(List.replicate ((x1.2.1.length:Int).toNat) (0:Int)),(List.replicate ((x1.2.1.length:Int).toNat) (0:Int))) 0 (s3++((⟨#[32,123]⟩:ByteArray):ByteArray))) fun r4 =>
 Q1 (Gk d x1) fun r5 =>
 Q1 (B8 d r4 r5 1) fun r6 =>
 Q9 (fW d x1 (jo d x1 r2)) Qd (0,r6)) none
theorem T1 (d:Nat) (x1:t3):Ca (d+2) x1 =
 Q1 (yp (d+1) x1.2.2.1) fun r2 =>
 aa (decide (0<=(x1.2.1.length:Int))) (
 aa (decide (0<=(x1.2.1.length:Int))) (
 aa (Nat.ble ((x1.2.1.length:Int).toNat) ((x1.2.1.length:Int).toNat)&&Nat.ble (((x1.2.1.length:Int).toNat)*8) Q7) (
 aa (decide (0<=(x1.2.1.length:Int))) (
 aa (decide (0<=(x1.2.1.length:Int))) (
 aa (Nat.ble ((x1.2.1.length:Int).toNat) ((x1.2.1.length:Int).toNat)&&Nat.ble (((x1.2.1.length:Int).toNat)*8) Q7) (
 aa (Nat.ble (((⟨#[113,100,105,115,99,32]⟩:ByteArray):ByteArray).size+x1.1.size) 9223372036854775807) (
 aa (x1.2.2.2 != 0) (
 Q1 (jZ d x1.2.2.2) fun r3 =>
 aa (Nat.ble (((⟨#[32,100,101,102,97,117,108,116,32]⟩:ByteArray):ByteArray).size+r3.size) 9223372036854775807) (
 aa (Nat.ble (((((⟨#[113,100,105,115,99,32]⟩:ByteArray):ByteArray)++x1.1):ByteArray).size+((((⟨#[32,100,101,102,97,117,108,116,32]⟩:ByteArray):ByteArray)++r3):ByteArray).size) 9223372036854775807) (
 eM d x1 r2 (((((⟨#[113,100,105,115,99,32]⟩:ByteArray):ByteArray)++x1.1):ByteArray)++((((⟨#[32,100,101,102,97,117,108,116,32]⟩:ByteArray):ByteArray)++r3):ByteArray))) none) none) (
 eM d x1 r2 (((⟨#[113,100,105,115,99,32]⟩:ByteArray):ByteArray)++x1.1))) none) none) none) none) none) none) none:=by kernel_rfl
noncomputable def Gm (d:Nat) (b4:Bool):Option Bool :=
 some true
noncomputable def qp (d:Nat) (l1 l2:List t1) (uE:Bool->Option Bool) (bM:t9->Option Bool) (s:t9):Option Bool :=
(fun (b4:Bool) n5 =>
 aa (decide (n5 < (l1.length:Int))) (
 aa (decide (0<=n5)) (
 Q1 (l1[n5.toNat]?) fun x6 =>
 aa (decide (0<=n5)) (
 Q1 (l2[n5.toNat]?) fun x7 =>
 aa (!((x6.1==x7.1)&&((x6.2.1==x7.2.1)&&((x6.2.2.1==x7.2.2.1)&&((x6.2.2.2.1==x7.2.2.2.1)&&((x6.2.2.2.2.1==x7.2.2.2.2.1)&&((x6.2.2.2.2.2.1==x7.2.2.2.2.2.1)&&((x6.2.2.2.2.2.2.1==x7.2.2.2.2.2.2.1)&&((x6.2.2.2.2.2.2.2==x7.2.2.2.2.2.2.2)&&true))))))))) (
 some false) (
 bM (b4,(i64.wrap (n5+1))))) none) none) (
 uE b4)) s.1 s.2
theorem T2 (d:Nat) (l1 l2:List t1):Gn (d+1) l1 l2 =
 aa ((l1.length:Int) != (l2.length:Int)) (
 some false) (
 Q9 (qp d l1 l2 (Gm d)) Qd (false,0)):=by kernel_rfl
noncomputable def Gp (d:Nat) (b4:Bool):Option Bool :=
 some true
noncomputable def qq (d:Nat) (l1 l2:List Int) (uF:Bool->Option Bool) (bM:t9->Option Bool) (s:t9):Option Bool :=
(fun (b4:Bool) n5 =>
 aa (decide (n5 < (l1.length:Int))) (
 aa (decide (0<=n5)) (
 Q1 (l1[n5.toNat]?) fun n6 =>
 aa (decide (0<=n5)) (
 Q1 (l2[n5.toNat]?) fun n7 =>
 aa (n6 != n7) (
 some false) (
 bM (b4,(i64.wrap (n5+1))))) none) none) (
 uF b4)) s.1 s.2
theorem T3 (d:Nat) (l1 l2:List Int):qt (d+1) l1 l2 =
 aa ((l1.length:Int) != (l2.length:Int)) (
 some false) (
 Q9 (qq d l1 l2 (Gp d)) Qd (false,0)):=by kernel_rfl
noncomputable def qu (d:Nat) (x1:t0) (b2:Bool):Option Bool :=
 aa b2 (
 some false) (
 Q1 (K5 d x1) fun r3 =>
 Q1 (IV d r3) fun r4 =>
 aa (!r4) (
 some false) (
 Q1 (Ca d r3) fun r5 =>
 Q1 (Gn d x1.2.1 r5.2.1) fun r6 =>
 aa r6 (
 Q1 (qt d x1.2.2.1 r5.2.2.1) fun r7 =>
 aa r7 (
 Q1 (qt d x1.2.2.2.1 r5.2.2.2.1) fun r8 =>
 aa r8 (
 Q1 (qt d x1.2.2.2.2.1 r5.2.2.2.2.1) fun r9 =>
 aa r9 (
 Q1 (qt d x1.2.2.2.2.2.1 r5.2.2.2.2.2.1) fun o_ =>
 aa o_ (
 Q1 (qt d x1.2.2.2.2.2.2.2.1 r5.2.2.2.2.2.2.2.1) fun gX =>
 aa gX (
 some (x1.2.2.2.2.2.2.2.2==r5.2.2.2.2.2.2.2.2)) (
 some false)) (
 some false)) (
 some false)) (
 some false)) (
 some false)) (
 some false)))
theorem T4 (d:Nat) (x1:t0):Gq (d+1) x1 =
 aa (decide ((x1.2.1.length:Int) > 24)) (
 qu d x1 true) (
 qu d x1 (decide ((x1.2.2.2.2.2.2.1.length:Int) > 16))):=by kernel_rfl
noncomputable def Gr (d:Nat) (b5:Bool):Option Bool :=
 some true
noncomputable def jq (d:Nat) (jf:t9->Option Bool) (b5:Bool) (n6 n8 n9:Int) (KL DD Oz vL b14 Y8 Y9:Bool):Option Bool :=
 aa Y9 (
 some false) (
 jf (b5,(i64.wrap (n6+1))))
noncomputable def qw (d:Nat) (x1:t0) (x2:t7) (uG:Bool->Option Bool) (jf:t9->Option Bool) (s:t9):Option Bool :=
(fun (b5:Bool) n6 =>
 aa (decide (n6 < (x1.2.1.length:Int))) (
 aa (decide (0<=n6)) (
 Q1 (x1.2.1[n6.toNat]?) fun x7 =>
 aa (decide (0<=n6)) (
 Q1 (x2.1[n6.toNat]?) fun n8 =>
 aa (decide (n8 < 0)) (
 jq d jf b5 n6 n8 n8 (decide (n8 < 0)) true true true true true true) (
 aa (decide (0<=n6)) (
 Q1 (x2.1[n6.toNat]?) fun n9 =>
 aa (decide (n9 > x7.2.2.2.2.1)) (
 jq d jf b5 n6 n8 n8 (decide (n8 < 0)) false (decide (n9 > x7.2.2.2.2.1)) true true true true) (
 aa (decide (0<=n6)) (
 Q1 (x2.2[n6.toNat]?) fun dW =>
 aa (decide (dW < 0)) (
 jq d jf b5 n6 n8 n8 (decide (n8 < 0)) false (decide (n9 > x7.2.2.2.2.1)) false (decide (dW < 0)) true true) (
 aa (decide (0<=n6)) (
 Q1 (x2.2[n6.toNat]?) fun iF =>
 jq d jf b5 n6 n8 n8 (decide (n8 < 0)) false (decide (n9 > x7.2.2.2.2.1)) false (decide (dW < 0)) false (decide (iF > x7.2.2.2.2.2.1))) none)) none)) none)) none) none) (
 uG b5)) s.1 s.2
noncomputable def qx (d:Nat) (x1:t0) (x2:t7) (b3:Bool):Option Bool :=
 aa b3 (
 some false) (
 Q9 (qw d x1 x2 (Gr d)) Qd (false,0))
theorem T5 (d:Nat) (x1:t0) (x2:t7):Gs (d+1) x1 x2 =
 aa ((x2.1.length:Int) != (x1.2.1.length:Int)) (
 qx d x1 x2 true) (
 qx d x1 x2 ((x2.2.length:Int) != (x1.2.1.length:Int))):=by kernel_rfl
noncomputable def Gt (d:Nat) (l3:List Int):Option (List Int) :=
 some l3
noncomputable def qy (d:Nat) (x1:t0) (uH:(List Int)->Option (List Int)) (bV:t15->Option (List Int)) (s:t15):Option (List Int) :=
(fun (l3:List Int) n4 =>
 aa (decide (n4 < (x1.2.1.length:Int))) (
 aa (decide (0<=n4)) (
 Q1 (x1.2.2.2.1[n4.toNat]?) fun n5 =>
 aa (decide (n5 < 0)) (
 aa (Nat.ble ((l3.length+[n4].length)*8) Q7) (
 bV ((l3++[n4]),(i64.wrap (n4+1)))) none) (
 bV (l3,(i64.wrap (n4+1))))) none) (
 uH l3)) s.1 s.2
theorem T6 (d:Nat) (x1:t0):nK (d+1) x1 =
 Q9 (qy d x1 (Gt d)) Qd (([]:List Int),0):=by kernel_rfl
theorem Lc (d:Nat) (x1:t4):Gu (d+1) x1 =
 some (x1.2.1,x1.2.2.1,x1.2.2.2.1,x1.2.2.2.2.1):=by kernel_rfl
noncomputable def qz (d:Nat) (x1:t4) (b4:Bool):Option Bool :=
 aa (decide (x1.1>=1)) (
 aa (decide (x1.1<=100000)) (
 aa (decide (x1.2.2.2.2.2>=1)) (
 some (decide (x1.2.2.2.2.2<=1500))) (
 some false)) (
 some false)) (
 some false)
noncomputable def yP (d:Nat) (r2:(Int×Int×Int×Int)) (uI:Bool->Option Bool) (bM:t9->Option Bool) (s:t9):Option Bool :=
(fun (b4:Bool) n5 =>
 aa (decide (n5 < 4)) (
 aa (decide (0<=n5)) (
 Q1 (([r2.1,r2.2.1,r2.2.2.1,r2.2.2.2]:List Int)[n5.toNat]?) fun n6 =>
 aa (decide (n6 < 0)) (
 some false) (
 aa (decide (n6 > 65535)) (
 some false) (
 bM (b4,(i64.wrap (n5+1)))))) none) (
 uI b4)) s.1 s.2
theorem T7 (d:Nat) (x1:t4):Cb (d+1) x1 =
 Q1 (Gu d x1) fun r2 =>
 Q9 (yP d r2 (qz d x1)) Qd (false,0):=by kernel_rfl
theorem T8 (d:Nat) (x1:t5) (x2:t4):Gv (d+1) x1 x2 =
 Q1 (Gu d x2) fun r3 =>
 aa (decide (0<=x1.2.1)) (
 Q1 (([r3.1,r3.2.1,r3.2.2.1,r3.2.2.2]:List Int)[x1.2.1.toNat]?) fun n4 =>
 some (((i64.wrap ((BitVec.ofInt i64.bits n4 &&& BitVec.ofInt i64.bits x1.2.2.1).toNat:Int)):Int)==x1.2.2.2.1)) none:=by kernel_rfl
noncomputable def Gw (d:Nat) (n4:Int):Option Int :=
 some (-1)
noncomputable def qA (d:Nat) (l1:List t5) (x2:t4) (uJ:Int->Option Int) (bM:t10->Option Int) (s:t10):Option Int :=
(fun n4 n5 =>
 aa (decide (n5 < (l1.length:Int))) (
 aa (decide (0<=n5)) (
 Q1 (l1[n5.toNat]?) fun x6 =>
 Q1 (Gv d x6 x2) fun r7 =>
 aa r7 (
 some n5) (
 bM (n4,(i64.wrap (n5+1))))) none) (
 uJ n4)) s.1 s.2
theorem T9 (d:Nat) (l1:List t5) (x2:t4):Gx (d+1) l1 x2 =
 Q9 (qA d l1 x2 (Gw d)) Qd (0,0):=by kernel_rfl
theorem T_ (d:Nat) (x1:t0) (x2:t4):Cc (d+1) x1 x2 =
 Q1 (Gx d x1.2.2.2.2.2.2.1 x2) fun r3 =>
 aa (decide (r3>=0)) (
 aa (decide (0<=r3)) (
 Q1 (x1.2.2.2.2.2.2.2.1[r3.toNat]?) fun n4 =>
 some n4) none) (
 some x1.2.2.2.2.2.2.2.2):=by kernel_rfl
noncomputable def jr (d:Nat) (n4:Int):Option Bool :=
 some (decide (((-1):Int)>=0))
noncomputable def dN (d:Nat) (l1:List t4) (n2:Int) (gu:Int->Option Bool) (bM:t10->Option Bool) (s:t10):Option Bool :=
(fun n4 n5 =>
 aa (decide (n5 < (l1.length:Int))) (
 aa (decide (0<=n5)) (
 Q1 (l1[n5.toNat]?) fun x6 =>
 aa (x6.1==n2) (
 some (decide (n5>=0))) (
 bM (n4,(i64.wrap (n5+1))))) none) (
 gu n4)) s.1 s.2
theorem T' (d:Nat) (l1:List t4) (n2:Int):Gy (d+4) l1 n2 =
 Q9 (dN d l1 n2 (jr d)) Qd (0,0):=by kernel_rfl
noncomputable def Gz (d:Nat) (b3:Bool):Option Bool :=
 some true
noncomputable def qB (d:Nat) (l1:List t4) (uK:Bool->Option Bool) (bV:t9->Option Bool) (s:t9):Option Bool :=
(fun (b3:Bool) n4 =>
 aa (decide (n4 < (l1.length:Int))) (
 aa (decide (0<=n4)) (
 Q1 (l1[n4.toNat]?) fun x5 =>
 Q1 (Cb d x5) fun r6 =>
 aa (!r6) (
 some false) (
 aa (decide (0<=n4)) (
 aa (Nat.ble (n4.toNat) l1.length) (
 Q1 (Gy d (l1.take (n4.toNat)) x5.1) fun r7 =>
 aa r7 (
 some false) (
 bV (b3,(i64.wrap (n4+1))))) none) none)) none) (
 uK b3)) s.1 s.2
theorem Uc (d:Nat) (l1:List t4):GA (d+1) l1 =
 Q9 (qB d l1 (Gz d)) Qd (false,0):=by kernel_rfl
noncomputable def yR (d:Nat) (l5:List t4):Option (List t4) :=
 some l5
noncomputable def me (d:Nat) (l1:List (List t4)) (h_:(List t4)->Option (List t4)) (jf:((List t4)×Int)->Option (List t4)) (s:((List t4)×Int)):Option (List t4) :=
(fun (l5:List t4) n6 =>
 aa (decide (n6 < (l1.length:Int))) (
 aa (decide (0<=n6)) (
 Q1 (l1[n6.toNat]?) fun l7 =>
 aa (Nat.ble ((l5.length+l7.length)*48) Q7) (
 jf ((l5++l7),(i64.wrap (n6+1)))) none) none) (
 h_ l5)) s.1 s.2
noncomputable def yS (d:Nat) (l9:List t4):Option (List t4) :=
 some l9
noncomputable def iQ (d:Nat) (l1:List (List t4)) (h_:(List t4)->Option (List t4)) (xT:((List t4)×Int)->Option (List t4)) (s:((List t4)×Int)):Option (List t4) :=
(fun (l9:List t4) dW =>
 aa (decide (dW < (l1.length:Int))) (
 aa (decide (0<=dW)) (
 Q1 (l1[dW.toNat]?) fun lz =>
 aa (Nat.ble ((l9.length+lz.length)*48) Q7) (
 xT ((l9++lz),(i64.wrap (dW+1)))) none) none) (
 h_ l9)) s.1 s.2
noncomputable def mg (d:Nat) (l1:List (List t4)) (n3:Int):Option (List t4) :=
 aa (decide (n3 < 0)) (
 none) (
 aa (decide (((i64.wrap (n3 - (i64.wrap ((0:Int) - ((0:Nat):Int))))):Int) > 0)) (
 aa (Nat.ble 0 0) (
 aa (decide (0<=((i64.wrap (n3 - (i64.wrap ((0:Int) - ((0:Nat):Int))))):Int))&&decide (((i64.wrap (n3 - (i64.wrap ((0:Int) - ((0:Nat):Int))))):Int)*((48:Nat):Int)<=(Q7:Int))) (
 aa (Nat.ble ((List.replicate ((i64.wrap (n3 - (i64.wrap ((0:Int) - ((0:Nat):Int))))):Int).toNat ((0,0,0,0,0,0):t4)).length*48) Q7) (
 aa (decide (0<=(((0:Nat):Int):Int))) (
 aa (Nat.ble ((((0:Nat):Int):Int).toNat) ((List.replicate ((i64.wrap (n3 - (i64.wrap ((0:Int) - ((0:Nat):Int))))):Int).toNat ((0,0,0,0,0,0):t4)).length)) (
 Q9 (me d l1 (yR d)) Qd (((List.replicate ((i64.wrap (n3 - (i64.wrap ((0:Int) - ((0:Nat):Int))))):Int).toNat ((0,0,0,0,0,0):t4)).take ((((0:Nat):Int):Int).toNat)),0)) none) none) none) none) none) (
 Q9 (iQ d l1 (yS d)) Qd ([],0)))
noncomputable def mh (d:Nat) (l1:List (List t4)) (uL:Int->Option (List t4)) (bV:t10->Option (List t4)) (s:t10):Option (List t4) :=
(fun n3 n4 =>
 aa (decide (n4 < (l1.length:Int))) (
 aa (decide (0<=n4)) (
 Q1 (l1[n4.toNat]?) fun l5 =>
 aa (decide (((i64.wrap (n3+(l5.length:Int))):Int) < 0)) (
 none) (
 bV ((i64.wrap (n3+(l5.length:Int))),(i64.wrap (n4+1))))) none) (
 uL n3)) s.1 s.2
theorem Ud (d:Nat) (l1:List (List t4)):GB (d+2) l1 =
 Q9 (mh d l1 (mg d l1)) Qd (0,0):=by kernel_rfl
noncomputable def yT (d:Nat) (x1:t2) (b6:Bool):Option Bool :=
 Q1 (GB d x1.2.2.1) fun r7 =>
 Q1 (GA d r7) fun r8 =>
 some r8
noncomputable def DT (d:Nat) (gW:t9->Option Bool) (n7:Int) (vL:Bool) (nE:Int):Option Bool :=
 gW (vL,(i64.wrap (n7+1)))
noncomputable def yU (d:Nat) (x1:t2) (n8:Int) (lz:List t4) (yV:Bool->Int->Option Bool) (FK:t9->Option Bool) (s:t9):Option Bool :=
(fun (vL:Bool) nE =>
 aa (decide (nE < (lz.length:Int))) (
 aa (decide (0<=nE)) (
 Q1 (lz[nE.toNat]?) fun TB =>
 Q1 (Cb d TB) fun o6 =>
 aa (!o6) (
 some false) (
 Q1 (Cc d x1.1 TB) fun FB =>
 aa (FB != n8) (
 some false) (
 FK (vL,(i64.wrap (nE+1)))))) none) (
 yV vL nE)) s.1 s.2
noncomputable def yW (d:Nat) (x1:t2) (r3:List Int) (yX:Bool->Option Bool) (gW:t9->Option Bool) (s:t9):Option Bool :=
(fun (b6:Bool) n7 =>
 aa (decide (n7 < (r3.length:Int))) (
 aa (decide (0<=n7)) (
 aa (Nat.blt (n7.toNat) r3.length) (
 Q1 (r3[n7.toNat]?) fun n8 =>
 aa (decide (0<=n7)) (
 Q1 (x1.2.2.1[n7.toNat]?) fun l9 =>
 aa (decide (0<=n8)) (
 Q1 (x1.1.2.1[n8.toNat]?) fun aR =>
 aa (decide ((l9.length:Int) > aR.2.2.2.2.2.2.2)) (
 some false) (
 aa (decide (0<=n7)) (
 Q1 (x1.2.2.1[n7.toNat]?) fun lz =>
 Q9 (yU d x1 n8 lz (DT d gW n7)) Qd (b6,0)) none)) none) none) none) none) (
 yX b6)) s.1 s.2
noncomputable def kG (d:Nat) (x1:t2) (r3:List Int) (b4:Bool):Option Bool :=
 aa b4 (
 some false) (
 Q9 (yW d x1 r3 (yT d x1)) Qd (false,0))
noncomputable def yY (d:Nat) (x1:t2) (b2:Bool):Option Bool :=
 aa b2 (
 some false) (
 Q1 (nK d x1.1) fun r3 =>
 aa ((x1.2.2.1.length:Int) != (r3.length:Int)) (
 kG d x1 r3 true) (
 aa (decide (x1.2.2.2.1 < (-1))) (
 kG d x1 r3 true) (
 aa (decide (x1.2.2.2.1>=(r3.length:Int))) (
 kG d x1 r3 true) (
 aa (decide (x1.2.2.2.2 < 0)) (
 kG d x1 r3 true) (
 kG d x1 r3 (decide (x1.2.2.2.2 > 1000000)))))))
theorem e70 (d:Nat) (x1:t2):OF (d+1) x1 =
 Q1 (Gq d x1.1) fun r2 =>
 aa (!r2) (
 yY d x1 true) (
 Q1 (Gs d x1.1 x1.2.1) fun r3 =>
 yY d x1 (!r3)):=by kernel_rfl
noncomputable def GC (d:Nat) (l3 l4:List Int):Option t7 :=
 some (l3,l4)
noncomputable def qC (d:Nat) (x1:t0) (uM:(List Int)->(List Int)->Option t7) (bV:(Int×t7)->Option t7) (s:(Int×t7)):Option t7 :=
(fun n3 (x4:t7) =>
 aa (decide (n3 < (x1.2.1.length:Int))) (
 aa (decide (0<=n3)) (
 Q1 (x1.2.1[n3.toNat]?) fun x5 =>
 aa (Nat.ble ((x4.1.length+[x5.2.2.2.2.1].length)*8) Q7) (
 aa (Nat.ble ((x4.2.length+[x5.2.2.2.2.2.1].length)*8) Q7) (
 bV ((i64.wrap (n3+1)),((x4.1++[x5.2.2.2.2.1]),(x4.2++[x5.2.2.2.2.2.1])))) none) none) none) (
 uM x4.1 x4.2)) s.1 s.2
theorem Ue (d:Nat) (x1:t0):GD (d+1) x1 =
 Q9 (qC d x1 (GC d)) Qd (0,([],[])):=by kernel_rfl
noncomputable def qD (d:Nat) (x1:t2) (r3:t0) (l7 l8 l10:List Int) (lz:List (List t4)) (eC:Int):Option t8 :=
 some ((r3,(l7,l8),lz,(-1),x1.2.2.2.2),l10)
noncomputable def fS (d:Nat) (x1:t2) (r3:t0) (l7 l8 l10:List Int) (lz:List (List t4)) (mS:t1) (vM:List Int) (j6:Int->Option t8) (FI:t10->Option t8) (s:t10):Option t8 :=
(fun eC eJ =>
 aa (decide (eJ < (vM.length:Int))) (
 aa (decide (0<=eJ)) (
 aa (Nat.blt (eJ.toNat) vM.length) (
 Q1 (vM[eJ.toNat]?) fun tK =>
 aa (decide (0<=tK)) (
 aa (Nat.blt (tK.toNat) r3.2.1.length) (
 Q1 (r3.2.1[tK.toNat]?) fun B3 =>
 aa (B3.1==mS.1) (
 some ((r3,(l7,l8),lz,eJ,x1.2.2.2.2),l10)) (
 FI (eC,(i64.wrap (eJ+1))))) none) none) none) none) (
 j6 eC)) s.1 s.2
noncomputable def oW (d:Nat) (x1:t2) (r3:t0) (l7 l8 l10:List Int) (lz:List (List t4)):Option t8 :=
 aa (decide (x1.2.2.2.1>=0)) (
 Q1 (nK (d+2) x1.1) fun mQ =>
 aa (decide (0<=x1.2.2.2.1)) (
 aa (Nat.blt (x1.2.2.2.1.toNat) mQ.length) (
 Q1 (mQ[x1.2.2.2.1.toNat]?) fun jX =>
 aa (decide (0<=jX)) (
 Q1 (x1.1.2.1[jX.toNat]?) fun mS =>
 Q1 (nK (d+2) r3) fun vM =>
 Q9 (fS d x1 r3 l7 l8 l10 lz mS vM (qD d x1 r3 l7 l8 l10 lz)) Qd (0,0)) none) none) none) (
 some ((r3,(l7,l8),lz,(-1),x1.2.2.2.2),l10))
noncomputable def wN (d:Nat) (DS:t12->Option t8) (iF gH:Int) (pL:List Int) (gp:List (List t4)):Option t8 :=
 DS (pL,(i64.wrap (iF+1)),gp)
noncomputable def cB (d:Nat) (iG:t12->Option t8) (iw:List Int) (dK:Int) (fT:t4) (tK n20:Int) (eS:List (List t4)):Option t8 :=
 aa (tK != 1) (
 aa (Nat.ble ((iw.length+[fT.1].length)*8) Q7) (
 iG ((iw++[fT.1]),(i64.wrap (dK+1)),eS)) none) (
 iG (iw,(i64.wrap (dK+1)),eS))
noncomputable def kX (d:Nat) (r3:t0) (fU:List t4) (uN:Int->(List Int)->(List (List t4))->Option t8) (iG:t12->Option t8) (s:t12):Option t8 :=
(fun (iw:List Int) dK (gp:List (List t4)) =>
 aa (decide (dK < (fU.length:Int))) (
 aa (decide (0<=dK)) (
 Q1 (fU[dK.toNat]?) fun fT =>
 Q1 (Cc (d+1) r3 fT) fun vN =>
 aa (decide (vN < 0)) (
 cB d iG iw dK fT 3 0 gp) (
 aa (decide (0<=vN)) (
 aa (Nat.blt (vN.toNat) r3.2.1.length) (
 Q1 (r3.2.1[vN.toNat]?) fun B3 =>
 Q1 (nK (d+1) r3) fun r21 =>
 Q1 (ya (d+1) r21 vN) fun rR =>
 aa (decide (0<=rR)) (
 aa (Nat.blt (rR.toNat) gp.length) (
 Q1 (gp[rR.toNat]?) fun IQ =>
 aa ((IQ.length:Int)==B3.2.2.2.2.2.2.2) (
 cB d iG iw dK fT 2 B3.1 gp) (
 aa (decide (0<=rR)) (
 aa (Nat.blt (rR.toNat) gp.length) (
 Q1 (gp[rR.toNat]?) fun mR =>
 aa (Nat.ble ((mR.length+[fT].length)*48) Q7) (
 aa (decide (0<=rR)) (
 aa (Nat.blt (rR.toNat) gp.length) (
 aa (Nat.beq (rR.toNat) (rR.toNat)) (
 Q1 (gp[rR.toNat]?) fun BS =>
 cB d iG iw dK fT 1 B3.1 (gp.set (rR.toNat) (mR++[fT]))) none) none) none) none) none) none)) none) none) none) none)) none) (
 uN dK iw gp)) s.1 s.2.1 s.2.2
noncomputable def kY (d:Nat) (x1:t2) (r3:t0) (uO:(List Int)->(List (List t4))->Option t8) (DS:t12->Option t8) (s:t12):Option t8 :=
(fun (l10:List Int) iF (DF:List (List t4)) =>
 aa (decide (iF < (x1.2.2.1.length:Int))) (
 aa (decide (0<=iF)) (
 Q1 (x1.2.2.1[iF.toNat]?) fun fU =>
 Q9 (kX d r3 fU (wN d DS iF)) Qd (l10,0,DF)) none) (
 uO l10 DF)) s.1 s.2.1 s.2.2
noncomputable def wO (d:Nat) (x1:t2) (r3:t0) (r5 l7 l8:List Int):Option t8 :=
 Q9 (kY d x1 r3 (oW d x1 r3 l7 l8)) Qd (([]:List Int),0,(List.replicate ((r5.length:Int).toNat) ([]:List t4)))
noncomputable def cA (d:Nat) (x1:t2) (gm:t16->Option t8) (n7:Int) (l8 l9:List Int) (aR:t1) (iF:Int):Option t8 :=
 aa (decide (iF>=0)) (
 aa (decide (0<=iF)) (
 Q1 (x1.2.1.1[iF.toNat]?) fun tM =>
 aa (decide (0<=n7)) (
 aa (Nat.blt (n7.toNat) l8.length) (
 Q1 (l8[n7.toNat]?) fun jX =>
 aa (decide (0<=iF)) (
 Q1 (x1.2.1.2[iF.toNat]?) fun nE =>
 aa (decide (0<=n7)) (
 aa (Nat.blt (n7.toNat) l9.length) (
 Q1 (l9[n7.toNat]?) fun gH =>
 gm ((i64.wrap (n7+1)),(l8.set (n7.toNat) (if aR.2.2.2.2.1 < tM then aR.2.2.2.2.1 else tM)),(l9.set (n7.toNat) (if aR.2.2.2.2.2.1 < nE then aR.2.2.2.2.2.1 else nE)))) none) none) none) none) none) none) (
 gm ((i64.wrap (n7+1)),l8,l9))
noncomputable def qE (d:Nat) (x1:t2) (gm:t16->Option t8) (n7:Int) (l8 l9:List Int) (aR:t1) (tM:Int):Option t8 :=
 cA d x1 gm n7 l8 l9 aR (-1)
noncomputable def fR (d:Nat) (x1:t2) (gm:t16->Option t8) (n7:Int) (l8 l9:List Int) (aR:t1) (j7:Int->Option t8) (Uf:t10->Option t8) (s:t10):Option t8 :=
(fun tM jX =>
 aa (decide (jX < (x1.1.2.1.length:Int))) (
 aa (decide (0<=jX)) (
 Q1 (x1.1.2.1[jX.toNat]?) fun mS =>
 aa (mS.1==aR.1) (
 cA d x1 gm n7 l8 l9 aR jX) (
 Uf (tM,(i64.wrap (jX+1))))) none) (
 j7 tM)) s.1 s.2
noncomputable def kW (d:Nat) (x1:t2) (r3:t0) (uP:(List Int)->(List Int)->Option t8) (gm:t16->Option t8) (s:t16):Option t8 :=
(fun n7 (l8:List Int) (l9:List Int) =>
 aa (decide (n7 < (r3.2.1.length:Int))) (
 aa (decide (0<=n7)) (
 aa (Nat.blt (n7.toNat) r3.2.1.length) (
 Q1 (r3.2.1[n7.toNat]?) fun aR =>
 Q9 (fR d x1 gm n7 l8 l9 aR (qE d x1 gm n7 l8 l9 aR)) Qd (0,0)) none) none) (
 uP l8 l9)) s.1 s.2.1 s.2.2
theorem R3 (d:Nat) (x1:t2) (x2:t3):Fo (d+3) x1 x2 =
 Q1 (Ca (d+2) x2) fun r3 =>
 Q1 (GD (d+2) r3) fun r4 =>
 Q1 (nK (d+2) r3) fun r5 =>
 aa (decide (0<=(r5.length:Int))) (
 aa (decide (0<=(r5.length:Int))) (
 aa (Nat.ble ((r5.length:Int).toNat) ((r5.length:Int).toNat)&&Nat.ble (((r5.length:Int).toNat)*24) Q7) (
 Q9 (kW d x1 r3 (wO d x1 r3 r5)) Qd (0,r4.1,r4.2)) none) none) none:=by kernel_rfl
noncomputable def wU (d:Nat) (x1:t2) (x2:t3) (b3:Bool):Option t14 :=
 aa b3 (
 some ((((⟨#[]⟩:ByteArray),[],[],[],[],[],[],[],0),([],[]),[],0,0),[],false)) (
 Q1 (Fo d x1 x2) fun r4 =>
 some (r4.1,r4.2,true))
theorem e72 (d:Nat) (x1:t2) (x2:t3):Oi (d+1) x1 x2 =
 Q1 (OF d x1) fun r3 =>
 aa (!r3) (
 wU d x1 x2 true) (
 Q1 (IV d x2) fun r4 =>
 wU d x1 x2 (!r4)):=by kernel_rfl
theorem e9 (d:Nat) (x1:t2) (n2 n3:Int):g9 (d+3) x1 n2 n3 =
 Q1 (OF (d+1) x1) fun r4 =>
 aa (!r4) (
 some ((((⟨#[]⟩:ByteArray),[],[],[],[],[],[],[],0),([],[]),[],0,0),[],false)) (
 Q1 (K5 (d+1) x1.1) fun r5 =>
 Q1 (Sk d r5 n2 n3) fun r6 =>
 aa (!r6.2) (
 some ((((⟨#[]⟩:ByteArray),[],[],[],[],[],[],[],0),([],[]),[],0,0),[],false)) (
 Q1 (Oi (d+1) x1 r6.1) fun r7 =>
 some (r7.1,r7.2.1,r7.2.2))):=by kernel_rfl
noncomputable def DU (d:Nat) (b4:Bool):Option Bool :=
 some true
noncomputable def yZ (d:Nat) (l1 l2:List Int) (y_:Bool->Option Bool) (bM:t9->Option Bool) (s:t9):Option Bool :=
(fun (b4:Bool) n5 =>
 aa (decide (n5 < (l1.length:Int))) (
 aa (decide (0<=n5)) (
 Q1 (l1[n5.toNat]?) fun n6 =>
 aa (decide (0<=n5)) (
 Q1 (l2[n5.toNat]?) fun n7 =>
 aa (n6 != n7) (
 some false) (
 bM (b4,(i64.wrap (n5+1))))) none) none) (
 y_ b4)) s.1 s.2
theorem e11 (d:Nat) (l1 l2:List Int):g11 (d+1) l1 l2 =
 aa ((l1.length:Int) != (l2.length:Int)) (
 some false) (
 Q9 (yZ d l1 l2 (DU d)) Qd (false,0)):=by kernel_rfl
theorem Ug (d:Nat) (x1 x2:t1):Le (d+1) x1 x2 =
 aa (x1.1 != x2.1) (
 some false) (
 aa (x1.2.1 != x2.2.1) (
 some false) (
 aa (x1.2.2.1 != x2.2.2.1) (
 some false) (
 aa (x1.2.2.2.1 != x2.2.2.2.1) (
 some false) (
 aa (x1.2.2.2.2.1 != x2.2.2.2.2.1) (
 some false) (
 aa (x1.2.2.2.2.2.1 != x2.2.2.2.2.2.1) (
 some false) (
 aa (x1.2.2.2.2.2.2.1 != x2.2.2.2.2.2.2.1) (
 some false) (
 aa (x1.2.2.2.2.2.2.2 != x2.2.2.2.2.2.2.2) (
 some false) (
 some true)))))))):=by kernel_rfl
noncomputable def DV (d:Nat) (b4:Bool):Option Bool :=
 some true
noncomputable def za (d:Nat) (l1 l2:List t1) (zb:Bool->Option Bool) (bM:t9->Option Bool) (s:t9):Option Bool :=
(fun (b4:Bool) n5 =>
 aa (decide (n5 < (l1.length:Int))) (
 aa (decide (0<=n5)) (
 Q1 (l1[n5.toNat]?) fun x6 =>
 aa (decide (0<=n5)) (
 Q1 (l2[n5.toNat]?) fun x7 =>
 Q1 (Le d x6 x7) fun r8 =>
 aa (!r8) (
 some false) (
 bM (b4,(i64.wrap (n5+1))))) none) none) (
 zb b4)) s.1 s.2
theorem e78 (d:Nat) (l1 l2:List t1):Uh (d+1) l1 l2 =
 aa ((l1.length:Int) != (l2.length:Int)) (
 some false) (
 Q9 (za d l1 l2 (DV d)) Qd (false,0)):=by kernel_rfl
theorem Ui (d:Nat) (x1 x2:t5):Lf (d+1) x1 x2 =
 aa (x1.1 != x2.1) (
 some false) (
 aa (x1.2.1 != x2.2.1) (
 some false) (
 aa (x1.2.2.1 != x2.2.2.1) (
 some false) (
 aa (x1.2.2.2.1 != x2.2.2.2.1) (
 some false) (
 aa (x1.2.2.2.2 != x2.2.2.2.2) (
 some false) (
 some true))))):=by kernel_rfl
noncomputable def DW (d:Nat) (b4:Bool):Option Bool :=
 some true
noncomputable def zc (d:Nat) (l1 l2:List t5) (zd:Bool->Option Bool) (bM:t9->Option Bool) (s:t9):Option Bool :=
(fun (b4:Bool) n5 =>
 aa (decide (n5 < (l1.length:Int))) (
 aa (decide (0<=n5)) (
 Q1 (l1[n5.toNat]?) fun x6 =>
 aa (decide (0<=n5)) (
 Q1 (l2[n5.toNat]?) fun x7 =>
 Q1 (Lf d x6 x7) fun r8 =>
 aa (!r8) (
 some false) (
 bM (b4,(i64.wrap (n5+1))))) none) none) (
 zd b4)) s.1 s.2
theorem e79 (d:Nat) (l1 l2:List t5):Uj (d+1) l1 l2 =
 aa ((l1.length:Int) != (l2.length:Int)) (
 some false) (
 Q9 (zc d l1 l2 (DW d)) Qd (false,0)):=by kernel_rfl
theorem e34 (d:Nat) (x1 x2:t0):Uk (d+1) x1 x2 =
 aa (!(x1.1.toList==x2.1.toList)) (
 some false) (
 Q1 (Uh d x1.2.1 x2.2.1) fun r3 =>
 aa (!r3) (
 some false) (
 Q1 (g11 d x1.2.2.1 x2.2.2.1) fun r4 =>
 aa (!r4) (
 some false) (
 Q1 (g11 d x1.2.2.2.1 x2.2.2.2.1) fun r5 =>
 aa (!r5) (
 some false) (
 Q1 (g11 d x1.2.2.2.2.1 x2.2.2.2.2.1) fun r6 =>
 aa (!r6) (
 some false) (
 Q1 (g11 d x1.2.2.2.2.2.1 x2.2.2.2.2.2.1) fun r7 =>
 aa (!r7) (
 some false) (
 Q1 (Uj d x1.2.2.2.2.2.2.1 x2.2.2.2.2.2.2.1) fun r8 =>
 aa (!r8) (
 some false) (
 Q1 (g11 d x1.2.2.2.2.2.2.2.1 x2.2.2.2.2.2.2.2.1) fun r9 =>
 aa (!r9) (
 some false) (
 aa (x1.2.2.2.2.2.2.2.2 != x2.2.2.2.2.2.2.2.2) (
 some false) (
 some true))))))))):=by kernel_rfl
theorem e35 (d:Nat) (x1 x2:t7):Ul (d+1) x1 x2 =
 Q1 (g11 d x1.1 x2.1) fun r3 =>
 aa (!r3) (
 some false) (
 Q1 (g11 d x1.2 x2.2) fun r4 =>
 aa (!r4) (
 some false) (
 some true)):=by kernel_rfl
theorem Um (d:Nat) (x1 x2:t4):Lg (d+1) x1 x2 =
 aa (x1.1 != x2.1) (
 some false) (
 aa (x1.2.1 != x2.2.1) (
 some false) (
 aa (x1.2.2.1 != x2.2.2.1) (
 some false) (
 aa (x1.2.2.2.1 != x2.2.2.2.1) (
 some false) (
 aa (x1.2.2.2.2.1 != x2.2.2.2.2.1) (
 some false) (
 aa (x1.2.2.2.2.2 != x2.2.2.2.2.2) (
 some false) (
 some true)))))):=by kernel_rfl
noncomputable def DX (d:Nat) (b4:Bool):Option Bool :=
 some true
noncomputable def ze (d:Nat) (l1 l2:List t4) (zf:Bool->Option Bool) (bM:t9->Option Bool) (s:t9):Option Bool :=
(fun (b4:Bool) n5 =>
 aa (decide (n5 < (l1.length:Int))) (
 aa (decide (0<=n5)) (
 Q1 (l1[n5.toNat]?) fun x6 =>
 aa (decide (0<=n5)) (
 Q1 (l2[n5.toNat]?) fun x7 =>
 Q1 (Lg d x6 x7) fun r8 =>
 aa (!r8) (
 some false) (
 bM (b4,(i64.wrap (n5+1))))) none) none) (
 zf b4)) s.1 s.2
theorem e80 (d:Nat) (l1 l2:List t4):Un (d+1) l1 l2 =
 aa ((l1.length:Int) != (l2.length:Int)) (
 some false) (
 Q9 (ze d l1 l2 (DX d)) Qd (false,0)):=by kernel_rfl
noncomputable def DY (d:Nat) (b4:Bool):Option Bool :=
 some true
noncomputable def zg (d:Nat) (l1 l2:List (List t4)) (zh:Bool->Option Bool) (bM:t9->Option Bool) (s:t9):Option Bool :=
(fun (b4:Bool) n5 =>
 aa (decide (n5 < (l1.length:Int))) (
 aa (decide (0<=n5)) (
 Q1 (l1[n5.toNat]?) fun l6 =>
 aa (decide (0<=n5)) (
 Q1 (l2[n5.toNat]?) fun l7 =>
 Q1 (Un d l6 l7) fun r8 =>
 aa (!r8) (
 some false) (
 bM (b4,(i64.wrap (n5+1))))) none) none) (
 zh b4)) s.1 s.2
theorem e36 (d:Nat) (l1 l2:List (List t4)):Uo (d+1) l1 l2 =
 aa ((l1.length:Int) != (l2.length:Int)) (
 some false) (
 Q9 (zg d l1 l2 (DY d)) Qd (false,0)):=by kernel_rfl
theorem e10 (d:Nat) (x1 x2:t2):g10 (d+1) x1 x2 =
 Q1 (Uk d x1.1 x2.1) fun r3 =>
 aa (!r3) (
 some false) (
 Q1 (Ul d x1.2.1 x2.2.1) fun r4 =>
 aa (!r4) (
 some false) (
 Q1 (Uo d x1.2.2.1 x2.2.2.1) fun r5 =>
 aa (!r5) (
 some false) (
 aa (x1.2.2.2.1 != x2.2.2.2.1) (
 some false) (
 aa (x1.2.2.2.2 != x2.2.2.2.2) (
 some false) (
 some true))))):=by kernel_rfl
noncomputable def zi (d:Nat) (n4:Int) (l5:List Int):Option t11 :=
 some (n4,l5)
noncomputable def rS (d:Nat) (zj:Int->(List Int)->Option t11) (bM:(Int×Int×(List Int))->Option t11) (s:(Int×Int×(List Int))):Option t11 :=
(fun n4 n5 (l6:List Int) =>
 aa (decide (n5 < (l6.length:Int))) (
 aa (decide (0<=n5)) (
 aa (Nat.blt (n5.toNat) l6.length) (
 Q1 (l6[n5.toNat]?) fun n7 =>
 bM ((i64.wrap (n4+1)),(i64.wrap (n5+1)),(l6.set (n5.toNat) n4))) none) none) (
 zj n4 l6)) s.1 s.2.1 s.2.2
theorem e13 (d:Nat) (l1:List Int) (n2:Int):g13 (d+1) l1 n2 =
 Q9 (rS d (zi d)) Qd (n2,0,l1):=by kernel_rfl
noncomputable def zl (d:Nat) (n4 n5:Int):Option Int :=
 some n4
noncomputable def rT (d:Nat) (l1:List Int) (zm:Int->Int->Option Int) (bM:(Int×Int×Int)->Option Int) (s:(Int×Int×Int)):Option Int :=
(fun n4 n5 n6 =>
 aa (decide (n6 < (l1.length:Int))) (
 aa (decide (0<=n6)) (
 Q1 (l1[n6.toNat]?) fun n7 =>
 aa (n7 != n4) (
 some (-1)) (
 bM ((i64.wrap (n4+1)),n5,(i64.wrap (n6+1))))) none) (
 zm n4 n5)) s.1 s.2.1 s.2.2
theorem e15 (d:Nat) (l1:List Int) (n2:Int):g15 (d+1) l1 n2 =
 Q9 (rT d l1 (zl d)) Qd (n2,0,0):=by kernel_rfl
noncomputable def zn (d:Nat) (n4 n5:Int):Option Int :=
 some n4
noncomputable def rU (d:Nat) (l1:List t1) (zo:Int->Int->Option Int) (bM:(Int×Int×Int)->Option Int) (s:(Int×Int×Int)):Option Int :=
(fun n4 n5 n6 =>
 aa (decide (n6 < (l1.length:Int))) (
 aa (decide (0<=n6)) (
 Q1 (l1[n6.toNat]?) fun x7 =>
 aa (x7.1 != n4) (
 some (-1)) (
 aa (decide (0<=n6)) (
 Q1 (l1[n6.toNat]?) fun x8 =>
 aa (x8.2.1 != (i64.wrap (n4+1))) (
 some (-1)) (
 aa (decide (0<=n6)) (
 Q1 (l1[n6.toNat]?) fun x9 =>
 aa (x9.2.2.1 != (i64.wrap ((i64.wrap (n4+1))+1))) (
 some (-1)) (
 aa (decide (0<=n6)) (
 Q1 (l1[n6.toNat]?) fun aR =>
 aa (aR.2.2.2.1 != (i64.wrap ((i64.wrap ((i64.wrap (n4+1))+1))+1))) (
 some (-1)) (
 aa (decide (0<=n6)) (
 Q1 (l1[n6.toNat]?) fun bQ =>
 aa (bQ.2.2.2.2.1 != (i64.wrap ((i64.wrap ((i64.wrap ((i64.wrap (n4+1))+1))+1))+1))) (
 some (-1)) (
 aa (decide (0<=n6)) (
 Q1 (l1[n6.toNat]?) fun dF =>
 aa (dF.2.2.2.2.2.1 != (i64.wrap ((i64.wrap ((i64.wrap ((i64.wrap ((i64.wrap (n4+1))+1))+1))+1))+1))) (
 some (-1)) (
 aa (decide (0<=n6)) (
 Q1 (l1[n6.toNat]?) fun gI =>
 aa (gI.2.2.2.2.2.2.1 != (i64.wrap ((i64.wrap ((i64.wrap ((i64.wrap ((i64.wrap ((i64.wrap (n4+1))+1))+1))+1))+1))+1))) (
 some (-1)) (
 aa (decide (0<=n6)) (
 Q1 (l1[n6.toNat]?) fun mS =>
 aa (mS.2.2.2.2.2.2.2 != (i64.wrap ((i64.wrap ((i64.wrap ((i64.wrap ((i64.wrap ((i64.wrap ((i64.wrap (n4+1))+1))+1))+1))+1))+1))+1))) (
 some (-1)) (
 bM ((i64.wrap ((i64.wrap ((i64.wrap ((i64.wrap ((i64.wrap ((i64.wrap ((i64.wrap ((i64.wrap (n4+1))+1))+1))+1))+1))+1))+1))+1)),n5,(i64.wrap (n6+1))))) none)) none)) none)) none)) none)) none)) none)) none) (
 zo n4 n5)) s.1 s.2.1 s.2.2
theorem e84 (d:Nat) (l1:List t1) (n2:Int):Up (d+1) l1 n2 =
 Q9 (rU d l1 (zn d)) Qd (n2,0,0):=by kernel_rfl
noncomputable def zq (d:Nat) (n4 n5:Int):Option Int :=
 some n4
noncomputable def rV (d:Nat) (l1:List t5) (zu:Int->Int->Option Int) (bM:(Int×Int×Int)->Option Int) (s:(Int×Int×Int)):Option Int :=
(fun n4 n5 n6 =>
 aa (decide (n6 < (l1.length:Int))) (
 aa (decide (0<=n6)) (
 Q1 (l1[n6.toNat]?) fun x7 =>
 aa (x7.1 != n4) (
 some (-1)) (
 aa (decide (0<=n6)) (
 Q1 (l1[n6.toNat]?) fun x8 =>
 aa (x8.2.1 != (i64.wrap (n4+1))) (
 some (-1)) (
 aa (decide (0<=n6)) (
 Q1 (l1[n6.toNat]?) fun x9 =>
 aa (x9.2.2.1 != (i64.wrap ((i64.wrap (n4+1))+1))) (
 some (-1)) (
 aa (decide (0<=n6)) (
 Q1 (l1[n6.toNat]?) fun aR =>
 aa (aR.2.2.2.1 != (i64.wrap ((i64.wrap ((i64.wrap (n4+1))+1))+1))) (
 some (-1)) (
 aa (decide (0<=n6)) (
 Q1 (l1[n6.toNat]?) fun bQ =>
 aa (bQ.2.2.2.2 != (i64.wrap ((i64.wrap ((i64.wrap ((i64.wrap (n4+1))+1))+1))+1))) (
 some (-1)) (
 bM ((i64.wrap ((i64.wrap ((i64.wrap ((i64.wrap ((i64.wrap (n4+1))+1))+1))+1))+1)),n5,(i64.wrap (n6+1))))) none)) none)) none)) none)) none) (
 zu n4 n5)) s.1 s.2.1 s.2.2
theorem e85 (d:Nat) (l1:List t5) (n2:Int):Uq (d+1) l1 n2 =
 Q9 (rV d l1 (zq d)) Qd (n2,0,0):=by kernel_rfl
theorem e40 (d:Nat) (x1:t0) (n2:Int):Ur (d+1) x1 n2 =
 Q1 (Up d x1.2.1 n2) fun r3 =>
 aa (decide (r3 < 0)) (
 some (-1)) (
 Q1 (g15 d x1.2.2.1 r3) fun r4 =>
 aa (decide (r4 < 0)) (
 some (-1)) (
 Q1 (g15 d x1.2.2.2.1 r4) fun r5 =>
 aa (decide (r5 < 0)) (
 some (-1)) (
 Q1 (g15 d x1.2.2.2.2.1 r5) fun r6 =>
 aa (decide (r6 < 0)) (
 some (-1)) (
 Q1 (g15 d x1.2.2.2.2.2.1 r6) fun r7 =>
 aa (decide (r7 < 0)) (
 some (-1)) (
 Q1 (Uq d x1.2.2.2.2.2.2.1 r7) fun r8 =>
 aa (decide (r8 < 0)) (
 some (-1)) (
 Q1 (g15 d x1.2.2.2.2.2.2.2.1 r8) fun r9 =>
 aa (decide (r9 < 0)) (
 some (-1)) (
 some r9))))))):=by kernel_rfl
theorem e41 (d:Nat) (x1:t7) (n2:Int):Us (d+1) x1 n2 =
 Q1 (g15 d x1.1 n2) fun r3 =>
 aa (decide (r3 < 0)) (
 some (-1)) (
 Q1 (g15 d x1.2 r3) fun r4 =>
 aa (decide (r4 < 0)) (
 some (-1)) (
 some r4)):=by kernel_rfl
noncomputable def zv (d:Nat) (n4 n5:Int):Option Int :=
 some n4
noncomputable def rW (d:Nat) (l1:List t4) (zw:Int->Int->Option Int) (bM:(Int×Int×Int)->Option Int) (s:(Int×Int×Int)):Option Int :=
(fun n4 n5 n6 =>
 aa (decide (n6 < (l1.length:Int))) (
 aa (decide (0<=n6)) (
 Q1 (l1[n6.toNat]?) fun x7 =>
 aa (x7.1 != n4) (
 some (-1)) (
 aa (decide (0<=n6)) (
 Q1 (l1[n6.toNat]?) fun x8 =>
 aa (x8.2.1 != (i64.wrap (n4+1))) (
 some (-1)) (
 aa (decide (0<=n6)) (
 Q1 (l1[n6.toNat]?) fun x9 =>
 aa (x9.2.2.1 != (i64.wrap ((i64.wrap (n4+1))+1))) (
 some (-1)) (
 aa (decide (0<=n6)) (
 Q1 (l1[n6.toNat]?) fun aR =>
 aa (aR.2.2.2.1 != (i64.wrap ((i64.wrap ((i64.wrap (n4+1))+1))+1))) (
 some (-1)) (
 aa (decide (0<=n6)) (
 Q1 (l1[n6.toNat]?) fun bQ =>
 aa (bQ.2.2.2.2.1 != (i64.wrap ((i64.wrap ((i64.wrap ((i64.wrap (n4+1))+1))+1))+1))) (
 some (-1)) (
 aa (decide (0<=n6)) (
 Q1 (l1[n6.toNat]?) fun dF =>
 aa (dF.2.2.2.2.2 != (i64.wrap ((i64.wrap ((i64.wrap ((i64.wrap ((i64.wrap (n4+1))+1))+1))+1))+1))) (
 some (-1)) (
 bM ((i64.wrap ((i64.wrap ((i64.wrap ((i64.wrap ((i64.wrap ((i64.wrap (n4+1))+1))+1))+1))+1))+1)),n5,(i64.wrap (n6+1))))) none)) none)) none)) none)) none)) none) (
 zw n4 n5)) s.1 s.2.1 s.2.2
theorem e86 (d:Nat) (l1:List t4) (n2:Int):ZE (d+1) l1 n2 =
 Q9 (rW d l1 (zv d)) Qd (n2,0,0):=by kernel_rfl
noncomputable def zx (d:Nat) (n4 n5:Int):Option Int :=
 some n4
noncomputable def rX (d:Nat) (l1:List (List t4)) (zy:Int->Int->Option Int) (bM:(Int×Int×Int)->Option Int) (s:(Int×Int×Int)):Option Int :=
(fun n4 n5 n6 =>
 aa (decide (n6 < (l1.length:Int))) (
 aa (decide (0<=n6)) (
 Q1 (l1[n6.toNat]?) fun l7 =>
 Q1 (ZE d l7 n4) fun r8 =>
 aa (decide (r8 < 0)) (
 some (-1)) (
 bM (r8,n5,(i64.wrap (n6+1))))) none) (
 zy n4 n5)) s.1 s.2.1 s.2.2
theorem e42 (d:Nat) (l1:List (List t4)) (n2:Int):ZF (d+1) l1 n2 =
 Q9 (rX d l1 (zx d)) Qd (n2,0,0):=by kernel_rfl
theorem e14 (d:Nat) (x1:t2) (n2:Int):g14 (d+1) x1 n2 =
 Q1 (Ur d x1.1 n2) fun r3 =>
 aa (decide (r3 < 0)) (
 some (-1)) (
 Q1 (Us d x1.2.1 r3) fun r4 =>
 aa (decide (r4 < 0)) (
 some (-1)) (
 Q1 (ZF d x1.2.2.1 r4) fun r5 =>
 aa (decide (r5 < 0)) (
 some (-1)) (
 some r5))):=by kernel_rfl
noncomputable def zA (d:Nat) (n4:Int) (l5:List t1):Option t13 :=
 some (n4,l5)
noncomputable def rY (d:Nat) (zB:Int->(List t1)->Option t13) (bM:(Int×Int×(List t1))->Option t13) (s:(Int×Int×(List t1))):Option t13 :=
(fun n4 n5 (l6:List t1) =>
 aa (decide (n5 < (l6.length:Int))) (
 aa (decide (0<=n5)) (
 aa (Nat.blt (n5.toNat) l6.length) (
 Q1 (l6[n5.toNat]?) fun x7 =>
 aa (decide (0<=n5)) (
 aa (Nat.blt (n5.toNat) ((l6.set (n5.toNat) (n4,x7.2)).length)) (
 Q1 ((l6.set (n5.toNat) (n4,x7.2))[n5.toNat]?) fun x8 =>
 aa (decide (0<=n5)) (
 aa (Nat.blt (n5.toNat) (((l6.set (n5.toNat) (n4,x7.2)).set (n5.toNat) (x8.1,(i64.wrap (n4+1)),x8.2.2)).length)) (
 Q1 (((l6.set (n5.toNat) (n4,x7.2)).set (n5.toNat) (x8.1,(i64.wrap (n4+1)),x8.2.2))[n5.toNat]?) fun x9 =>
 aa (decide (0<=n5)) (
 aa (Nat.blt (n5.toNat) ((((l6.set (n5.toNat) (n4,x7.2)).set (n5.toNat) (x8.1,(i64.wrap (n4+1)),x8.2.2)).set (n5.toNat) (x9.1,x9.2.1,(i64.wrap ((i64.wrap (n4+1))+1)),x9.2.2.2)).length)) (
 Q1 ((((l6.set (n5.toNat) (n4,x7.2)).set (n5.toNat) (x8.1,(i64.wrap (n4+1)),x8.2.2)).set (n5.toNat) (x9.1,x9.2.1,(i64.wrap ((i64.wrap (n4+1))+1)),x9.2.2.2))[n5.toNat]?) fun aR =>
 aa (decide (0<=n5)) (
 aa (Nat.blt (n5.toNat) (((((l6.set (n5.toNat) (n4,x7.2)).set (n5.toNat) (x8.1,(i64.wrap (n4+1)),x8.2.2)).set (n5.toNat) (x9.1,x9.2.1,(i64.wrap ((i64.wrap (n4+1))+1)),x9.2.2.2)).set (n5.toNat) (aR.1,aR.2.1,aR.2.2.1,(i64.wrap ((i64.wrap ((i64.wrap (n4+1))+1))+1)),aR.2.2.2.2)).length)) (
 Q1 (((((l6.set (n5.toNat) (n4,x7.2)).set (n5.toNat) (x8.1,(i64.wrap (n4+1)),x8.2.2)).set (n5.toNat) (x9.1,x9.2.1,(i64.wrap ((i64.wrap (n4+1))+1)),x9.2.2.2)).set (n5.toNat) (aR.1,aR.2.1,aR.2.2.1,(i64.wrap ((i64.wrap ((i64.wrap (n4+1))+1))+1)),aR.2.2.2.2))[n5.toNat]?) fun bQ =>
 aa (decide (0<=n5)) (
 aa (Nat.blt (n5.toNat) ((((((l6.set (n5.toNat) (n4,x7.2)).set (n5.toNat) (x8.1,(i64.wrap (n4+1)),x8.2.2)).set (n5.toNat) (x9.1,x9.2.1,(i64.wrap ((i64.wrap (n4+1))+1)),x9.2.2.2)).set (n5.toNat) (aR.1,aR.2.1,aR.2.2.1,(i64.wrap ((i64.wrap ((i64.wrap (n4+1))+1))+1)),aR.2.2.2.2)).set (n5.toNat) (bQ.1,bQ.2.1,bQ.2.2.1,bQ.2.2.2.1,(i64.wrap ((i64.wrap ((i64.wrap ((i64.wrap (n4+1))+1))+1))+1)),bQ.2.2.2.2.2)).length)) (
 Q1 ((((((l6.set (n5.toNat) (n4,x7.2)).set (n5.toNat) (x8.1,(i64.wrap (n4+1)),x8.2.2)).set (n5.toNat) (x9.1,x9.2.1,(i64.wrap ((i64.wrap (n4+1))+1)),x9.2.2.2)).set (n5.toNat) (aR.1,aR.2.1,aR.2.2.1,(i64.wrap ((i64.wrap ((i64.wrap (n4+1))+1))+1)),aR.2.2.2.2)).set (n5.toNat) (bQ.1,bQ.2.1,bQ.2.2.1,bQ.2.2.2.1,(i64.wrap ((i64.wrap ((i64.wrap ((i64.wrap (n4+1))+1))+1))+1)),bQ.2.2.2.2.2))[n5.toNat]?) fun dF =>
 aa (decide (0<=n5)) (
 aa (Nat.blt (n5.toNat) (((((((l6.set (n5.toNat) (n4,x7.2)).set (n5.toNat) (x8.1,(i64.wrap (n4+1)),x8.2.2)).set (n5.toNat) (x9.1,x9.2.1,(i64.wrap ((i64.wrap (n4+1))+1)),x9.2.2.2)).set (n5.toNat) (aR.1,aR.2.1,aR.2.2.1,(i64.wrap ((i64.wrap ((i64.wrap (n4+1))+1))+1)),aR.2.2.2.2)).set (n5.toNat) (bQ.1,bQ.2.1,bQ.2.2.1,bQ.2.2.2.1,(i64.wrap ((i64.wrap ((i64.wrap ((i64.wrap (n4+1))+1))+1))+1)),bQ.2.2.2.2.2)).set (n5.toNat) (dF.1,dF.2.1,dF.2.2.1,dF.2.2.2.1,dF.2.2.2.2.1,(i64.wrap ((i64.wrap ((i64.wrap ((i64.wrap ((i64.wrap (n4+1))+1))+1))+1))+1)),dF.2.2.2.2.2.2)).length)) (
 Q1 (((((((l6.set (n5.toNat) (n4,x7.2)).set (n5.toNat) (x8.1,(i64.wrap (n4+1)),x8.2.2)).set (n5.toNat) (x9.1,x9.2.1,(i64.wrap ((i64.wrap (n4+1))+1)),x9.2.2.2)).set (n5.toNat) (aR.1,aR.2.1,aR.2.2.1,(i64.wrap ((i64.wrap ((i64.wrap (n4+1))+1))+1)),aR.2.2.2.2)).set (n5.toNat) (bQ.1,bQ.2.1,bQ.2.2.1,bQ.2.2.2.1,(i64.wrap ((i64.wrap ((i64.wrap ((i64.wrap (n4+1))+1))+1))+1)),bQ.2.2.2.2.2)).set (n5.toNat) (dF.1,dF.2.1,dF.2.2.1,dF.2.2.2.1,dF.2.2.2.2.1,(i64.wrap ((i64.wrap ((i64.wrap ((i64.wrap ((i64.wrap (n4+1))+1))+1))+1))+1)),dF.2.2.2.2.2.2))[n5.toNat]?) fun gI =>
 aa (decide (0<=n5)) (
 aa (Nat.blt (n5.toNat) ((((((((l6.set (n5.toNat) (n4,x7.2)).set (n5.toNat) (x8.1,(i64.wrap (n4+1)),x8.2.2)).set (n5.toNat) (x9.1,x9.2.1,(i64.wrap ((i64.wrap (n4+1))+1)),x9.2.2.2)).set (n5.toNat) (aR.1,aR.2.1,aR.2.2.1,(i64.wrap ((i64.wrap ((i64.wrap (n4+1))+1))+1)),aR.2.2.2.2)).set (n5.toNat) (bQ.1,bQ.2.1,bQ.2.2.1,bQ.2.2.2.1,(i64.wrap ((i64.wrap ((i64.wrap ((i64.wrap (n4+1))+1))+1))+1)),bQ.2.2.2.2.2)).set (n5.toNat) (dF.1,dF.2.1,dF.2.2.1,dF.2.2.2.1,dF.2.2.2.2.1,(i64.wrap ((i64.wrap ((i64.wrap ((i64.wrap ((i64.wrap (n4+1))+1))+1))+1))+1)),dF.2.2.2.2.2.2)).set (n5.toNat) (gI.1,gI.2.1,gI.2.2.1,gI.2.2.2.1,gI.2.2.2.2.1,gI.2.2.2.2.2.1,(i64.wrap ((i64.wrap ((i64.wrap ((i64.wrap ((i64.wrap ((i64.wrap (n4+1))+1))+1))+1))+1))+1)),gI.2.2.2.2.2.2.2)).length)) (
 Q1 ((((((((l6.set (n5.toNat) (n4,x7.2)).set (n5.toNat) (x8.1,(i64.wrap (n4+1)),x8.2.2)).set (n5.toNat) (x9.1,x9.2.1,(i64.wrap ((i64.wrap (n4+1))+1)),x9.2.2.2)).set (n5.toNat) (aR.1,aR.2.1,aR.2.2.1,(i64.wrap ((i64.wrap ((i64.wrap (n4+1))+1))+1)),aR.2.2.2.2)).set (n5.toNat) (bQ.1,bQ.2.1,bQ.2.2.1,bQ.2.2.2.1,(i64.wrap ((i64.wrap ((i64.wrap ((i64.wrap (n4+1))+1))+1))+1)),bQ.2.2.2.2.2)).set (n5.toNat) (dF.1,dF.2.1,dF.2.2.1,dF.2.2.2.1,dF.2.2.2.2.1,(i64.wrap ((i64.wrap ((i64.wrap ((i64.wrap ((i64.wrap (n4+1))+1))+1))+1))+1)),dF.2.2.2.2.2.2)).set (n5.toNat) (gI.1,gI.2.1,gI.2.2.1,gI.2.2.2.1,gI.2.2.2.2.1,gI.2.2.2.2.2.1,(i64.wrap ((i64.wrap ((i64.wrap ((i64.wrap ((i64.wrap ((i64.wrap (n4+1))+1))+1))+1))+1))+1)),gI.2.2.2.2.2.2.2))[n5.toNat]?) fun mS =>
 bM ((i64.wrap ((i64.wrap ((i64.wrap ((i64.wrap ((i64.wrap ((i64.wrap ((i64.wrap ((i64.wrap (n4+1))+1))+1))+1))+1))+1))+1))+1)),(i64.wrap (n5+1)),((((((((l6.set (n5.toNat) (n4,x7.2)).set (n5.toNat) (x8.1,(i64.wrap (n4+1)),x8.2.2)).set (n5.toNat) (x9.1,x9.2.1,(i64.wrap ((i64.wrap (n4+1))+1)),x9.2.2.2)).set (n5.toNat) (aR.1,aR.2.1,aR.2.2.1,(i64.wrap ((i64.wrap ((i64.wrap (n4+1))+1))+1)),aR.2.2.2.2)).set (n5.toNat) (bQ.1,bQ.2.1,bQ.2.2.1,bQ.2.2.2.1,(i64.wrap ((i64.wrap ((i64.wrap ((i64.wrap (n4+1))+1))+1))+1)),bQ.2.2.2.2.2)).set (n5.toNat) (dF.1,dF.2.1,dF.2.2.1,dF.2.2.2.1,dF.2.2.2.2.1,(i64.wrap ((i64.wrap ((i64.wrap ((i64.wrap ((i64.wrap (n4+1))+1))+1))+1))+1)),dF.2.2.2.2.2.2)).set (n5.toNat) (gI.1,gI.2.1,gI.2.2.1,gI.2.2.2.1,gI.2.2.2.2.1,gI.2.2.2.2.2.1,(i64.wrap ((i64.wrap ((i64.wrap ((i64.wrap ((i64.wrap ((i64.wrap (n4+1))+1))+1))+1))+1))+1)),gI.2.2.2.2.2.2.2)).set (n5.toNat) (mS.1,mS.2.1,mS.2.2.1,mS.2.2.2.1,mS.2.2.2.2.1,mS.2.2.2.2.2.1,mS.2.2.2.2.2.2.1,(i64.wrap ((i64.wrap ((i64.wrap ((i64.wrap ((i64.wrap ((i64.wrap ((i64.wrap (n4+1))+1))+1))+1))+1))+1))+1)))))) none) none) none) none) none) none) none) none) none) none) none) none) none) none) none) none) (
 zB n4 l6)) s.1 s.2.1 s.2.2
theorem e81 (d:Nat) (l1:List t1) (n2:Int):OG (d+1) l1 n2 =
 Q9 (rY d (zA d)) Qd (n2,0,l1):=by kernel_rfl
noncomputable def zD (d:Nat) (n4:Int) (l5:List t5):Option (Int×(List t5)) :=
 some (n4,l5)
noncomputable def rZ (d:Nat) (zE:Int->(List t5)->Option (Int×(List t5))) (bM:(Int×Int×(List t5))->Option (Int×(List t5))) (s:(Int×Int×(List t5))):Option (Int×(List t5)) :=
(fun n4 n5 (l6:List t5) =>
 aa (decide (n5 < (l6.length:Int))) (
 aa (decide (0<=n5)) (
 aa (Nat.blt (n5.toNat) l6.length) (
 Q1 (l6[n5.toNat]?) fun x7 =>
 aa (decide (0<=n5)) (
 aa (Nat.blt (n5.toNat) ((l6.set (n5.toNat) (n4,x7.2)).length)) (
 Q1 ((l6.set (n5.toNat) (n4,x7.2))[n5.toNat]?) fun x8 =>
 aa (decide (0<=n5)) (
 aa (Nat.blt (n5.toNat) (((l6.set (n5.toNat) (n4,x7.2)).set (n5.toNat) (x8.1,(i64.wrap (n4+1)),x8.2.2)).length)) (
 Q1 (((l6.set (n5.toNat) (n4,x7.2)).set (n5.toNat) (x8.1,(i64.wrap (n4+1)),x8.2.2))[n5.toNat]?) fun x9 =>
 aa (decide (0<=n5)) (
 aa (Nat.blt (n5.toNat) ((((l6.set (n5.toNat) (n4,x7.2)).set (n5.toNat) (x8.1,(i64.wrap (n4+1)),x8.2.2)).set (n5.toNat) (x9.1,x9.2.1,(i64.wrap ((i64.wrap (n4+1))+1)),x9.2.2.2)).length)) (
 Q1 ((((l6.set (n5.toNat) (n4,x7.2)).set (n5.toNat) (x8.1,(i64.wrap (n4+1)),x8.2.2)).set (n5.toNat) (x9.1,x9.2.1,(i64.wrap ((i64.wrap (n4+1))+1)),x9.2.2.2))[n5.toNat]?) fun aR =>
 aa (decide (0<=n5)) (
 aa (Nat.blt (n5.toNat) (((((l6.set (n5.toNat) (n4,x7.2)).set (n5.toNat) (x8.1,(i64.wrap (n4+1)),x8.2.2)).set (n5.toNat) (x9.1,x9.2.1,(i64.wrap ((i64.wrap (n4+1))+1)),x9.2.2.2)).set (n5.toNat) (aR.1,aR.2.1,aR.2.2.1,(i64.wrap ((i64.wrap ((i64.wrap (n4+1))+1))+1)),aR.2.2.2.2)).length)) (
 Q1 (((((l6.set (n5.toNat) (n4,x7.2)).set (n5.toNat) (x8.1,(i64.wrap (n4+1)),x8.2.2)).set (n5.toNat) (x9.1,x9.2.1,(i64.wrap ((i64.wrap (n4+1))+1)),x9.2.2.2)).set (n5.toNat) (aR.1,aR.2.1,aR.2.2.1,(i64.wrap ((i64.wrap ((i64.wrap (n4+1))+1))+1)),aR.2.2.2.2))[n5.toNat]?) fun bQ =>
 bM ((i64.wrap ((i64.wrap ((i64.wrap ((i64.wrap ((i64.wrap (n4+1))+1))+1))+1))+1)),(i64.wrap (n5+1)),(((((l6.set (n5.toNat) (n4,x7.2)).set (n5.toNat) (x8.1,(i64.wrap (n4+1)),x8.2.2)).set (n5.toNat) (x9.1,x9.2.1,(i64.wrap ((i64.wrap (n4+1))+1)),x9.2.2.2)).set (n5.toNat) (aR.1,aR.2.1,aR.2.2.1,(i64.wrap ((i64.wrap ((i64.wrap (n4+1))+1))+1)),aR.2.2.2.2)).set (n5.toNat) (bQ.1,bQ.2.1,bQ.2.2.1,bQ.2.2.2.1,(i64.wrap ((i64.wrap ((i64.wrap ((i64.wrap (n4+1))+1))+1))+1)))))) none) none) none) none) none) none) none) none) none) none) (
 zE n4 l6)) s.1 s.2.1 s.2.2
theorem e82 (d:Nat) (l1:List t5) (n2:Int):OH (d+1) l1 n2 =
 Q9 (rZ d (zD d)) Qd (n2,0,l1):=by kernel_rfl
noncomputable def zF (d:Nat) (n4:Int) (l5:List t4):Option (Int×(List t4)) :=
 some (n4,l5)
noncomputable def r_ (d:Nat) (zG:Int->(List t4)->Option (Int×(List t4))) (bM:(Int×Int×(List t4))->Option (Int×(List t4))) (s:(Int×Int×(List t4))):Option (Int×(List t4)) :=
(fun n4 n5 (l6:List t4) =>
 aa (decide (n5 < (l6.length:Int))) (
 aa (decide (0<=n5)) (
 aa (Nat.blt (n5.toNat) l6.length) (
 Q1 (l6[n5.toNat]?) fun x7 =>
 aa (decide (0<=n5)) (
 aa (Nat.blt (n5.toNat) ((l6.set (n5.toNat) (n4,x7.2)).length)) (
 Q1 ((l6.set (n5.toNat) (n4,x7.2))[n5.toNat]?) fun x8 =>
 aa (decide (0<=n5)) (
 aa (Nat.blt (n5.toNat) (((l6.set (n5.toNat) (n4,x7.2)).set (n5.toNat) (x8.1,(i64.wrap (n4+1)),x8.2.2)).length)) (
 Q1 (((l6.set (n5.toNat) (n4,x7.2)).set (n5.toNat) (x8.1,(i64.wrap (n4+1)),x8.2.2))[n5.toNat]?) fun x9 =>
 aa (decide (0<=n5)) (
 aa (Nat.blt (n5.toNat) ((((l6.set (n5.toNat) (n4,x7.2)).set (n5.toNat) (x8.1,(i64.wrap (n4+1)),x8.2.2)).set (n5.toNat) (x9.1,x9.2.1,(i64.wrap ((i64.wrap (n4+1))+1)),x9.2.2.2)).length)) (
 Q1 ((((l6.set (n5.toNat) (n4,x7.2)).set (n5.toNat) (x8.1,(i64.wrap (n4+1)),x8.2.2)).set (n5.toNat) (x9.1,x9.2.1,(i64.wrap ((i64.wrap (n4+1))+1)),x9.2.2.2))[n5.toNat]?) fun aR =>
 aa (decide (0<=n5)) (
 aa (Nat.blt (n5.toNat) (((((l6.set (n5.toNat) (n4,x7.2)).set (n5.toNat) (x8.1,(i64.wrap (n4+1)),x8.2.2)).set (n5.toNat) (x9.1,x9.2.1,(i64.wrap ((i64.wrap (n4+1))+1)),x9.2.2.2)).set (n5.toNat) (aR.1,aR.2.1,aR.2.2.1,(i64.wrap ((i64.wrap ((i64.wrap (n4+1))+1))+1)),aR.2.2.2.2)).length)) (
 Q1 (((((l6.set (n5.toNat) (n4,x7.2)).set (n5.toNat) (x8.1,(i64.wrap (n4+1)),x8.2.2)).set (n5.toNat) (x9.1,x9.2.1,(i64.wrap ((i64.wrap (n4+1))+1)),x9.2.2.2)).set (n5.toNat) (aR.1,aR.2.1,aR.2.2.1,(i64.wrap ((i64.wrap ((i64.wrap (n4+1))+1))+1)),aR.2.2.2.2))[n5.toNat]?) fun bQ =>
 aa (decide (0<=n5)) (
 aa (Nat.blt (n5.toNat) ((((((l6.set (n5.toNat) (n4,x7.2)).set (n5.toNat) (x8.1,(i64.wrap (n4+1)),x8.2.2)).set (n5.toNat) (x9.1,x9.2.1,(i64.wrap ((i64.wrap (n4+1))+1)),x9.2.2.2)).set (n5.toNat) (aR.1,aR.2.1,aR.2.2.1,(i64.wrap ((i64.wrap ((i64.wrap (n4+1))+1))+1)),aR.2.2.2.2)).set (n5.toNat) (bQ.1,bQ.2.1,bQ.2.2.1,bQ.2.2.2.1,(i64.wrap ((i64.wrap ((i64.wrap ((i64.wrap (n4+1))+1))+1))+1)),bQ.2.2.2.2.2)).length)) (
 Q1 ((((((l6.set (n5.toNat) (n4,x7.2)).set (n5.toNat) (x8.1,(i64.wrap (n4+1)),x8.2.2)).set (n5.toNat) (x9.1,x9.2.1,(i64.wrap ((i64.wrap (n4+1))+1)),x9.2.2.2)).set (n5.toNat) (aR.1,aR.2.1,aR.2.2.1,(i64.wrap ((i64.wrap ((i64.wrap (n4+1))+1))+1)),aR.2.2.2.2)).set (n5.toNat) (bQ.1,bQ.2.1,bQ.2.2.1,bQ.2.2.2.1,(i64.wrap ((i64.wrap ((i64.wrap ((i64.wrap (n4+1))+1))+1))+1)),bQ.2.2.2.2.2))[n5.toNat]?) fun dF =>
 bM ((i64.wrap ((i64.wrap ((i64.wrap ((i64.wrap ((i64.wrap ((i64.wrap (n4+1))+1))+1))+1))+1))+1)),(i64.wrap (n5+1)),((((((l6.set (n5.toNat) (n4,x7.2)).set (n5.toNat) (x8.1,(i64.wrap (n4+1)),x8.2.2)).set (n5.toNat) (x9.1,x9.2.1,(i64.wrap ((i64.wrap (n4+1))+1)),x9.2.2.2)).set (n5.toNat) (aR.1,aR.2.1,aR.2.2.1,(i64.wrap ((i64.wrap ((i64.wrap (n4+1))+1))+1)),aR.2.2.2.2)).set (n5.toNat) (bQ.1,bQ.2.1,bQ.2.2.1,bQ.2.2.2.1,(i64.wrap ((i64.wrap ((i64.wrap ((i64.wrap (n4+1))+1))+1))+1)),bQ.2.2.2.2.2)).set (n5.toNat) (dF.1,dF.2.1,dF.2.2.1,dF.2.2.2.1,dF.2.2.2.2.1,(i64.wrap ((i64.wrap ((i64.wrap ((i64.wrap ((i64.wrap (n4+1))+1))+1))+1))+1)))))) none) none) none) none) none) none) none) none) none) none) none) none) (
 zG n4 l6)) s.1 s.2.1 s.2.2
theorem e83 (d:Nat) (l1:List t4) (n2:Int):Lh (d+1) l1 n2 =
 Q9 (r_ d (zF d)) Qd (n2,0,l1):=by kernel_rfl
noncomputable def BP (d:Nat) (r8:t14) (zH:t13) (tD vP yN ur:t11) (yO:(Int×(List t5))) (uq Cd lD:t11) (lZ:List (List t4)) (xP:t11) (b42:Bool):Option Bool :=
 aa b42 (
 some false) (
 Q1 (g14 (d+2) ((r8.1.1.1,zH.2,tD.2,vP.2,yN.2,ur.2,yO.2,uq.2,r8.1.1.2.2.2.2.2.2.2.2),(Cd.2,lD.2),lZ,r8.1.2.2.2) 1) fun OI =>
 aa (decide (OI < 0)) (
 some false) (
 Q1 (g15 (d+2) xP.2 OI) fun ZG =>
 aa (decide (ZG < 0)) (
 some false) (
 aa (ZG != xP.1) (
 some false) (
 some true))))
noncomputable def jd (d:Nat) (x1:t2) (n2 n3:Int) (r6 r8:t14) (zH:t13) (tD vP yN ur:t11) (yO:(Int×(List t5))) (uq Cd lD:t11) (OJ:Int) (lZ:List (List t4)):Option Bool :=
 Q1 (g13 (d+2) r8.2.1 OJ) fun xP =>
 Q1 (g14 (d+2) ((r8.1.1.1,zH.2,tD.2,vP.2,yN.2,ur.2,yO.2,uq.2,r8.1.1.2.2.2.2.2.2.2.2),(Cd.2,lD.2),lZ,r8.1.2.2.2) 1) fun ZH =>
 aa (decide (ZH < 0)) (
 some false) (
 Q1 (g15 (d+2) xP.2 ZH) fun ZI =>
 aa (decide (ZI < 0)) (
 some false) (
 aa (ZI != xP.1) (
 some false) (
 Q1 (g8 (d+2) x1) fun OK =>
 Q1 (g9 (d+2) OK n2 n3) fun Ut =>
 Q1 (g10 (d+2) Ut.1 r6.1) fun r42 =>
 aa (!r42) (
 BP d r8 zH tD vP yN ur yO uq Cd lD lZ xP true) (
 Q1 (g11 (d+2) Ut.2.1 r6.2.1) fun OI =>
 aa (!OI) (
 BP d r8 zH tD vP yN ur yO uq Cd lD lZ xP true) (
 BP d r8 zH tD vP yN ur yO uq Cd lD lZ xP (!(Ut.2.2==r6.2.2)))))))
noncomputable def qF (d:Nat) (eo:Int->(List (List t4))->Option Bool) (Uu:(Int×Int×(List (List t4)))->Option Bool) (s:(Int×Int×(List (List t4)))):Option Bool :=
(fun OJ iy (AV:List (List t4)) =>
 aa (decide (iy < (AV.length:Int))) (
 aa (decide (0<=iy)) (
 aa (Nat.blt (iy.toNat) AV.length) (
 Q1 (AV[iy.toNat]?) fun pM =>
 Q1 (AV[iy.toNat]?) fun Zu =>
 aa (Nat.beq Zu.length pM.length) (
 Q1 (Lh d pM OJ) fun OK =>
 Uu (OK.1,(i64.wrap (iy+1)),(AV.set (iy.toNat) OK.2))) none) none) none) (
 eo OJ AV)) s.1 s.2.1 s.2.2
noncomputable def wZ (d:Nat) (x1:t2) (n2 n3:Int) (r6 r8:t14) (b24:Bool):Option Bool :=
 aa b24 (
 some false) (
 Q1 (OG d r8.1.1.2.1 1) fun zH =>
 Q1 (g13 d r8.1.1.2.2.1 zH.1) fun tD =>
 Q1 (g13 d r8.1.1.2.2.2.1 tD.1) fun vP =>
 Q1 (g13 d r8.1.1.2.2.2.2.1 vP.1) fun yN =>
 Q1 (g13 d r8.1.1.2.2.2.2.2.1 yN.1) fun ur =>
 Q1 (OH d r8.1.1.2.2.2.2.2.2.1 ur.1) fun yO =>
 Q1 (g13 d r8.1.1.2.2.2.2.2.2.2.1 yO.1) fun uq =>
 Q1 (g13 d r8.1.2.1.1 uq.1) fun Cd =>
 Q1 (g13 d r8.1.2.1.2 Cd.1) fun lD =>
 Q9 (qF d (jd d x1 n2 n3 r6 r8 zH tD vP yN ur yO uq Cd lD)) Qd (lD.1,0,r8.1.2.2.1))
noncomputable def jc (d:Nat) (x1:t2) (n2 n3:Int) (r6 r8:t14) (IS:Int) (IQ:List (List t4)):Option Bool :=
 aa (decide (IS < 0)) (
 wZ d x1 n2 n3 r6 r8 true) (
 Q1 (g10 (d+2) r8.1 r6.1) fun Ky =>
 aa (!Ky) (
 wZ d x1 n2 n3 r6 r8 true) (
 Q1 (g11 (d+2) r8.2.1 r6.2.1) fun zH =>
 aa (!zH) (
 wZ d x1 n2 n3 r6 r8 true) (
 wZ d x1 n2 n3 r6 r8 (!(r8.2.2==r6.2.2)))))
noncomputable def nL (d:Nat) (eo:Int->(List (List t4))->Option Bool) (Uv:(Int×Int×(List (List t4)))->Option Bool) (s:(Int×Int×(List (List t4)))):Option Bool :=
(fun IS GF (mR:List (List t4)) =>
 aa (decide (GF < (mR.length:Int))) (
 aa (decide (0<=GF)) (
 aa (Nat.blt (GF.toNat) mR.length) (
 Q1 (mR[GF.toNat]?) fun BS =>
 Q1 (mR[GF.toNat]?) fun AX =>
 aa (Nat.beq AX.length BS.length) (
 Q1 (Lh d BS IS) fun vP =>
 Uv (vP.1,(i64.wrap (GF+1)),(mR.set (GF.toNat) vP.2))) none) none) none) (
 eo IS mR)) s.1 s.2.1 s.2.2
noncomputable def BN (d:Nat) (x1:t2) (n2 n3:Int) (r6:t14) (r7:t2) (r8:t14) (b9:Bool):Option Bool :=
 aa b9 (
 some false) (
 Q1 (g8 (d+2) x1) fun o_ =>
 Q1 (g10 (d+2) r7 o_) fun gX =>
 aa (!gX) (
 some false) (
 Q1 (OG d r7.1.2.1 1) fun mQ =>
 Q1 (g13 d r7.1.2.2.1 mQ.1) fun tN =>
 Q1 (g13 d r7.1.2.2.2.1 tN.1) fun jJ =>
 Q1 (g13 d r7.1.2.2.2.2.1 jJ.1) fun vM =>
 Q1 (g13 d r7.1.2.2.2.2.2.1 vM.1) fun o6 =>
 Q1 (OH d r7.1.2.2.2.2.2.2.1 o6.1) fun FB =>
 Q1 (g13 d r7.1.2.2.2.2.2.2.2.1 FB.1) fun BV =>
 Q1 (g13 d r7.2.1.1 BV.1) fun vN =>
 Q1 (g13 d r7.2.1.2 vN.1) fun BT =>
 Q9 (nL d (jc d x1 n2 n3 r6 r8)) Qd (BT.1,0,r7.2.2.1)))
theorem e3 (d:Nat) (x1:t2) (n2 n3:Int):g3 (d+3) x1 n2 n3 =
 Q1 (g6 (d+2) x1 1048576) fun r4 =>
 aa (decide (r4 < 0)) (
 some true) (
 Q1 (g8 (d+2) x1) fun r5 =>
 Q1 (g7 (d+2) r5 n2 n3) fun r6 =>
 Q1 (g8 (d+2) x1) fun r7 =>
 Q1 (g9 (d+2) r7 n2 n3) fun r8 =>
 Q1 (g10 (d+2) r8.1 r6.1) fun r9 =>
 aa (!r9) (
 BN d x1 n2 n3 r6 r7 r8 true) (
 Q1 (g11 (d+2) r8.2.1 r6.2.1) fun o_ =>
 aa (!o_) (
 BN d x1 n2 n3 r6 r7 r8 true) (
 BN d x1 n2 n3 r6 r7 r8 (!(r8.2.2==r6.2.2))))):=by kernel_rfl
end Go.Proofs.YtcoimfbmgjhcjabGreatDoor
