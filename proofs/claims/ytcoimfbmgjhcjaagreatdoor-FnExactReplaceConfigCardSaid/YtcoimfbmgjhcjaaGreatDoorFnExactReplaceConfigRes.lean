/-
  The residual forms of the program's functions under the interpreter by value, printed by program (wip/pv/gen2.py); each equation is checked by the kernel.
  Conditions: none.
-/
import Derived.Test.YtcoimfbmgjhcjaaGreatDoorFnExactReplaceConfigResA
import Derived.KernelRfl
set_option linter.all false
set_option maxRecDepth 1000000
namespace Go.Proofs.YtcoimfbmgjhcjaaGreatDoor
open Go.Ev Go.Pv
open IntKind (i64 u64)
theorem e25 (d:Nat) (l1:List t5) (n2:Int):N_ (d+1) l1 n2 =
 aa (decide (((i64.wrap (n2 - (l1.length:Int))):Int) < 0)) (
 some (-1)) (
 some (i64.wrap (n2 - (l1.length:Int)))):=by kernel_rfl
theorem e34 (d:Nat) (l1:List t1) (n2:Int):Oa (d+1) l1 n2 =
 aa (decide (((i64.wrap (n2 - (l1.length:Int))):Int) < 0)) (
 some (-1)) (
 some (i64.wrap (n2 - (l1.length:Int)))):=by kernel_rfl
theorem e68 (d:Nat) (l1:List Int) (n2:Int):BH (d+1) l1 n2 =
 aa (decide (((i64.wrap (n2 - (l1.length:Int))):Int) < 0)) (
 some (-1)) (
 some (i64.wrap (n2 - (l1.length:Int)))):=by kernel_rfl
theorem e31 (d:Nat) (x1:t0) (n2:Int):Sb (d+1) x1 n2 =
 aa (decide (((i64.wrap (n2 - (x1.1.size:Int))):Int) < 0)) (
 some (-1)) (
 Q1 (Oa d x1.2.1 (i64.wrap (n2 - (x1.1.size:Int)))) fun r3 =>
 aa (decide (r3 < 0)) (
 some (-1)) (
 Q1 (BH d x1.2.2.1 r3) fun r4 =>
 aa (decide (r4 < 0)) (
 some (-1)) (
 Q1 (BH d x1.2.2.2.1 r4) fun r5 =>
 aa (decide (r5 < 0)) (
 some (-1)) (
 Q1 (BH d x1.2.2.2.2.1 r5) fun r6 =>
 aa (decide (r6 < 0)) (
 some (-1)) (
 Q1 (BH d x1.2.2.2.2.2.1 r6) fun r7 =>
 aa (decide (r7 < 0)) (
 some (-1)) (
 Q1 (N_ d x1.2.2.2.2.2.2.1 r7) fun r8 =>
 aa (decide (r8 < 0)) (
 some (-1)) (
 Q1 (BH d x1.2.2.2.2.2.2.2.1 r8) fun r9 =>
 aa (decide (r9 < 0)) (
 some (-1)) (
 some r9)))))))):=by kernel_rfl
theorem e32 (d:Nat) (x1:t7) (n2:Int):Sc (d+1) x1 n2 =
 Q1 (BH d x1.1 n2) fun r3 =>
 aa (decide (r3 < 0)) (
 some (-1)) (
 Q1 (BH d x1.2 r3) fun r4 =>
 aa (decide (r4 < 0)) (
 some (-1)) (
 some r4)):=by kernel_rfl
theorem e69 (d:Nat) (l1:List t4) (n2:Int):Y4 (d+1) l1 n2 =
 aa (decide (((i64.wrap (n2 - (l1.length:Int))):Int) < 0)) (
 some (-1)) (
 some (i64.wrap (n2 - (l1.length:Int)))):=by kernel_rfl
noncomputable def Kp (d:Nat) (n4 n5:Int):Option Int :=
 some n4
noncomputable def wO (d:Nat) (l1:List (List t4)) (wP:Int->Int->Option Int) (bM:(Int×Int×Int)->Option Int) (s:(Int×Int×Int)):Option Int :=
(fun n4 n5 n6 =>
 aa (decide (n6 < (l1.length:Int))) (
 aa (decide (0<=n6)) (
 Q1 (l1[n6.toNat]?) fun l7 =>
 Q1 (Y4 d l7 n4) fun r8 =>
 aa (decide (r8 < 0)) (
 some (-1)) (
 bM (r8,n5,(i64.wrap (n6+1))))) none) (
 wP n4 n5)) s.1 s.2.1 s.2.2
theorem e33 (d:Nat) (l1:List (List t4)) (n2:Int):Sd (d+1) l1 n2 =
 aa (decide (((i64.wrap (n2 - (l1.length:Int))):Int) < 0)) (
 some (-1)) (
 Q8 (wO d l1 (Kp d)) Qd ((i64.wrap (n2 - (l1.length:Int))),0,0)):=by kernel_rfl
theorem e7 (d:Nat) (x1:t2) (n2:Int):g7 (d+1) x1 n2 =
 Q1 (Sb d x1.1 n2) fun r3 =>
 aa (decide (r3 < 0)) (
 some (-1)) (
 Q1 (Sc d x1.2.1 r3) fun r4 =>
 aa (decide (r4 < 0)) (
 some (-1)) (
 Q1 (Sd d x1.2.2.1 r4) fun r5 =>
 aa (decide (r5 < 0)) (
 some (-1)) (
 some r5))):=by kernel_rfl
theorem e8 (d:Nat) (x1:t3) (n2:Int):g8 (d+1) x1 n2 =
 aa (decide (((i64.wrap (n2 - (x1.1.size:Int))):Int) < 0)) (
 some (-1)) (
 Q1 (Oa d x1.2.1 (i64.wrap (n2 - (x1.1.size:Int)))) fun r3 =>
 aa (decide (r3 < 0)) (
 some (-1)) (
 Q1 (N_ d x1.2.2.1 r3) fun r4 =>
 aa (decide (r4 < 0)) (
 some (-1)) (
 some r4))):=by kernel_rfl
theorem e72 (d:Nat) (n1 n2 n3:Int):i_ (d+1) n1 n2 n3 =
 aa (decide (n1>=n2)) (
 some (decide (n1<=n3))) (
 some false):=by kernel_rfl
noncomputable def Fh (d:Nat) (b4:Bool):Option Bool :=
 some false
noncomputable def oS (d:Nat) (l1:List ByteArray) (s2:ByteArray) (sV:Bool->Option Bool) (bM:t9->Option Bool) (s:t9):Option Bool :=
(fun (b4:Bool) n5 =>
 aa (decide (n5 < (l1.length:Int))) (
 aa (decide (0<=n5)) (
 Q1 (l1[n5.toNat]?) fun s6 =>
 aa (s6.toList==s2.toList) (
 some true) (
 bM (b4,(i64.wrap (n5+1))))) none) (
 sV b4)) s.1 s.2
theorem Se (d:Nat) (l1:List ByteArray) (s2:ByteArray):Kq (d+1) l1 s2 =
 Q8 (oS d l1 s2 (Fh d)) Qd (false,0):=by kernel_rfl
theorem Sf (d:Nat):Kr (d+1) =
 some [(⟨#[113,100,105,115,99]⟩:ByteArray),(⟨#[100,101,102,97,117,108,116]⟩:ByteArray),(⟨#[99,108,97,115,115]⟩:ByteArray),(⟨#[114,97,116,101]⟩:ByteArray),(⟨#[99,101,105,108]⟩:ByteArray),(⟨#[98,117,114,115,116]⟩:ByteArray),(⟨#[99,98,117,114,115,116]⟩:ByteArray),(⟨#[112,114,105,111]⟩:ByteArray),(⟨#[108,105,109,105,116]⟩:ByteArray),(⟨#[102,105,108,116,101,114]⟩:ByteArray),(⟨#[115,111,117,114,99,101]⟩:ByteArray),(⟨#[100,101,115,116]⟩:ByteArray),(⟨#[112,111,114,116]⟩:ByteArray),(⟨#[109,97,114,107]⟩:ByteArray)]:=by kernel_rfl
theorem Sg (d:Nat) (s1:ByteArray):Fi (d+1) s1 =
 Q1 (Kr d) fun r2 =>
 Q1 (Kq d r2 s1) fun r3 =>
 some r3:=by kernel_rfl
noncomputable def wQ (d:Nat) (s1:ByteArray) (b3:Bool):Option Bool :=
 Q1 (i_ d (s1.size:Int) 1 8) fun r4 =>
 aa r4 (
 Q1 (Fi d s1) fun r5 =>
 some (!r5)) (
 some false)
noncomputable def wR (d:Nat) (s1:ByteArray) (wS:Bool->Option Bool) (bV:t9->Option Bool) (s:t9):Option Bool :=
(fun (b3:Bool) n4 =>
 aa (decide (n4 < (s1.size:Int))) (
 aa (decide (0<=n4)) (
 Q1 (s1.data.toList[n4.toNat]?) fun c5 =>
 aa (decide ((c5.toNat:Int) < 97)) (
 some false) (
 aa (decide (0<=n4)) (
 Q1 (s1.data.toList[n4.toNat]?) fun c6 =>
 aa (decide ((c6.toNat:Int) > 122)) (
 some false) (
 bV (b3,(i64.wrap (n4+1))))) none)) none) (
 wS b3)) s.1 s.2
theorem e76 (d:Nat) (s1:ByteArray):Sh (d+1) s1 =
 Q8 (wR d s1 (wQ d s1)) Qd (false,0):=by kernel_rfl
theorem Si (d:Nat) (x1:t1):Fj (d+1) x1 =
 Q1 (i_ d x1.1 1 999) fun r2 =>
 aa r2 (
 Q1 (i_ d x1.2.2.1 1 100000) fun r3 =>
 aa r3 (
 Q1 (i_ d x1.2.2.2.1 x1.2.2.1 100000) fun r4 =>
 aa r4 (
 Q1 (i_ d x1.2.2.2.2.1 1500 1000000) fun r5 =>
 aa r5 (
 Q1 (i_ d x1.2.2.2.2.2.1 1500 1000000) fun r6 =>
 aa r6 (
 Q1 (i_ d x1.2.2.2.2.2.2.1 0 7) fun r7 =>
 some r7) (
 some false)) (
 some false)) (
 some false)) (
 some false)) (
 some false):=by kernel_rfl
noncomputable def Ks (d:Nat) (n4:Int):Option Int :=
 some (-1)
noncomputable def wT (d:Nat) (x1:t3) (n2:Int) (wU:Int->Option Int) (bM:t10->Option Int) (s:t10):Option Int :=
(fun n4 n5 =>
 aa (decide (n5 < (x1.2.1.length:Int))) (
 aa (decide (0<=n5)) (
 Q1 (x1.2.1[n5.toNat]?) fun x6 =>
 aa (x6.1==n2) (
 some n5) (
 bM (n4,(i64.wrap (n5+1))))) none) (
 wU n4)) s.1 s.2
theorem e58 (d:Nat) (x1:t3) (n2:Int):Fk (d+1) x1 n2 =
 Q8 (wT d x1 n2 (Ks d)) Qd (0,0):=by kernel_rfl
noncomputable def kP (d:Nat) (l4:List Int):Option (List Int) :=
 some l4
noncomputable def kQ (d:Nat) (fu:(List Int)->Option (List Int)) (x1:t3) (bM:t11->Option (List Int)) (n4:Int) (l5:List Int) (b6 b7:Bool):Option (List Int) :=
 aa b7 (
 aa (Nat.ble ((l5.length+[n4].length)*8) Q7) (
 aa (decide (0<=n4)) (
 Q1 (x1.2.1[n4.toNat]?) fun x8 =>
 Q1 (Fk d x1 x8.2.1) fun r9 =>
 bM (r9,(l5++[n4]))) none) none) (
 fu l5)
noncomputable def kR (d:Nat) (x1:t3) (fu:(List Int)->Option (List Int)) (bM:t11->Option (List Int)) (s:t11):Option (List Int) :=
(fun n4 (l5:List Int) =>
 aa (decide (n4>=0)) (
 kQ d fu x1 bM n4 l5 true (decide ((l5.length:Int)<=8))) (
 kQ d fu x1 bM n4 l5 false false)) s.1 s.2
theorem Sj (d:Nat) (x1:t3) (n2:Int):Fl (d+1) x1 n2 =
 Q8 (kR d x1 (kP d)) Qd (n2,[]):=by kernel_rfl
noncomputable def Fm (d:Nat) (l4:List Int):Option (List Int) :=
 some l4
noncomputable def oT (d:Nat) (x1:t3) (n2:Int) (sW:(List Int)->Option (List Int)) (bM:t15->Option (List Int)) (s:t15):Option (List Int) :=
(fun (l4:List Int) n5 =>
 aa (decide (n5 < (x1.2.1.length:Int))) (
 aa (decide (0<=n5)) (
 Q1 (x1.2.1[n5.toNat]?) fun x6 =>
 aa (decide (0<=n2)) (
 Q1 (x1.2.1[n2.toNat]?) fun x7 =>
 aa (x6.2.1==x7.1) (
 aa (Nat.ble ((l4.length+[n5].length)*8) Q7) (
 bM ((l4++[n5]),(i64.wrap (n5+1)))) none) (
 bM (l4,(i64.wrap (n5+1))))) none) none) (
 sW l4)) s.1 s.2
theorem Sk (d:Nat) (x1:t3) (n2:Int):kS (d+1) x1 n2 =
 Q8 (oT d x1 n2 (Fm d)) Qd ([],0):=by kernel_rfl
noncomputable def Fo (d:Nat) (n6:Int):Option Int :=
 some n6
noncomputable def oU (d:Nat) (x1:t3) (r4:List Int) (sY:Int->Option Int) (gS:t10->Option Int) (s:t10):Option Int :=
(fun n6 n7 =>
 aa (decide (n7 < (r4.length:Int))) (
 aa (decide (0<=n7)) (
 aa (Nat.blt (n7.toNat) r4.length) (
 Q1 (r4[n7.toNat]?) fun n8 =>
 aa (decide (0<=n8)) (
 Q1 (x1.2.1[n8.toNat]?) fun x9 =>
 gS ((i64.wrap (n6 - x9.2.2.1)),(i64.wrap (n7+1)))) none) none) none) (
 sY n6)) s.1 s.2
theorem Sl (d:Nat) (x1:t3) (n2:Int):Fp (d+1) x1 n2 =
 aa (decide (0<=n2)) (
 Q1 (x1.2.1[n2.toNat]?) fun x3 =>
 Q1 (kS d x1 n2) fun r4 =>
 Q8 (oU d x1 r4 (Fo d)) Qd (x3.2.2.1,0)) none:=by kernel_rfl
theorem Sm (d:Nat) (x1:t3) (n2:Int):sZ (d+1) x1 n2 =
 Q1 (kS d x1 n2) fun r3 =>
 some ((r3.length:Int)==0):=by kernel_rfl
noncomputable def Kt (d:Nat) (b6:Bool):Option Bool :=
 some true
noncomputable def j4 (d:Nat) (gS:t9->Option Bool) (b6:Bool) (n7:Int) (b14 Y5 Y6 b17 Y7:Bool):Option Bool :=
 aa Y7 (
 some false) (
 gS (b6,(i64.wrap (n7+1))))
noncomputable def j5 (d:Nat) (x1:t3) (gS:t9->Option Bool) (b6:Bool) (n7:Int) (x8:t1) (Ku AM Ob vw:Bool):Option Bool :=
 aa vw (
 some false) (
 Q1 (sZ d x1 n7) fun jA =>
 aa jA (
 Q1 (i_ d x8.2.2.2.2.2.2.2 1 60) fun vz =>
 aa (!vz) (
 j4 d gS b6 n7 jA true (!vz) true true) (
 Q1 (sZ d x1 n7) fun oV =>
 aa (!oV) (
 j4 d gS b6 n7 jA true (!vz) false (x8.2.2.2.2.2.2.2 != 0)) (
 j4 d gS b6 n7 jA true (!vz) false false))) (
 Q1 (sZ d x1 n7) fun Fq =>
 aa (!Fq) (
 j4 d gS b6 n7 jA false false false (x8.2.2.2.2.2.2.2 != 0)) (
 j4 d gS b6 n7 jA false false false false)))
noncomputable def wV (d:Nat) (x1:t3) (wW:Bool->Option Bool) (gS:t9->Option Bool) (s:t9):Option Bool :=
(fun (b6:Bool) n7 =>
 aa (decide (n7 < (x1.2.1.length:Int))) (
 aa (decide (0<=n7)) (
 Q1 (x1.2.1[n7.toNat]?) fun x8 =>
 Q1 (Fl d x1 n7) fun r9 =>
 aa (decide ((r9.length:Int) > 8)) (
 j5 d x1 gS b6 n7 x8 true true true true) (
 aa (decide (0<=((i64.wrap ((r9.length:Int) - 1)):Int))) (
 aa (Nat.blt (((i64.wrap ((r9.length:Int) - 1)):Int).toNat) r9.length) (
 Q1 (r9[((i64.wrap ((r9.length:Int) - 1)):Int).toNat]?) fun dV =>
 aa (decide (0<=dV)) (
 Q1 (x1.2.1[dV.toNat]?) fun bP =>
 aa (bP.2.1 != 0) (
 j5 d x1 gS b6 n7 x8 false (bP.2.1 != 0) true true) (
 Q1 (Fp d x1 n7) fun j6 =>
 j5 d x1 gS b6 n7 x8 false (bP.2.1 != 0) false (decide (j6 < 0)))) none) none) none)) none) (
 wW b6)) s.1 s.2
noncomputable def wX (d:Nat) (x1:t3) (b3:Bool) (n4:Int):Option Bool :=
 aa (n4 != 1) (
 some false) (
 Q8 (wV d x1 (Kt d)) Qd (b3,0))
noncomputable def rE (d:Nat) (bV:(Bool×Int×Int)->Option Bool) (b3:Bool) (n4 n5:Int) (x6:t1) (b7 b8 b9 Ku:Bool):Option Bool :=
 aa Ku (
 some false) (
 aa (x6.2.1==0) (
 bV (b3,(i64.wrap (n4+1)),(i64.wrap (n5+1)))) (
 bV (b3,n4,(i64.wrap (n5+1)))))
noncomputable def wY (d:Nat) (x1:t3) (wZ:Bool->Int->Option Bool) (bV:(Bool×Int×Int)->Option Bool) (s:(Bool×Int×Int)):Option Bool :=
(fun (b3:Bool) n4 n5 =>
 aa (decide (n5 < (x1.2.1.length:Int))) (
 aa (decide (0<=n5)) (
 Q1 (x1.2.1[n5.toNat]?) fun x6 =>
 Q1 (Fj d x6) fun r7 =>
 aa (!r7) (
 rE d bV b3 n4 n5 x6 r7 (!r7) true true) (
 aa (decide (n5 > 0)) (
 aa (decide (0<=((i64.wrap (n5 - 1)):Int))) (
 Q1 (x1.2.1[((i64.wrap (n5 - 1)):Int).toNat]?) fun x8 =>
 rE d bV b3 n4 n5 x6 r7 (!r7) false (decide (x8.1>=x6.1))) none) (
 rE d bV b3 n4 n5 x6 r7 (!r7) false false))) none) (
 wZ b3 n4)) s.1 s.2.1 s.2.2
theorem e77 (d:Nat) (x1:t3):Sn (d+1) x1 =
 Q8 (wY d x1 (wX d x1)) Qd (false,0,0):=by kernel_rfl
theorem e79 (d:Nat) (x1:t3) (n2:Int):Kv (d+1) x1 n2 =
 Q1 (Fk d x1 n2) fun r3 =>
 aa (decide (r3>=0)) (
 Q1 (sZ d x1 r3) fun r4 =>
 some r4) (
 some false):=by kernel_rfl
theorem So (d:Nat) (x1:t5):Fs (d+1) x1 =
 Q1 (i_ d x1.1 1 99) fun r2 =>
 aa r2 (
 Q1 (i_ d x1.2.1 0 3) fun r3 =>
 aa r3 (
 Q1 (i_ d x1.2.2.1 0 65535) fun r4 =>
 aa r4 (
 Q1 (i_ d x1.2.2.2.1 0 65535) fun r5 =>
 aa r5 (
 some (((i64.wrap ((BitVec.ofInt i64.bits x1.2.2.2.1 &&& BitVec.ofInt i64.bits x1.2.2.1).toNat:Int)):Int)==x1.2.2.2.1)) (
 some false)) (
 some false)) (
 some false)) (
 some false):=by kernel_rfl
noncomputable def Du (d:Nat) (x1:t3) (b3:Bool):Option Bool :=
 some (decide ((x1.2.2.1.length:Int)<=16))
noncomputable def nj (d:Nat) (bV:t9->Option Bool) (b3:Bool) (n4:Int) (b6 b7 b8 b9 Ku AM:Bool):Option Bool :=
 aa AM (
 some false) (
 bV (b3,(i64.wrap (n4+1))))
noncomputable def w4 (d:Nat) (x1:t3) (w5:Bool->Option Bool) (bV:t9->Option Bool) (s:t9):Option Bool :=
(fun (b3:Bool) n4 =>
 aa (decide (n4 < (x1.2.2.1.length:Int))) (
 aa (decide (0<=n4)) (
 Q1 (x1.2.2.1[n4.toNat]?) fun x5 =>
 Q1 (Fs d x5) fun r6 =>
 aa (!r6) (
 nj d bV b3 n4 r6 (!r6) true true true true) (
 aa (decide (n4 > 0)) (
 aa (decide (0<=((i64.wrap (n4 - 1)):Int))) (
 Q1 (x1.2.2.1[((i64.wrap (n4 - 1)):Int).toNat]?) fun x7 =>
 aa (decide (x7.1>=x5.1)) (
 nj d bV b3 n4 r6 (!r6) false (decide (x7.1>=x5.1)) true true) (
 Q1 (Kv d x1 x5.2.2.2.2) fun r8 =>
 nj d bV b3 n4 r6 (!r6) false (decide (x7.1>=x5.1)) false (!r8))) none) (
 Q1 (Kv d x1 x5.2.2.2.2) fun r9 =>
 nj d bV b3 n4 r6 (!r6) false false false (!r9)))) none) (
 w5 b3)) s.1 s.2
theorem e78 (d:Nat) (x1:t3):Sp (d+1) x1 =
 Q8 (w4 d x1 (Du d x1)) Qd (false,0):=by kernel_rfl
theorem e36 (d:Nat) (x1:t3):Oc (d+1) x1 =
 Q1 (Sh d x1.1) fun r2 =>
 aa r2 (
 Q1 (i_ d (x1.2.1.length:Int) 1 24) fun r3 =>
 aa r3 (
 Q1 (Sn d x1) fun r4 =>
 aa r4 (
 Q1 (Sp d x1) fun r5 =>
 aa r5 (
 aa (x1.2.2.2==0) (
 some true) (
 Q1 (Kv d x1 x1.2.2.2) fun r6 =>
 some r6)) (
 some false)) (
 some false)) (
 some false)) (
 some false):=by kernel_rfl
noncomputable def kT (d:Nat) (l1:List t1) (x2:t1) (n4:Int):Option (List t1) :=
 aa (decide (0<=n4)) (
 aa (Nat.ble (n4.toNat) l1.length) (
 aa (Nat.ble ((([]:List t1).length+(l1.take (n4.toNat)).length)*64) Q7) (
 aa (Nat.ble (((([]:List t1)++(l1.take (n4.toNat))).length+[x2].length)*64) Q7) (
 aa (decide (0<=n4)) (
 aa (Nat.ble (n4.toNat) l1.length) (
 aa (Nat.ble ((((([]:List t1)++(l1.take (n4.toNat)))++[x2]).length+(l1.drop (n4.toNat)).length)*64) Q7) (
 some (((([]:List t1)++(l1.take (n4.toNat)))++[x2])++(l1.drop (n4.toNat)))) none) none) none) none) none) none) none
noncomputable def kU (d:Nat) (l1:List t1) (x2:t1) (j7 bM:Int->Option (List t1)) (s:Int):Option (List t1) :=
(fun n4 =>
 aa (decide (n4 < (l1.length:Int))) (
 aa (decide (0<=n4)) (
 Q1 (l1[n4.toNat]?) fun x5 =>
 aa (decide (x5.1 < x2.1)) (
 bM (i64.wrap (n4+1))) (
 j7 n4)) none) (
 j7 n4)) s
theorem Sq (d:Nat) (l1:List t1) (x2:t1):BI (d+1) l1 x2 =
 Q8 (kU d l1 x2 (kT d l1 x2)) Qd 0:=by kernel_rfl
noncomputable def w6 (d:Nat) (x1:t0) (s3:ByteArray) (n4:Int) (l5:List t1) (l6:List t5):Option t3 :=
 Q1 (i_ d x1.2.2.2.2.2.2.2.2 0 (i64.wrap ((x1.2.1.length:Int) - 1))) fun r7 =>
 aa r7 (
 aa (decide (0<=x1.2.2.2.2.2.2.2.2)) (
 Q1 (x1.2.1[x1.2.2.2.2.2.2.2.2.toNat]?) fun x8 =>
 some (s3,l5,l6,x8.1)) none) (
 some (s3,l5,l6,n4))
noncomputable def w7 (d:Nat) (x1:t0) (w8:ByteArray->Int->(List t1)->(List t5)->Option t3) (bV:(Int×t3)->Option t3) (s:(Int×t3)):Option t3 :=
(fun n3 (x4:t3) =>
 aa (decide (n3 < (x1.2.1.length:Int))) (
 aa (decide (0<=n3)) (
 Q1 (x1.2.1[n3.toNat]?) fun x5 =>
 Q1 (BI d x4.2.1 x5) fun r6 =>
 bV ((i64.wrap (n3+1)),(x4.1,r6,x4.2.2))) none) (
 w8 x4.1 x4.2.2.2 x4.2.1 x4.2.2.1)) s.1 s.2
theorem e57 (d:Nat) (x1:t0):Sr (d+1) x1 =
 aa (Nat.ble ((([]:List t5).length+x1.2.2.2.2.2.2.1.length)*40) Q7) (
 Q8 (w7 d x1 (w6 d x1)) Qd (0,(x1.1,[],(([]:List t5)++x1.2.2.2.2.2.2.1),0))) none:=by kernel_rfl
noncomputable def Ft (d:Nat) (l5:List Int):Option (List Int) :=
 some l5
noncomputable def oW (d:Nat) (x1:t3) (r3:List Int) (s_:(List Int)->Option (List Int)) (ja:t15->Option (List Int)) (s:t15):Option (List Int) :=
(fun (l5:List Int) n6 =>
 aa (decide (n6 < (r3.length:Int))) (
 aa (decide (0<=n6)) (
 aa (Nat.blt (n6.toNat) r3.length) (
 Q1 (r3[n6.toNat]?) fun n7 =>
 Q1 (oX d x1 n7) fun r8 =>
 aa (Nat.ble ((l5.length+r8.length)*8) Q7) (
 ja ((l5++r8),(i64.wrap (n6+1)))) none) none) none) (
 s_ l5)) s.1 s.2
theorem Ss (d:Nat) (x1:t3) (n2:Int):oX (d+1) x1 n2 =
 Q1 (kS d x1 n2) fun r3 =>
 Q8 (oW d x1 r3 (Ft d)) Qd ([n2],0):=by kernel_rfl
noncomputable def w9 (d:Nat) (n3:Int):Option Int :=
 some n3
noncomputable def kV (d:Nat) (x1:t3) (tc bV:Int->Option Int) (s:Int):Option Int :=
(fun n3 =>
 aa (decide (0<=n3)) (
 Q1 (x1.2.1[n3.toNat]?) fun x4 =>
 aa (x4.2.1 != 0) (
 bV (i64.wrap (n3+1))) (
 tc n3)) none) s
theorem Su (d:Nat) (x1:t3):Fu (d+1) x1 =
 Q8 (kV d x1 (w9 d)) Qd 0:=by kernel_rfl
noncomputable def oY (d:Nat) (x1:t3) (l5:List Int) (Y8:ByteArray) (eK:Int) (gT:List t1) (dW eP Fv Kw:List Int) (w_:List t5) (Iz:List Int):Option t0 :=
 aa (x1.2.2.2 != 0) (
 Q1 (Fk d x1 x1.2.2.2) fun Sv =>
 aa (decide (0<=Sv)) (
 aa (Nat.blt (Sv.toNat) l5.length) (
 Q1 (l5[Sv.toNat]?) fun dK =>
 some (Y8,gT,dW,eP,Fv,Kw,w_,Iz,dK)) none) none) (
 some (Y8,gT,dW,eP,Fv,Kw,w_,Iz,eK))
noncomputable def kW (d:Nat) (x1:t3) (l5:List Int) (td:ByteArray->Int->(List t1)->(List Int)->(List Int)->(List Int)->(List Int)->(List t5)->(List Int)->Option t0) (Fw:(Int×t0)->Option t0) (s:(Int×t0)):Option t0 :=
(fun eD (fR:t0) =>
 aa (decide (eD < (x1.2.2.1.length:Int))) (
 aa (decide (0<=eD)) (
 Q1 (x1.2.2.1[eD.toNat]?) fun nk =>
 Q1 (Fk d x1 nk.2.2.2.2) fun BJ =>
 aa (decide (0<=BJ)) (
 aa (Nat.blt (BJ.toNat) l5.length) (
 Q1 (l5[BJ.toNat]?) fun oZ =>
 aa (Nat.ble ((fR.2.2.2.2.2.2.2.1.length+[oZ].length)*8) Q7) (
 Fw ((i64.wrap (eD+1)),(fR.1,fR.2.1,fR.2.2.1,fR.2.2.2.1,fR.2.2.2.2.1,fR.2.2.2.2.2.1,fR.2.2.2.2.2.2.1,(fR.2.2.2.2.2.2.2.1++[oZ]),fR.2.2.2.2.2.2.2.2))) none) none) none) none) (
 td fR.1 fR.2.2.2.2.2.2.2.2 fR.2.1 fR.2.2.1 fR.2.2.2.1 fR.2.2.2.2.1 fR.2.2.2.2.2.1 fR.2.2.2.2.2.2.1 fR.2.2.2.2.2.2.2.1)) s.1 s.2
noncomputable def kX (d:Nat) (x1:t3) (l5:List Int) (s7:ByteArray) (n8:Int) (l9:List t1) (l10 kY Dv fS:List Int) (j8:List t5) (ig:List Int):Option t0 :=
 Q8 (kW d x1 l5 (oY d x1 l5)) Qd (0,(s7,l9,l10,kY,Dv,fS,j8,ig,n8))
noncomputable def kZ (d:Nat) (x1:t3) (gd:(Int×t0)->Option t0) (n7:Int) (x8:t0) (n9:Int) (aR:t1) (jM nq eD:Int) (Y7:Bool):Option t0 :=
 aa (Nat.ble ((x8.2.2.1.length+[jM].length)*8) Q7) (
 aa (Nat.ble ((x8.2.2.2.1.length+[eD].length)*8) Q7) (
 aa (Nat.ble ((x8.2.2.2.2.1.length+[nq].length)*8) Q7) (
 Q1 (oX d x1 n9) fun vA =>
 aa (Nat.ble ((x8.2.2.2.2.2.1.length+[(i64.wrap (n7+(vA.length:Int)))].length)*8) Q7) (
 gd ((i64.wrap (n7+1)),(x8.1,(x8.2.1++[aR]),(x8.2.2.1++[jM]),(x8.2.2.2.1++[eD]),(x8.2.2.2.2.1++[nq]),(x8.2.2.2.2.2.1++[(i64.wrap (n7+(vA.length:Int)))]),x8.2.2.2.2.2.2))) none) none) none) none
noncomputable def k_ (d:Nat) (x1:t3) (l5:List Int) (gd:(Int×t0)->Option t0) (n7:Int) (x8:t0) (n9:Int) (aR:t1) (jM nq:Int) (Y5:Bool):Option t0 :=
 Q1 (kS d x1 n9) fun oV =>
 aa (decide ((oV.length:Int) > 0)) (
 aa (Nat.blt 0 oV.length) (
 Q1 (oV[0]?) fun eD =>
 aa (decide (0<=eD)) (
 aa (Nat.blt (eD.toNat) l5.length) (
 Q1 (l5[eD.toNat]?) fun eK =>
 kZ d x1 gd n7 x8 n9 aR jM nq eK true) none) none) none) (
 kZ d x1 gd n7 x8 n9 aR jM nq (-1) false)
noncomputable def xd (d:Nat) (x1:t3) (l5:List Int) (gd:(Int×t0)->Option t0) (n7:Int) (x8:t0) (n9:Int) (aR:t1) (jM dL eD:Int):Option t0 :=
 k_ d x1 l5 gd n7 x8 n9 aR jM dL true
noncomputable def o5 (d:Nat) (l5 jA:List Int) (nr:t10->Option t0) (dL eD:Int) (b19 Kx:Bool):Option t0 :=
 aa Kx (
 aa (decide (0<=((i64.wrap (eD+1)):Int))) (
 aa (Nat.blt (((i64.wrap (eD+1)):Int).toNat) jA.length) (
 Q1 (jA[((i64.wrap (eD+1)):Int).toNat]?) fun oZ =>
 aa (decide (0<=oZ)) (
 aa (Nat.blt (oZ.toNat) l5.length) (
 Q1 (l5[oZ.toNat]?) fun n22 =>
 nr (n22,(i64.wrap (eD+1)))) none) none) none) none) (
 nr (dL,(i64.wrap (eD+1))))
noncomputable def ld (d:Nat) (l5:List Int) (n9:Int) (jA:List Int) (th:Int->Int->Option t0) (nr:t10->Option t0) (s:t10):Option t0 :=
(fun dL eD =>
 aa (decide (eD < (jA.length:Int))) (
 aa (decide (0<=eD)) (
 aa (Nat.blt (eD.toNat) jA.length) (
 Q1 (jA[eD.toNat]?) fun eK =>
 aa (eK==n9) (
 o5 d l5 jA nr dL eD true (decide (((i64.wrap (eD+1)):Int) < (jA.length:Int)))) (
 o5 d l5 jA nr dL eD false false)) none) none) (
 th dL eD)) s.1 s.2
noncomputable def jb (d:Nat) (x1:t3) (r3 l5:List Int) (tj:ByteArray->Int->(List t1)->(List Int)->(List Int)->(List Int)->(List Int)->(List t5)->(List Int)->Option t0) (gd:(Int×t0)->Option t0) (s:(Int×t0)):Option t0 :=
(fun n7 (x8:t0) =>
 aa (decide (n7 < (r3.length:Int))) (
 aa (decide (0<=n7)) (
 aa (Nat.blt (n7.toNat) r3.length) (
 Q1 (r3[n7.toNat]?) fun n9 =>
 aa (decide (0<=n9)) (
 Q1 (x1.2.1[n9.toNat]?) fun aR =>
 aa (Nat.ble ((x8.2.1.length+[aR].length)*64) Q7) (
 aa (decide (0<=n9)) (
 Q1 (x1.2.1[n9.toNat]?) fun bP =>
 Q1 (Fk d x1 bP.2.1) fun j6 =>
 aa (decide (j6>=0)) (
 aa (decide (0<=j6)) (
 aa (Nat.blt (j6.toNat) l5.length) (
 Q1 (l5[j6.toNat]?) fun jM =>
 Q1 (kS d x1 j6) fun jA =>
 Q8 (ld d l5 n9 jA (xd d x1 l5 gd n7 x8 n9 aR jM)) Qd ((-1),0)) none) none) (
 k_ d x1 l5 gd n7 x8 n9 aR (-1) (-1) false)) none) none) none) none) none) (
 tj x8.1 x8.2.2.2.2.2.2.2.2 x8.2.1 x8.2.2.1 x8.2.2.2.1 x8.2.2.2.2.1 x8.2.2.2.2.2.1 x8.2.2.2.2.2.2.1 x8.2.2.2.2.2.2.2.1)) s.1 s.2
noncomputable def o6 (d:Nat) (x1:t3) (r3 l5:List Int):Option t0 :=
 aa (Nat.ble ((([]:List t5).length+x1.2.2.1.length)*40) Q7) (
 Q8 (jb d x1 r3 l5 (kX d x1 l5)) Qd (0,(x1.1,[],[],[],[],[],(([]:List t5)++x1.2.2.1),[],(-1)))) none
noncomputable def o7 (d:Nat) (r3:List Int) (tn:(List Int)->Option t0) (ja:t11->Option t0) (s:t11):Option t0 :=
(fun n5 (l6:List Int) =>
 aa (decide (n5 < (r3.length:Int))) (
 aa (decide (0<=n5)) (
 aa (Nat.blt (n5.toNat) r3.length) (
 Q1 (r3[n5.toNat]?) fun n7 =>
 aa (decide (0<=n7)) (
 aa (Nat.blt (n7.toNat) l6.length) (
 Q1 (l6[n7.toNat]?) fun n8 =>
 ja ((i64.wrap (n5+1)),(l6.set (n7.toNat) n5))) none) none) none) none) (
 tn l6)) s.1 s.2
theorem Sw (d:Nat) (x1:t3):BK (d+1) x1 =
 Q1 (Fu d x1) fun r2 =>
 Q1 (oX d x1 r2) fun r3 =>
 aa (decide (0<=(r3.length:Int))) (
 aa (decide (0<=(r3.length:Int))) (
 aa (Nat.ble ((r3.length:Int).toNat) ((r3.length:Int).toNat)&&Nat.ble (((r3.length:Int).toNat)*8) Q7) (
 Q8 (o7 d r3 (o6 d x1 r3)) Qd (0,(List.replicate ((r3.length:Int).toNat) (0:Int)))) none) none) none:=by kernel_rfl
noncomputable def Fx (d:Nat) (b4:Bool):Option Bool :=
 some true
noncomputable def o8 (d:Nat) (l1 l2:List Int) (tq:Bool->Option Bool) (bM:t9->Option Bool) (s:t9):Option Bool :=
(fun (b4:Bool) n5 =>
 aa (decide (n5 < (l1.length:Int))) (
 aa (decide (0<=n5)) (
 Q1 (l1[n5.toNat]?) fun n6 =>
 aa (decide (0<=n5)) (
 Q1 (l2[n5.toNat]?) fun n7 =>
 aa (n6 != n7) (
 some false) (
 bM (b4,(i64.wrap (n5+1))))) none) none) (
 tq b4)) s.1 s.2
theorem Sx (d:Nat) (l1 l2:List Int):o9 (d+1) l1 l2 =
 aa ((l1.length:Int) != (l2.length:Int)) (
 some false) (
 Q8 (o8 d l1 l2 (Fx d)) Qd (false,0)):=by kernel_rfl
noncomputable def o_ (d:Nat) (x1 x2:t0) (b7:Bool):Option Bool :=
 Q1 (o9 d x1.2.2.1 x2.2.2.1) fun r8 =>
 aa r8 (
 Q1 (o9 d x1.2.2.2.1 x2.2.2.2.1) fun r9 =>
 aa r9 (
 Q1 (o9 d x1.2.2.2.2.1 x2.2.2.2.2.1) fun de =>
 aa de (
 Q1 (o9 d x1.2.2.2.2.2.1 x2.2.2.2.2.2.1) fun gU =>
 aa gU (
 Q1 (o9 d x1.2.2.2.2.2.2.2.1 x2.2.2.2.2.2.2.2.1) fun j6 =>
 some j6) (
 some false)) (
 some false)) (
 some false)) (
 some false)
noncomputable def pe (d:Nat) (x1 x2:t0) (tu:Bool->Option Bool) (gd:t9->Option Bool) (s:t9):Option Bool :=
(fun (b7:Bool) n8 =>
 aa (decide (n8 < (x1.2.2.2.2.2.2.1.length:Int))) (
 aa (decide (0<=n8)) (
 Q1 (x1.2.2.2.2.2.2.1[n8.toNat]?) fun x9 =>
 aa (decide (0<=n8)) (
 Q1 (x2.2.2.2.2.2.2.1[n8.toNat]?) fun aR =>
 aa (!((x9.1==aR.1)&&((x9.2.1==aR.2.1)&&((x9.2.2.1==aR.2.2.1)&&((x9.2.2.2.1==aR.2.2.2.1)&&((x9.2.2.2.2==aR.2.2.2.2)&&true)))))) (
 some false) (
 gd (b7,(i64.wrap (n8+1))))) none) none) (
 tu b7)) s.1 s.2
noncomputable def pg (d:Nat) (x1 x2:t0) (b5:Bool):Option Bool :=
 Q8 (pe d x1 x2 (o_ d x1 x2)) Qd (b5,0)
noncomputable def pn (d:Nat) (x1 x2:t0) (tv:Bool->Option Bool) (ja:t9->Option Bool) (s:t9):Option Bool :=
(fun (b5:Bool) n6 =>
 aa (decide (n6 < (x1.2.1.length:Int))) (
 aa (decide (0<=n6)) (
 Q1 (x1.2.1[n6.toNat]?) fun x7 =>
 aa (decide (0<=n6)) (
 Q1 (x2.2.1[n6.toNat]?) fun x8 =>
 aa (!((x7.1==x8.1)&&((x7.2.1==x8.2.1)&&((x7.2.2.1==x8.2.2.1)&&((x7.2.2.2.1==x8.2.2.2.1)&&((x7.2.2.2.2.1==x8.2.2.2.2.1)&&((x7.2.2.2.2.2.1==x8.2.2.2.2.2.1)&&((x7.2.2.2.2.2.2.1==x8.2.2.2.2.2.2.1)&&((x7.2.2.2.2.2.2.2==x8.2.2.2.2.2.2.2)&&true))))))))) (
 some false) (
 ja (b5,(i64.wrap (n6+1))))) none) none) (
 tv b5)) s.1 s.2
noncomputable def jc (d:Nat) (x1 x2:t0) (b3:Bool):Option Bool :=
 aa b3 (
 some false) (
 Q8 (pn d x1 x2 (pg d x1 x2)) Qd (false,0))
theorem Sy (d:Nat) (x1 x2:t0):Fy (d+1) x1 x2 =
 aa (!(x1.1.toList==x2.1.toList)) (
 jc d x1 x2 true) (
 aa ((x1.2.1.length:Int) != (x2.2.1.length:Int)) (
 jc d x1 x2 true) (
 aa ((x1.2.2.2.2.2.2.1.length:Int) != (x2.2.2.2.2.2.2.1.length:Int)) (
 jc d x1 x2 true) (
 jc d x1 x2 (x1.2.2.2.2.2.2.2.2 != x2.2.2.2.2.2.2.2.2)))):=by kernel_rfl
noncomputable def pq (d:Nat) (x1:t0) (b2:Bool):Option Bool :=
 aa b2 (
 some false) (
 Q1 (Sr d x1) fun r3 =>
 Q1 (Oc d r3) fun r4 =>
 aa r4 (
 Q1 (BK d r3) fun r5 =>
 Q1 (Fy d x1 r5) fun r6 =>
 some r6) (
 some false))
theorem Sz (d:Nat) (x1:t0):Fz (d+1) x1 =
 aa (decide ((x1.2.1.length:Int) > 24)) (
 pq d x1 true) (
 pq d x1 (decide ((x1.2.2.2.2.2.2.1.length:Int) > 16))):=by kernel_rfl
noncomputable def FA (d:Nat) (b5:Bool):Option Bool :=
 some true
noncomputable def pz (d:Nat) (x1:t0) (x2:t7) (tw:Bool->Option Bool) (ja:t9->Option Bool) (s:t9):Option Bool :=
(fun (b5:Bool) n6 =>
 aa (decide (n6 < (x1.2.1.length:Int))) (
 aa (decide (0<=n6)) (
 Q1 (x1.2.1[n6.toNat]?) fun x7 =>
 aa (decide (0<=n6)) (
 Q1 (x2.1[n6.toNat]?) fun n8 =>
 Q1 (i_ d n8 0 x7.2.2.2.2.1) fun r9 =>
 aa (!r9) (
 some false) (
 aa (decide (0<=n6)) (
 Q1 (x2.2[n6.toNat]?) fun dV =>
 Q1 (i_ d dV 0 x7.2.2.2.2.2.1) fun gU =>
 aa (!gU) (
 some false) (
 ja (b5,(i64.wrap (n6+1))))) none)) none) none) (
 tw b5)) s.1 s.2
noncomputable def pE (d:Nat) (x1:t0) (x2:t7) (b3:Bool):Option Bool :=
 aa b3 (
 some false) (
 Q8 (pz d x1 x2 (FA d)) Qd (false,0))
theorem SA (d:Nat) (x1:t0) (x2:t7):FB (d+1) x1 x2 =
 aa ((x2.1.length:Int) != (x1.2.1.length:Int)) (
 pE d x1 x2 true) (
 pE d x1 x2 ((x2.2.length:Int) != (x1.2.1.length:Int))):=by kernel_rfl
theorem e70 (d:Nat) (x1:t0) (x2:t7):SB (d+1) x1 x2 =
 Q1 (Fz d x1) fun r3 =>
 aa r3 (
 Q1 (FB d x1 x2) fun r4 =>
 some r4) (
 some false):=by kernel_rfl
theorem SC (d:Nat) (x1:t0) (n2:Int):FC (d+1) x1 n2 =
 aa (decide (0<=n2)) (
 Q1 (x1.2.2.2.1[n2.toNat]?) fun n3 =>
 some (decide (n3 < 0))) none:=by kernel_rfl
noncomputable def Ky (d:Nat) (l3:List Int):Option (List Int) :=
 some l3
noncomputable def xe (d:Nat) (x1:t0) (xg:(List Int)->Option (List Int)) (bV:t15->Option (List Int)) (s:t15):Option (List Int) :=
(fun (l3:List Int) n4 =>
 aa (decide (n4 < (x1.2.1.length:Int))) (
 Q1 (FC d x1 n4) fun r5 =>
 aa r5 (
 aa (Nat.ble ((l3.length+[n4].length)*8) Q7) (
 bV ((l3++[n4]),(i64.wrap (n4+1)))) none) (
 bV (l3,(i64.wrap (n4+1))))) (
 xg l3)) s.1 s.2
theorem e71 (d:Nat) (x1:t0):Dj (d+1) x1 =
 Q8 (xe d x1 (Ky d)) Qd ([],0):=by kernel_rfl
theorem SD (d:Nat) (n1:Int):tA (d+1) n1 =
 Q1 (i_ d n1 0 65535) fun r2 =>
 some r2:=by kernel_rfl
theorem e73 (d:Nat) (x1:t4):SE (d+1) x1 =
 Q1 (i_ d x1.1 1 100000) fun r2 =>
 aa r2 (
 Q1 (tA d x1.2.1) fun r3 =>
 aa r3 (
 Q1 (tA d x1.2.2.1) fun r4 =>
 aa r4 (
 Q1 (tA d x1.2.2.2.1) fun r5 =>
 aa r5 (
 Q1 (tA d x1.2.2.2.2.1) fun r6 =>
 aa r6 (
 Q1 (i_ d x1.2.2.2.2.2 1 1500) fun r7 =>
 some r7) (
 some false)) (
 some false)) (
 some false)) (
 some false)) (
 some false):=by kernel_rfl
theorem SF (d:Nat) (x1:t4) (n2:Int):Kz (d+1) x1 n2 =
 aa (decide (0<=n2)) (
 aa (Nat.blt (n2.toNat) ([x1.2.1,x1.2.2.1,x1.2.2.2.1,x1.2.2.2.2.1].length)) (
 Q1 ([x1.2.1,x1.2.2.1,x1.2.2.2.1,x1.2.2.2.2.1][n2.toNat]?) fun n3 =>
 some n3) none) none:=by kernel_rfl
theorem SG (d:Nat) (x1:t5) (x2:t4):FD (d+1) x1 x2 =
 Q1 (Kz d x2 x1.2.1) fun r3 =>
 some (((i64.wrap ((BitVec.ofInt i64.bits r3 &&& BitVec.ofInt i64.bits x1.2.2.1).toNat:Int)):Int)==x1.2.2.2.1):=by kernel_rfl
noncomputable def FE (d:Nat) (n4:Int):Option Int :=
 some (-1)
noncomputable def pG (d:Nat) (l1:List t5) (x2:t4) (tB:Int->Option Int) (bM:t10->Option Int) (s:t10):Option Int :=
(fun n4 n5 =>
 aa (decide (n5 < (l1.length:Int))) (
 aa (decide (0<=n5)) (
 Q1 (l1[n5.toNat]?) fun x6 =>
 Q1 (FD d x6 x2) fun r7 =>
 aa r7 (
 some n5) (
 bM (n4,(i64.wrap (n5+1))))) none) (
 tB n4)) s.1 s.2
theorem SH (d:Nat) (l1:List t5) (x2:t4):FF (d+1) l1 x2 =
 Q8 (pG d l1 x2 (FE d)) Qd (0,0):=by kernel_rfl
theorem e74 (d:Nat) (x1:t0) (x2:t4):Od (d+1) x1 x2 =
 Q1 (FF d x1.2.2.2.2.2.2.1 x2) fun r3 =>
 aa (decide (r3>=0)) (
 aa (decide (0<=r3)) (
 Q1 (x1.2.2.2.2.2.2.2.1[r3.toNat]?) fun n4 =>
 some n4) none) (
 some x1.2.2.2.2.2.2.2.2):=by kernel_rfl
noncomputable def KA (d:Nat) (b4:Bool):Option Bool :=
 some false
noncomputable def xh (d:Nat) (l1:List Int) (n2:Int) (xj:Bool->Option Bool) (bM:t9->Option Bool) (s:t9):Option Bool :=
(fun (b4:Bool) n5 =>
 aa (decide (n5 < (l1.length:Int))) (
 aa (decide (0<=n5)) (
 Q1 (l1[n5.toNat]?) fun n6 =>
 aa (n6==n2) (
 some true) (
 bM (b4,(i64.wrap (n5+1))))) none) (
 xj b4)) s.1 s.2
theorem e75 (d:Nat) (l1:List Int) (n2:Int):Oe (d+1) l1 n2 =
 Q8 (xh d l1 n2 (KA d)) Qd (false,0):=by kernel_rfl
noncomputable def KB (d:Nat) (b6:Bool):Option Bool :=
 some true
noncomputable def xk (d:Nat) (gS:(Bool×(List Int)×Int)->Option Bool) (n8:Int) (vw:Bool) (nq:Int) (ig:List Int):Option Bool :=
 gS (vw,ig,(i64.wrap (n8+1)))
noncomputable def nu (d:Nat) (x1:t2) (r3:List Int) (n8:Int) (l9:List t4) (xl:Bool->Int->(List Int)->Option Bool) (FG:(Bool×(List Int)×Int)->Option Bool) (s:(Bool×(List Int)×Int)):Option Bool :=
(fun (vw:Bool) (j8:List Int) gD =>
 aa (decide (gD < (l9.length:Int))) (
 aa (decide (0<=gD)) (
 Q1 (l9[gD.toNat]?) fun ou =>
 Q1 (SE d ou) fun Fq =>
 aa (!Fq) (
 some false) (
 Q1 (Od d x1.1 ou) fun BL =>
 aa (decide (0<=n8)) (
 aa (Nat.blt (n8.toNat) r3.length) (
 Q1 (r3[n8.toNat]?) fun tC =>
 aa (BL != tC) (
 some false) (
 Q1 (Oe d j8 ou.1) fun BJ =>
 aa BJ (
 some false) (
 aa (Nat.ble ((j8.length+[ou.1].length)*8) Q7) (
 FG (vw,(j8++[ou.1]),(i64.wrap (gD+1)))) none))) none) none)) none) (
 xl vw gD j8)) s.1 s.2.1 s.2.2
noncomputable def xm (d:Nat) (x1:t2) (r3:List Int) (xq:Bool->Option Bool) (gS:(Bool×(List Int)×Int)->Option Bool) (s:(Bool×(List Int)×Int)):Option Bool :=
(fun (b6:Bool) (l7:List Int) n8 =>
 aa (decide (n8 < (x1.2.2.1.length:Int))) (
 aa (decide (0<=n8)) (
 Q1 (x1.2.2.1[n8.toNat]?) fun l9 =>
 aa (decide (0<=n8)) (
 aa (Nat.blt (n8.toNat) r3.length) (
 Q1 (r3[n8.toNat]?) fun dV =>
 aa (decide (0<=dV)) (
 Q1 (x1.1.2.1[dV.toNat]?) fun bP =>
 aa (decide ((l9.length:Int) > bP.2.2.2.2.2.2.2)) (
 some false) (
 Q8 (nu d x1 r3 n8 l9 (xk d gS n8)) Qd (b6,l7,0))) none) none) none) none) (
 xq b6)) s.1 s.2.1 s.2.2
noncomputable def rF (d:Nat) (x1:t2) (r3:List Int) (b4:Bool):Option Bool :=
 aa b4 (
 some false) (
 Q8 (xm d x1 r3 (KB d)) Qd (false,[],0))
theorem e35 (d:Nat) (x1:t2):SI (d+1) x1 =
 Q1 (SB d x1.1 x1.2.1) fun r2 =>
 aa (!r2) (
 some false) (
 Q1 (Dj d x1.1) fun r3 =>
 aa ((x1.2.2.1.length:Int) != (r3.length:Int)) (
 rF d x1 r3 true) (
 Q1 (i_ d x1.2.2.2.1 (-1) (i64.wrap ((r3.length:Int) - 1))) fun r4 =>
 aa (!r4) (
 rF d x1 r3 true) (
 Q1 (i_ d x1.2.2.2.2 0 1000000) fun r5 =>
 rF d x1 r3 (!r5)))):=by kernel_rfl
noncomputable def KC (d:Nat) (n4:Int):Option Int :=
 some (-1)
noncomputable def xu (d:Nat) (x1:t0) (n2:Int) (xw:Int->Option Int) (bM:t10->Option Int) (s:t10):Option Int :=
(fun n4 n5 =>
 aa (decide (n5 < (x1.2.1.length:Int))) (
 aa (decide (0<=n5)) (
 Q1 (x1.2.1[n5.toNat]?) fun x6 =>
 aa (x6.1==n2) (
 some n5) (
 bM (n4,(i64.wrap (n5+1))))) none) (
 xw n4)) s.1 s.2
theorem e56 (d:Nat) (x1:t0) (n2:Int):SJ (d+1) x1 n2 =
 Q8 (xu d x1 n2 (KC d)) Qd (0,0):=by kernel_rfl
noncomputable def FH (d:Nat) (l3 l4:List Int):Option t7 :=
 some (l3,l4)
noncomputable def pH (d:Nat) (x1:t0) (tD:(List Int)->(List Int)->Option t7) (bV:(Int×t7)->Option t7) (s:(Int×t7)):Option t7 :=
(fun n3 (x4:t7) =>
 aa (decide (n3 < (x1.2.1.length:Int))) (
 aa (decide (0<=n3)) (
 Q1 (x1.2.1[n3.toNat]?) fun x5 =>
 aa (Nat.ble ((x4.1.length+[x5.2.2.2.2.1].length)*8) Q7) (
 aa (Nat.ble ((x4.2.length+[x5.2.2.2.2.2.1].length)*8) Q7) (
 bV ((i64.wrap (n3+1)),((x4.1++[x5.2.2.2.2.1]),(x4.2++[x5.2.2.2.2.2.1])))) none) none) none) (
 tD x4.1 x4.2)) s.1 s.2
theorem SK (d:Nat) (x1:t0):FI (d+1) x1 =
 Q8 (pH d x1 (FH d)) Qd (0,([],[])):=by kernel_rfl
theorem e80 (d:Nat) (x1:t3):RW (d+1) x1 =
 Q1 (BK d x1) fun r2 =>
 Q1 (FI d r2) fun r3 =>
 Q1 (Dj d r2) fun r4 =>
 aa (decide (0<=(r4.length:Int))) (
 aa (decide (0<=(r4.length:Int))) (
 aa (Nat.ble ((r4.length:Int).toNat) ((r4.length:Int).toNat)&&Nat.ble (((r4.length:Int).toNat)*24) Q7) (
 some (r2,r3,(List.replicate ((r4.length:Int).toNat) ([]:List t4)),(-1),0)) none) none) none:=by kernel_rfl
theorem e81 (d:Nat) (n1 n2:Int):Of (d+1) n1 n2 =
 aa (decide (n1 < n2)) (
 some n1) (
 some n2):=by kernel_rfl
theorem e82 (d:Nat) (x1:t2):RZ (d+1) x1 =
 aa (decide (x1.2.2.2.1 < 0)) (
 some 0) (
 Q1 (Dj d x1.1) fun r2 =>
 aa (decide (0<=x1.2.2.2.1)) (
 aa (Nat.blt (x1.2.2.2.1.toNat) r2.length) (
 Q1 (r2[x1.2.2.2.1.toNat]?) fun n3 =>
 aa (decide (0<=n3)) (
 Q1 (x1.1.2.1[n3.toNat]?) fun x4 =>
 some x4.1) none) none) none):=by kernel_rfl
noncomputable def KD (d:Nat) (s9:ByteArray) (dV iy tG:Int) (fS:List t1) (j8 ig pI gh:List Int) (ow:List t5) (gT dW eP w_:List Int) (Iz:List (List t4)):Option t8 :=
 some (((s9,fS,j8,ig,pI,gh,ow,gT,dV),(dW,eP),Iz,iy,tG),w_)
noncomputable def Dq (d:Nat) (FJ:t12->Option t8) (Dw n29:Int) (SL:List Int) (j9:List (List t4)):Option t8 :=
 FJ (SL,(i64.wrap (Dw+1)),j9)
noncomputable def dJ (d:Nat) (nv:t12->Option t8) (lg:List Int) (vB:Int) (xx:t4) (n33 n34:Int) (nx:List (List t4)):Option t8 :=
 aa (n33 != 1) (
 aa (Nat.ble ((lg.length+[xx.1].length)*8) Q7) (
 nv ((lg++[xx.1]),(i64.wrap (vB+1)),nx)) none) (
 nv (lg,(i64.wrap (vB+1)),nx))
noncomputable def iX (d:Nat) (nv:t12->Option t8) (lg:List Int) (vB:Int) (j9:List (List t4)) (xx:t4) (KF:t1) (mH:Int):Option t8 :=
 aa (decide (0<=mH)) (
 aa (Nat.blt (mH.toNat) j9.length) (
 Q1 (j9[mH.toNat]?) fun SM =>
 aa (decide ((SM.length:Int)>=KF.2.2.2.2.2.2.2)) (
 dJ d nv lg vB xx 2 KF.1 j9) (
 aa (decide (0<=mH)) (
 aa (Nat.blt (mH.toNat) j9.length) (
 Q1 (j9[mH.toNat]?) fun vC =>
 aa (Nat.ble ((vC.length+[xx].length)*48) Q7) (
 aa (decide (0<=mH)) (
 aa (Nat.blt (mH.toNat) j9.length) (
 aa (Nat.beq (mH.toNat) (mH.toNat)) (
 Q1 (j9[mH.toNat]?) fun l39 =>
 dJ d nv lg vB xx 1 KF.1 (j9.set (mH.toNat) (vC++[xx]))) none) none) none) none) none) none)) none) none
noncomputable def ni (d:Nat) (s9:ByteArray) (dV:Int) (fS:List t1) (j8 ig pI gh:List Int) (ow:List t5) (gT:List Int) (lp:Int) (ny SN:Int->Option t8) (s:Int):Option t8 :=
(fun mH =>
 Q1 (Dj d (s9,fS,j8,ig,pI,gh,ow,gT,dV)) fun vD =>
 aa (decide (0<=mH)) (
 aa (Nat.blt (mH.toNat) vD.length) (
 Q1 (vD[mH.toNat]?) fun Y9 =>
 aa (Y9 != lp) (
 SN (i64.wrap (mH+1))) (
 ny mH)) none) none) s
noncomputable def rC (d:Nat) (s9:ByteArray) (dV:Int) (fS:List t1) (j8 ig pI gh:List Int) (ow:List t5) (gT:List Int) (xy:List t4) (xz:Int->(List Int)->(List (List t4))->Option t8) (nv:t12->Option t8) (s:t12):Option t8 :=
(fun (lg:List Int) vB (j9:List (List t4)) =>
 aa (decide (vB < (xy.length:Int))) (
 aa (decide (0<=vB)) (
 Q1 (xy[vB.toNat]?) fun xx =>
 Q1 (Od d (s9,fS,j8,ig,pI,gh,ow,gT,dV) xx) fun lp =>
 aa (decide (lp < 0)) (
 dJ d nv lg vB xx 3 0 j9) (
 aa (decide (0<=lp)) (
 aa (Nat.blt (lp.toNat) fS.length) (
 Q1 (fS[lp.toNat]?) fun KF =>
 Q8 (ni d s9 dV fS j8 ig pI gh ow gT lp (iX d nv lg vB j9 xx KF)) Qd 0) none) none)) none) (
 xz vB lg j9)) s.1 s.2.1 s.2.2
noncomputable def rD (d:Nat) (x1:t2) (s9:ByteArray) (dV:Int) (fS:List t1) (j8 ig pI gh:List Int) (ow:List t5) (gT:List Int) (xA:(List Int)->(List (List t4))->Option t8) (FJ:t12->Option t8) (s:t12):Option t8 :=
(fun (w_:List Int) Dw (Dx:List (List t4)) =>
 aa (decide (Dw < (x1.2.2.1.length:Int))) (
 aa (decide (0<=Dw)) (
 Q1 (x1.2.2.1[Dw.toNat]?) fun xy =>
 Q8 (rC d s9 dV fS j8 ig pI gh ow gT xy (Dq d FJ Dw)) Qd (w_,0,Dx)) none) (
 xA w_ Dx)) s.1 s.2.1 s.2.2
noncomputable def wK (d:Nat) (x1:t2) (s9:ByteArray) (dV iy tG:Int) (fS:List t1) (j8 ig pI gh:List Int) (ow:List t5) (gT dW eP:List Int) (Fv:List (List t4)):Option t8 :=
 Q8 (rD d x1 s9 dV fS j8 ig pI gh ow gT (KD d s9 dV iy tG fS j8 ig pI gh ow gT dW eP)) Qd ([],0,Fv)
noncomputable def wL (d:Nat) (x1:t2) (r7:List Int) (xB:ByteArray->Int->Int->Int->(List t1)->(List Int)->(List Int)->(List Int)->(List Int)->(List t5)->(List Int)->(List Int)->(List Int)->(List (List t4))->Option t8) (xC:(Int×t2)->Option t8) (s:(Int×t2)):Option t8 :=
(fun n9 (aR:t2) =>
 aa (decide (n9 < (r7.length:Int))) (
 aa (decide (0<=n9)) (
 aa (Nat.blt (n9.toNat) r7.length) (
 Q1 (r7[n9.toNat]?) fun iy =>
 aa (decide (0<=iy)) (
 aa (Nat.blt (iy.toNat) aR.1.2.1.length) (
 Q1 (aR.1.2.1[iy.toNat]?) fun dA =>
 Q1 (RZ (d+1) x1) fun tH =>
 aa (dA.1==tH) (
 xC ((i64.wrap (n9+1)),(aR.1,aR.2.1,aR.2.2.1,n9,aR.2.2.2.2))) (
 xC ((i64.wrap (n9+1)),aR))) none) none) none) none) (
 xB aR.1.1 aR.1.2.2.2.2.2.2.2.2 aR.2.2.2.1 aR.2.2.2.2 aR.1.2.1 aR.1.2.2.1 aR.1.2.2.2.1 aR.1.2.2.2.2.1 aR.1.2.2.2.2.2.1 aR.1.2.2.2.2.2.2.1 aR.1.2.2.2.2.2.2.2.1 aR.2.1.1 aR.2.1.2 aR.2.2.1)) s.1 s.2
noncomputable def wJ (d:Nat) (x1 r3:t2) (l5 l6:List Int):Option t8 :=
 Q1 (Dj (d+1) r3.1) fun r7 =>
 Q8 (wL d x1 r7 (wK d x1)) Qd (0,(r3.1,(l5,l6),r3.2.2.1,r3.2.2.2.1,x1.2.2.2.2))
noncomputable def rB (d:Nat) (x1 r3:t2) (xD:(List Int)->(List Int)->Option t8) (ja:t16->Option t8) (s:t16):Option t8 :=
(fun n5 (l6:List Int) (l7:List Int) =>
 aa (decide (n5 < (r3.1.2.1.length:Int))) (
 aa (decide (0<=n5)) (
 aa (Nat.blt (n5.toNat) r3.1.2.1.length) (
 Q1 (r3.1.2.1[n5.toNat]?) fun x8 =>
 Q1 (SJ (d+1) x1.1 x8.1) fun r9 =>
 aa (decide (r9>=0)) (
 aa (decide (0<=r9)) (
 Q1 (x1.2.1.1[r9.toNat]?) fun dV =>
 Q1 (Of (d+1) dV x8.2.2.2.2.1) fun gU =>
 aa (decide (0<=n5)) (
 aa (Nat.blt (n5.toNat) l6.length) (
 Q1 (l6[n5.toNat]?) fun tG =>
 aa (decide (0<=r9)) (
 Q1 (x1.2.1.2[r9.toNat]?) fun jM =>
 Q1 (Of (d+1) jM x8.2.2.2.2.2.1) fun jA =>
 aa (decide (0<=n5)) (
 aa (Nat.blt (n5.toNat) l7.length) (
 Q1 (l7[n5.toNat]?) fun gD =>
 ja ((i64.wrap (n5+1)),(l6.set (n5.toNat) gU),(l7.set (n5.toNat) jA))) none) none) none) none) none) none) (
 ja ((i64.wrap (n5+1)),l6,l7))) none) none) (
 xD l6 l7)) s.1 s.2.1 s.2.2
theorem e37 (d:Nat) (x1:t2) (x2:t3):R0 (d+2) x1 x2 =
 Q1 (RW (d+1) x2) fun r3 =>
 Q8 (rB d x1 r3 (wJ d x1 r3)) Qd (0,r3.2.1.1,r3.2.1.2):=by kernel_rfl
theorem e9 (d:Nat) (x1:t2) (x2:t3):g9 (d+1) x1 x2 =
 Q1 (SI d x1) fun r3 =>
 aa (!r3) (
 some ((((⟨#[]⟩:ByteArray),[],[],[],[],[],[],[],0),([],[]),[],0,0),[],false)) (
 Q1 (Oc d x2) fun r4 =>
 aa (!r4) (
 some ((((⟨#[]⟩:ByteArray),[],[],[],[],[],[],[],0),([],[]),[],0,0),[],false)) (
 Q1 (R0 d x1 x2) fun r5 =>
 some (r5.1,r5.2,true))):=by kernel_rfl
theorem e64 (d:Nat) (x1:t5):Y_ (d+1) x1 =
 some x1:=by kernel_rfl
noncomputable def Dy (d:Nat) (l3:List t5):Option (List t5) :=
 some l3
noncomputable def Dz (d:Nat) (l1:List t5) (xE:(List t5)->Option (List t5)) (bV:(Int×(List t5))->Option (List t5)) (s:(Int×(List t5))):Option (List t5) :=
(fun n3 (l4:List t5) =>
 aa (decide (n3 < (l1.length:Int))) (
 aa (decide (0<=n3)) (
 Q1 (l1[n3.toNat]?) fun x5 =>
 Q1 (Y_ d x5) fun r6 =>
 aa (decide (0<=n3)) (
 aa (Nat.blt (n3.toNat) l4.length) (
 Q1 (l4[n3.toNat]?) fun x7 =>
 bV ((i64.wrap (n3+1)),(l4.set (n3.toNat) r6))) none) none) none) (
 xE l4)) s.1 s.2
theorem e27 (d:Nat) (l1:List t5):Og (d+1) l1 =
 aa (decide (0<=(l1.length:Int))) (
 aa (decide (0<=(l1.length:Int))) (
 aa (Nat.ble ((l1.length:Int).toNat) ((l1.length:Int).toNat)&&Nat.ble (((l1.length:Int).toNat)*40) Q7) (
 Q8 (Dz d l1 (Dy d)) Qd (0,(List.replicate ((l1.length:Int).toNat) ((0,0,0,0,0):t5)))) none) none) none:=by kernel_rfl
theorem e86 (d:Nat) (x1:t1):Zt (d+1) x1 =
 some x1:=by kernel_rfl
noncomputable def DA (d:Nat) (l3:List t1):Option (List t1) :=
 some l3
noncomputable def DB (d:Nat) (l1:List t1) (xF:(List t1)->Option (List t1)) (bV:t13->Option (List t1)) (s:t13):Option (List t1) :=
(fun n3 (l4:List t1) =>
 aa (decide (n3 < (l1.length:Int))) (
 aa (decide (0<=n3)) (
 Q1 (l1[n3.toNat]?) fun x5 =>
 Q1 (Zt d x5) fun r6 =>
 aa (decide (0<=n3)) (
 aa (Nat.blt (n3.toNat) l4.length) (
 Q1 (l4[n3.toNat]?) fun x7 =>
 bV ((i64.wrap (n3+1)),(l4.set (n3.toNat) r6))) none) none) none) (
 xF l4)) s.1 s.2
theorem e41 (d:Nat) (l1:List t1):Oh (d+1) l1 =
 aa (decide (0<=(l1.length:Int))) (
 aa (decide (0<=(l1.length:Int))) (
 aa (Nat.ble ((l1.length:Int).toNat) ((l1.length:Int).toNat)&&Nat.ble (((l1.length:Int).toNat)*64) Q7) (
 Q8 (DB d l1 (DA d)) Qd (0,(List.replicate ((l1.length:Int).toNat) ((0,0,0,0,0,0,0,0):t1)))) none) none) none:=by kernel_rfl
noncomputable def DC (d:Nat) (l3:List Int):Option (List Int) :=
 some l3
noncomputable def DD (d:Nat) (l1:List Int) (xG:(List Int)->Option (List Int)) (bV:t11->Option (List Int)) (s:t11):Option (List Int) :=
(fun n3 (l4:List Int) =>
 aa (decide (n3 < (l1.length:Int))) (
 aa (decide (0<=n3)) (
 Q1 (l1[n3.toNat]?) fun n5 =>
 aa (decide (0<=n3)) (
 aa (Nat.blt (n3.toNat) l4.length) (
 Q1 (l4[n3.toNat]?) fun n6 =>
 bV ((i64.wrap (n3+1)),(l4.set (n3.toNat) n5))) none) none) none) (
 xG l4)) s.1 s.2
theorem e84 (d:Nat) (l1:List Int):BM (d+1) l1 =
 aa (decide (0<=(l1.length:Int))) (
 aa (decide (0<=(l1.length:Int))) (
 aa (Nat.ble ((l1.length:Int).toNat) ((l1.length:Int).toNat)&&Nat.ble (((l1.length:Int).toNat)*8) Q7) (
 Q8 (DD d l1 (DC d)) Qd (0,(List.replicate ((l1.length:Int).toNat) (0:Int)))) none) none) none:=by kernel_rfl
theorem e38 (d:Nat) (x1:t0):SO (d+1) x1 =
 Q1 (Oh d x1.2.1) fun r2 =>
 Q1 (BM d x1.2.2.1) fun r3 =>
 Q1 (BM d x1.2.2.2.1) fun r4 =>
 Q1 (BM d x1.2.2.2.2.1) fun r5 =>
 Q1 (BM d x1.2.2.2.2.2.1) fun r6 =>
 Q1 (Og d x1.2.2.2.2.2.2.1) fun r7 =>
 Q1 (BM d x1.2.2.2.2.2.2.2.1) fun r8 =>
 some (x1.1,r2,r3,r4,r5,r6,r7,r8,x1.2.2.2.2.2.2.2.2):=by kernel_rfl
theorem e39 (d:Nat) (x1:t7):SP (d+1) x1 =
 Q1 (BM d x1.1) fun r2 =>
 Q1 (BM d x1.2) fun r3 =>
 some (r2,r3):=by kernel_rfl
theorem SQ (d:Nat) (x1:t4):KG (d+1) x1 =
 some x1:=by kernel_rfl
noncomputable def DE (d:Nat) (l3:List t4):Option (List t4) :=
 some l3
noncomputable def DF (d:Nat) (l1:List t4) (xH:(List t4)->Option (List t4)) (bV:(Int×(List t4))->Option (List t4)) (s:(Int×(List t4))):Option (List t4) :=
(fun n3 (l4:List t4) =>
 aa (decide (n3 < (l1.length:Int))) (
 aa (decide (0<=n3)) (
 Q1 (l1[n3.toNat]?) fun x5 =>
 Q1 (KG d x5) fun r6 =>
 aa (decide (0<=n3)) (
 aa (Nat.blt (n3.toNat) l4.length) (
 Q1 (l4[n3.toNat]?) fun x7 =>
 bV ((i64.wrap (n3+1)),(l4.set (n3.toNat) r6))) none) none) none) (
 xH l4)) s.1 s.2
theorem e85 (d:Nat) (l1:List t4):SS (d+1) l1 =
 aa (decide (0<=(l1.length:Int))) (
 aa (decide (0<=(l1.length:Int))) (
 aa (Nat.ble ((l1.length:Int).toNat) ((l1.length:Int).toNat)&&Nat.ble (((l1.length:Int).toNat)*48) Q7) (
 Q8 (DF d l1 (DE d)) Qd (0,(List.replicate ((l1.length:Int).toNat) ((0,0,0,0,0,0):t4)))) none) none) none:=by kernel_rfl
noncomputable def DG (d:Nat) (l3:List (List t4)):Option (List (List t4)) :=
 some l3
noncomputable def DH (d:Nat) (l1:List (List t4)) (xI:(List (List t4))->Option (List (List t4))) (bV:(Int×(List (List t4)))->Option (List (List t4))) (s:(Int×(List (List t4)))):Option (List (List t4)) :=
(fun n3 (l4:List (List t4)) =>
 aa (decide (n3 < (l1.length:Int))) (
 aa (decide (0<=n3)) (
 Q1 (l1[n3.toNat]?) fun l5 =>
 Q1 (SS d l5) fun r6 =>
 aa (decide (0<=n3)) (
 aa (Nat.blt (n3.toNat) l4.length) (
 Q1 (l4[n3.toNat]?) fun l7 =>
 bV ((i64.wrap (n3+1)),(l4.set (n3.toNat) r6))) none) none) none) (
 xI l4)) s.1 s.2
theorem e40 (d:Nat) (l1:List (List t4)):SU (d+1) l1 =
 aa (decide (0<=(l1.length:Int))) (
 aa (decide (0<=(l1.length:Int))) (
 aa (Nat.ble ((l1.length:Int).toNat) ((l1.length:Int).toNat)&&Nat.ble (((l1.length:Int).toNat)*24) Q7) (
 Q8 (DH d l1 (DG d)) Qd (0,(List.replicate ((l1.length:Int).toNat) ([]:List t4)))) none) none) none:=by kernel_rfl
theorem e10 (d:Nat) (x1:t2):g10 (d+1) x1 =
 Q1 (SO d x1.1) fun r2 =>
 Q1 (SP d x1.2.1) fun r3 =>
 Q1 (SU d x1.2.2.1) fun r4 =>
 some (r2,r3,r4,x1.2.2.2):=by kernel_rfl
theorem e11 (d:Nat) (x1:t3):g11 (d+1) x1 =
 Q1 (Oh d x1.2.1) fun r2 =>
 Q1 (Og d x1.2.2.1) fun r3 =>
 some (x1.1,r2,r3,x1.2.2.2):=by kernel_rfl
theorem SV (d:Nat) (n1:Int):FK (d+1) n1 =
 aa (decide (n1>=97)) (
 some (decide (n1<=122))) (
 some false):=by kernel_rfl
noncomputable def FL (d:Nat) (b3:Bool):Option Bool :=
 some false
noncomputable def pJ (d:Nat) (s1:ByteArray) (tI:Bool->Option Bool) (bV:t9->Option Bool) (s:t9):Option Bool :=
(fun (b3:Bool) n4 =>
 aa (decide (n4 < 14)) (
 aa (decide (0<=n4)) (
 Q1 (([(⟨#[113,100,105,115,99]⟩:ByteArray),(⟨#[100,101,102,97,117,108,116]⟩:ByteArray),(⟨#[99,108,97,115,115]⟩:ByteArray),(⟨#[114,97,116,101]⟩:ByteArray),(⟨#[99,101,105,108]⟩:ByteArray),(⟨#[98,117,114,115,116]⟩:ByteArray),(⟨#[99,98,117,114,115,116]⟩:ByteArray),(⟨#[112,114,105,111]⟩:ByteArray),(⟨#[108,105,109,105,116]⟩:ByteArray),(⟨#[102,105,108,116,101,114]⟩:ByteArray),(⟨#[115,111,117,114,99,101]⟩:ByteArray),(⟨#[100,101,115,116]⟩:ByteArray),(⟨#[112,111,114,116]⟩:ByteArray),(⟨#[109,97,114,107]⟩:ByteArray)]:List ByteArray)[n4.toNat]?) fun s5 =>
 aa (s5.toList==s1.toList) (
 some true) (
 bV (b3,(i64.wrap (n4+1))))) none) (
 tI b3)) s.1 s.2
theorem SW (d:Nat) (s1:ByteArray):FM (d+1) s1 =
 Q8 (pJ d s1 (FL d)) Qd (false,0):=by kernel_rfl
noncomputable def pK (d:Nat) (s1:ByteArray) (b4:Bool):Option Bool :=
 Q1 (FM d s1) fun r5 =>
 some (!r5)
noncomputable def pL (d:Nat) (s1:ByteArray) (tJ:Bool->Option Bool) (bM:t9->Option Bool) (s:t9):Option Bool :=
(fun (b4:Bool) n5 =>
 aa (decide (n5 < (s1.size:Int))) (
 aa (decide (0<=n5)) (
 Q1 (s1.data.toList[n5.toNat]?) fun c6 =>
 Q1 (FK d (c6.toNat:Int)) fun r7 =>
 aa (!r7) (
 some false) (
 bM (b4,(i64.wrap (n5+1))))) none) (
 tJ b4)) s.1 s.2
noncomputable def pM (d:Nat) (s1:ByteArray) (b2:Bool):Option Bool :=
 aa b2 (
 some false) (
 Q8 (pL d s1 (pK d s1)) Qd (false,0))
theorem SX (d:Nat) (s1:ByteArray):FN (d+1) s1 =
 aa (decide (((s1.size:Int):Int) < 1)) (
 pM d s1 true) (
 pM d s1 (decide (((s1.size:Int):Int) > 8))):=by kernel_rfl
theorem SY (d:Nat) (n1:Int):FO (d+1) n1 =
 aa (decide (n1>=1)) (
 some (decide (n1<=999))) (
 some false):=by kernel_rfl
noncomputable def xJ (d:Nat) (x1:t3) (b3:Bool):Option Bool :=
 aa (decide ((x1.2.1.length:Int)>=1)) (
 some (decide ((x1.2.1.length:Int)<=24))) (
 some false)
noncomputable def pN (d:Nat) (x1:t3) (tK:Bool->Option Bool) (bV:t9->Option Bool) (s:t9):Option Bool :=
(fun (b3:Bool) n4 =>
 aa (decide (n4 < (x1.2.1.length:Int))) (
 aa (decide (0<=n4)) (
 Q1 (x1.2.1[n4.toNat]?) fun x5 =>
 Q1 (FO d x5.1) fun r6 =>
 aa (!r6) (
 some false) (
 aa (decide (n4 > 0)) (
 aa (decide (0<=((i64.wrap (n4 - 1)):Int))) (
 Q1 (x1.2.1[((i64.wrap (n4 - 1)):Int).toNat]?) fun x7 =>
 aa (decide (x5.1<=x7.1)) (
 some false) (
 bV (b3,(i64.wrap (n4+1))))) none) (
 bV (b3,(i64.wrap (n4+1)))))) none) (
 tK b3)) s.1 s.2
theorem SZ (d:Nat) (x1:t3):FP (d+1) x1 =
 Q8 (pN d x1 (xJ d x1)) Qd (false,0):=by kernel_rfl
noncomputable def xK (d:Nat) (n4:Int):Option Int :=
 some (-1)
noncomputable def jd (d:Nat) (x1:t3) (n2:Int) (nA:Int->Option Int) (bM:t10->Option Int) (s:t10):Option Int :=
(fun n4 n5 =>
 aa (decide (n5 < (x1.2.1.length:Int))) (
 aa (decide (0<=n5)) (
 Q1 (x1.2.1[n5.toNat]?) fun x6 =>
 aa (x6.1==n2) (
 some n5) (
 bM (n4,(i64.wrap (n5+1))))) none) (
 nA n4)) s.1 s.2
theorem e61 (d:Nat) (x1:t3) (n2:Int):KH (d+3) x1 n2 =
 Q8 (jd d x1 n2 (xK d)) Qd (0,0):=by kernel_rfl
noncomputable def FQ (d:Nat) (l3:List Int):Option (List Int) :=
 some l3
noncomputable def pO (d:Nat) (bV:t15->Option (List Int)) (l3:List Int) (n4:Int) (b6 b7:Bool):Option (List Int) :=
 aa b7 (
 aa (Nat.ble ((l3.length+[n4].length)*8) Q7) (
 bV ((l3++[n4]),(i64.wrap (n4+1)))) none) (
 bV (l3,(i64.wrap (n4+1))))
noncomputable def pP (d:Nat) (x1:t3) (tL:(List Int)->Option (List Int)) (bV:t15->Option (List Int)) (s:t15):Option (List Int) :=
(fun (l3:List Int) n4 =>
 aa (decide (n4 < (x1.2.1.length:Int))) (
 aa (decide (0<=n4)) (
 Q1 (x1.2.1[n4.toNat]?) fun x5 =>
 aa (x5.2.1 != 0) (
 Q1 (KH d x1 x5.2.1) fun r6 =>
 pO d bV l3 n4 true (decide (r6 < 0))) (
 pO d bV l3 n4 false false)) none) (
 tL l3)) s.1 s.2
theorem S0 (d:Nat) (x1:t3):FR (d+1) x1 =
 Q8 (pP d x1 (FQ d)) Qd (([]:List Int),0):=by kernel_rfl
noncomputable def pQ (d:Nat) (x1:t3) (n3:Int):Option Bool :=
 aa (n3==1) (
 Q1 (FR d x1) fun r4 =>
 some ((r4.length:Int)==0)) (
 some false)
noncomputable def pR (d:Nat) (x1:t3) (tM:Int->Option Bool) (bV:t10->Option Bool) (s:t10):Option Bool :=
(fun n3 n4 =>
 aa (decide (n4 < (x1.2.1.length:Int))) (
 aa (decide (0<=n4)) (
 Q1 (x1.2.1[n4.toNat]?) fun x5 =>
 aa (x5.2.1==0) (
 bV ((i64.wrap (n3+1)),(i64.wrap (n4+1)))) (
 bV (n3,(i64.wrap (n4+1))))) none) (
 tM n3)) s.1 s.2
theorem S3 (d:Nat) (x1:t3):FT (d+1) x1 =
 Q8 (pR d x1 (pQ d x1)) Qd (0,0):=by kernel_rfl
noncomputable def FU (d:Nat) (n4:Int):Option Int :=
 some (-1)
noncomputable def pS (d:Nat) (l1:List Int) (n2:Int) (tN:Int->Option Int) (bM:t10->Option Int) (s:t10):Option Int :=
(fun n4 n5 =>
 aa (decide (n5 < (l1.length:Int))) (
 aa (decide (0<=n5)) (
 Q1 (l1[n5.toNat]?) fun n6 =>
 aa (n2==n6) (
 some n5) (
 bM (n4,(i64.wrap (n5+1))))) none) (
 tN n4)) s.1 s.2
theorem S4 (d:Nat) (l1:List Int) (n2:Int):wu (d+1) l1 n2 =
 Q8 (pS d l1 n2 (FU d)) Qd (0,0):=by kernel_rfl
theorem S5 (d:Nat) (l1:List Int) (n2:Int):FV (d+1) l1 n2 =
 Q1 (wu d l1 n2) fun r3 =>
 some (decide (r3>=0)):=by kernel_rfl
noncomputable def xL (d:Nat) (b4:Bool) (l5 l6:List Int):Option ((List Int)×Bool) :=
 some (l6,true)
noncomputable def xM (d:Nat) (x1:t3) (tO:Bool->(List Int)->(List Int)->Option ((List Int)×Bool)) (bM:(Int×(List Int)×Bool×(List Int))->Option ((List Int)×Bool)) (s:(Int×(List Int)×Bool×(List Int))):Option ((List Int)×Bool) :=
(fun n4 (l5:List Int) (b6:Bool) (l7:List Int) =>
 aa (decide (n4>=0)) (
 Q1 (FV d l7 n4) fun r8 =>
 aa r8 (
 some (l7,false)) (
 aa (Nat.ble ((l7.length+[n4].length)*8) Q7) (
 aa (decide (0<=n4)) (
 Q1 (x1.2.1[n4.toNat]?) fun x9 =>
 Q1 (KH d x1 x9.2.1) fun de =>
 bM (de,l5,b6,(l7++[n4]))) none) none)) (
 tO b6 l5 l7)) s.1 s.2.1 s.2.2.1 s.2.2.2
theorem S6 (d:Nat) (x1:t3) (n2:Int):FW (d+1) x1 n2 =
 Q8 (xM d x1 (xL d)) Qd (n2,[],false,([]:List Int)):=by kernel_rfl
noncomputable def FX (d:Nat) (b3:Bool):Option Bool :=
 some true
noncomputable def pT (d:Nat) (x1:t3) (tP:Bool->Option Bool) (bV:t9->Option Bool) (s:t9):Option Bool :=
(fun (b3:Bool) n4 =>
 aa (decide (n4 < (x1.2.1.length:Int))) (
 Q1 (FW d x1 n4) fun r5 =>
 aa (!r5.2) (
 some false) (
 aa (decide ((r5.1.length:Int) > 8)) (
 some false) (
 aa (decide (0<=((i64.wrap ((r5.1.length:Int) - 1)):Int))) (
 aa (Nat.blt (((i64.wrap ((r5.1.length:Int) - 1)):Int).toNat) r5.1.length) (
 Q1 (r5.1[((i64.wrap ((r5.1.length:Int) - 1)):Int).toNat]?) fun n6 =>
 aa (decide (0<=n6)) (
 Q1 (x1.2.1[n6.toNat]?) fun x7 =>
 aa (x7.2.1 != 0) (
 some false) (
 bV (b3,(i64.wrap (n4+1))))) none) none) none))) (
 tP b3)) s.1 s.2
theorem S7 (d:Nat) (x1:t3):FY (d+1) x1 =
 Q8 (pT d x1 (FX d)) Qd (false,0):=by kernel_rfl
theorem S8 (d:Nat) (x1:t1):FZ (d+1) x1 =
 aa (decide (x1.2.2.1>=1)) (
 aa (decide (x1.2.2.1<=100000)) (
 aa (decide (x1.2.2.2.1>=x1.2.2.1)) (
 some (decide (x1.2.2.2.1<=100000))) (
 some false)) (
 some false)) (
 some false):=by kernel_rfl
noncomputable def jN (d:Nat) (n3:Int):Option Bool :=
 some (!(decide (((-1):Int)>=0)))
noncomputable def ef (d:Nat) (x1:t3) (gV:Int->Option Bool) (bV:t10->Option Bool) (s:t10):Option Bool :=
(fun n3 n4 =>
 aa (decide (n4 < (x1.2.1.length:Int))) (
 aa (decide (0<=n4)) (
 Q1 (x1.2.1[n4.toNat]?) fun x5 =>
 aa (decide (x5.2.2.1 < 0)) (
 some (!(decide (n4>=0)))) (
 aa (decide (x5.2.2.1 > 1000000000)) (
 some (!(decide (n4>=0)))) (
 bV (n3,(i64.wrap (n4+1)))))) none) (
 gV n3)) s.1 s.2
theorem S9 (d:Nat) (x1:t3):F0 (d+4) x1 =
 Q8 (ef d x1 (jN d)) Qd (0,0):=by kernel_rfl
noncomputable def F1 (d:Nat) (l4:List Int):Option (List Int) :=
 some l4
noncomputable def pU (d:Nat) (x1:t3) (n2:Int) (tQ:(List Int)->Option (List Int)) (bM:t15->Option (List Int)) (s:t15):Option (List Int) :=
(fun (l4:List Int) n5 =>
 aa (decide (n5 < (x1.2.1.length:Int))) (
 aa (decide (0<=n5)) (
 Q1 (x1.2.1[n5.toNat]?) fun x6 =>
 aa (decide (0<=n2)) (
 Q1 (x1.2.1[n2.toNat]?) fun x7 =>
 aa (x6.2.1==x7.1) (
 aa (Nat.ble ((l4.length+[n5].length)*8) Q7) (
 bM ((l4++[n5]),(i64.wrap (n5+1)))) none) (
 bM (l4,(i64.wrap (n5+1))))) none) none) (
 tQ l4)) s.1 s.2
theorem S_ (d:Nat) (x1:t3) (n2:Int):xN (d+1) x1 n2 =
 Q8 (pU d x1 n2 (F1 d)) Qd (([]:List Int),0):=by kernel_rfl
noncomputable def F2 (d:Nat) (n5:Int):Option Int :=
 some n5
noncomputable def pV (d:Nat) (x1:t3) (r3:List Int) (tR:Int->Option Int) (ja:t10->Option Int) (s:t10):Option Int :=
(fun n5 n6 =>
 aa (decide (n6 < (r3.length:Int))) (
 aa (decide (0<=n6)) (
 aa (Nat.blt (n6.toNat) r3.length) (
 Q1 (r3[n6.toNat]?) fun n7 =>
 aa (decide (0<=n7)) (
 Q1 (x1.2.1[n7.toNat]?) fun x8 =>
 ja ((i64.wrap (n5+x8.2.2.1)),(i64.wrap (n6+1)))) none) none) none) (
 tR n5)) s.1 s.2
theorem Ta (d:Nat) (x1:t3) (n2:Int):F3 (d+1) x1 n2 =
 Q1 (xN d x1 n2) fun r3 =>
 Q8 (pV d x1 r3 (F2 d)) Qd (0,0):=by kernel_rfl
noncomputable def F4 (d:Nat) (l3:List Int):Option (List Int) :=
 some l3
noncomputable def pX (d:Nat) (x1:t3) (tS:(List Int)->Option (List Int)) (bV:t15->Option (List Int)) (s:t15):Option (List Int) :=
(fun (l3:List Int) n4 =>
 aa (decide (n4 < (x1.2.1.length:Int))) (
 aa (decide (0<=n4)) (
 Q1 (x1.2.1[n4.toNat]?) fun x5 =>
 Q1 (F3 d x1 n4) fun r6 =>
 aa (decide (r6 > x5.2.2.1)) (
 aa (Nat.ble ((l3.length+[n4].length)*8) Q7) (
 bV ((l3++[n4]),(i64.wrap (n4+1)))) none) (
 bV (l3,(i64.wrap (n4+1))))) none) (
 tS l3)) s.1 s.2
theorem Tb (d:Nat) (x1:t3):F5 (d+1) x1 =
 Q8 (pX d x1 (F4 d)) Qd (([]:List Int),0):=by kernel_rfl
theorem Tc (d:Nat) (x1:t1):F6 (d+1) x1 =
 aa (decide (x1.2.2.2.2.1>=1500)) (
 aa (decide (x1.2.2.2.2.1<=1000000)) (
 aa (decide (x1.2.2.2.2.2.1>=1500)) (
 aa (decide (x1.2.2.2.2.2.1<=1000000)) (
 aa (decide (x1.2.2.2.2.2.2.1>=0)) (
 some (decide (x1.2.2.2.2.2.2.1<=7))) (
 some false)) (
 some false)) (
 some false)) (
 some false)) (
 some false):=by kernel_rfl
noncomputable def jO (d:Nat) (n4:Int):Option Bool :=
 some (!(decide (((-1):Int)>=0)))
noncomputable def eg (d:Nat) (x1:t3) (n2:Int) (gW:Int->Option Bool) (bM:t10->Option Bool) (s:t10):Option Bool :=
(fun n4 n5 =>
 aa (decide (n5 < (x1.2.1.length:Int))) (
 aa (decide (0<=n5)) (
 Q1 (x1.2.1[n5.toNat]?) fun x6 =>
 aa (decide (0<=n2)) (
 Q1 (x1.2.1[n2.toNat]?) fun x7 =>
 aa (x6.2.1==x7.1) (
 some (!(decide (n5>=0)))) (
 bM (n4,(i64.wrap (n5+1))))) none) none) (
 gW n4)) s.1 s.2
theorem Td (d:Nat) (x1:t3) (n2:Int):tT (d+4) x1 n2 =
 Q8 (eg d x1 n2 (jO d)) Qd (0,0):=by kernel_rfl
theorem Te (d:Nat) (x1:t3) (n2:Int):F7 (d+1) x1 n2 =
 aa (decide (0<=n2)) (
 Q1 (x1.2.1[n2.toNat]?) fun x3 =>
 Q1 (tT d x1 n2) fun r4 =>
 aa r4 (
 aa (decide (x3.2.2.2.2.2.2.2>=1)) (
 some (decide (x3.2.2.2.2.2.2.2<=60))) (
 some false)) (
 some (x3.2.2.2.2.2.2.2==0))) none:=by kernel_rfl
theorem Tf (d:Nat) (x1:t3) (n2:Int):xO (d+1) x1 n2 =
 Q1 (KH d x1 n2) fun r3 =>
 aa (decide (r3>=0)) (
 Q1 (tT d x1 r3) fun r4 =>
 some r4) (
 some false):=by kernel_rfl
theorem Tg (d:Nat) (x1:t5):F8 (d+1) x1 =
 aa (decide (x1.1>=1)) (
 aa (decide (x1.1<=99)) (
 aa (decide (x1.2.1>=0)) (
 aa (decide (x1.2.1<=3)) (
 aa (decide (x1.2.2.1>=0)) (
 aa (decide (x1.2.2.1<=65535)) (
 aa (decide (x1.2.2.2.1>=0)) (
 aa (decide (x1.2.2.2.1<=65535)) (
 some (((i64.wrap ((BitVec.ofInt i64.bits x1.2.2.2.1 &&& ~~~BitVec.ofInt i64.bits x1.2.2.1).toNat:Int)):Int)==0)) (
 some false)) (
 some false)) (
 some false)) (
 some false)) (
 some false)) (
 some false)) (
 some false)) (
 some false):=by kernel_rfl
noncomputable def xP (d:Nat) (x1:t3) (b3:Bool):Option Bool :=
 some (decide ((x1.2.2.1.length:Int)<=16))
noncomputable def je (d:Nat) (bV:t9->Option Bool) (b3:Bool) (n4:Int) (b6 b7 b8 b9 Ku AM:Bool):Option Bool :=
 aa AM (
 some false) (
 bV (b3,(i64.wrap (n4+1))))
noncomputable def pY (d:Nat) (x1:t3) (tU:Bool->Option Bool) (bV:t9->Option Bool) (s:t9):Option Bool :=
(fun (b3:Bool) n4 =>
 aa (decide (n4 < (x1.2.2.1.length:Int))) (
 aa (decide (0<=n4)) (
 Q1 (x1.2.2.1[n4.toNat]?) fun x5 =>
 Q1 (F8 d x5) fun r6 =>
 aa (!r6) (
 je d bV b3 n4 r6 (!r6) true true true true) (
 aa (decide (n4 > 0)) (
 aa (decide (0<=((i64.wrap (n4 - 1)):Int))) (
 Q1 (x1.2.2.1[((i64.wrap (n4 - 1)):Int).toNat]?) fun x7 =>
 aa (decide (x5.1<=x7.1)) (
 je d bV b3 n4 r6 (!r6) false (decide (x5.1<=x7.1)) true true) (
 Q1 (xO d x1 x5.2.2.2.2) fun r8 =>
 je d bV b3 n4 r6 (!r6) false (decide (x5.1<=x7.1)) false (!r8))) none) (
 Q1 (xO d x1 x5.2.2.2.2) fun r9 =>
 je d bV b3 n4 r6 (!r6) false false false (!r9)))) none) (
 tU b3)) s.1 s.2
theorem Th (d:Nat) (x1:t3):F9 (d+1) x1 =
 Q8 (pY d x1 (xP d x1)) Qd (false,0):=by kernel_rfl
noncomputable def lq (d:Nat) (n8:Int):Option Bool :=
 some (!(decide (((-1):Int)>=0)))
noncomputable def eL (d:Nat) (x1:t3) (dm:Int->Option Bool) (Ti:t10->Option Bool) (s:t10):Option Bool :=
(fun n8 n9 =>
 aa (decide (n9 < (x1.2.1.length:Int))) (
 aa (decide (0<=n9)) (
 Q1 (x1.2.1[n9.toNat]?) fun aR =>
 Q1 (FZ d aR) fun gU =>
 aa (!gU) (
 some (!(decide (n9>=0)))) (
 Ti (n8,(i64.wrap (n9+1))))) none) (
 dm n8)) s.1 s.2
noncomputable def lu (d:Nat) (gD:Int):Option Bool :=
 some (!(decide (((-1):Int)>=0)))
noncomputable def eo (d:Nat) (x1:t3) (dm:Int->Option Bool) (iz:t10->Option Bool) (s:t10):Option Bool :=
(fun gD dL =>
 aa (decide (dL < (x1.2.1.length:Int))) (
 aa (decide (0<=dL)) (
 Q1 (x1.2.1[dL.toNat]?) fun x17 =>
 Q1 (F6 d x17) fun BL =>
 aa (!BL) (
 some (!(decide (dL>=0)))) (
 iz (gD,(i64.wrap (dL+1))))) none) (
 dm gD)) s.1 s.2
noncomputable def KI (d:Nat) (Kx:Bool):Option Bool :=
 some true
noncomputable def xQ (d:Nat) (x1:t3) (xR:Bool->Option Bool) (Tj:t9->Option Bool) (s:t9):Option Bool :=
(fun (Kx:Bool) oZ =>
 aa (decide (oZ < (x1.2.1.length:Int))) (
 Q1 (F7 (d+3) x1 oZ) fun ox =>
 aa (!ox) (
 some false) (
 Tj (Kx,(i64.wrap (oZ+1))))) (
 xR Kx)) s.1 s.2
theorem AN (d:Nat) (x1:t3) (n2:Int):tV (d+4) x1 n2 =
 aa (n2==1) (
 Q1 (FN (d+3) x1.1) fun r3 =>
 some r3) (
 aa (n2==2) (
 Q1 (FP (d+3) x1) fun r4 =>
 some r4) (
 aa (n2==3) (
 Q1 (FT (d+3) x1) fun r5 =>
 some r5) (
 aa (n2==4) (
 Q1 (FY (d+3) x1) fun r6 =>
 some r6) (
 aa (n2==5) (
 Q8 (eL d x1 (lq d)) Qd (0,0)) (
 aa (n2==6) (
 Q1 (F0 (d+3) x1) fun j6 =>
 aa j6 (
 Q1 (F5 (d+3) x1) fun tH =>
 some ((tH.length:Int)==0)) (
 some false)) (
 aa (n2==7) (
 Q8 (eo d x1 (lu d)) Qd (0,0)) (
 aa (n2==8) (
 Q8 (xQ d x1 (KI d)) Qd (false,0)) (
 aa (n2==9) (
 Q1 (F9 (d+3) x1) fun vE =>
 some vE) (
 aa (x1.2.2.2==0) (
 some true) (
 Q1 (xO (d+3) x1 x1.2.2.2) fun Ki =>
 some Ki)))))))))):=by kernel_rfl
noncomputable def gk (d:Nat) (b4:Bool):Option Bool :=
 some true
noncomputable def ff (d:Nat) (x1:t3) (xS:Bool->Option Bool) (bM:t9->Option Bool) (s:t9):Option Bool :=
(fun (b4:Bool) n5 =>
 aa (decide (n5<=10)) (
 Q1 (tV d x1 n5) fun r6 =>
 aa (!r6) (
 some false) (
 bM (b4,(i64.wrap (n5+1))))) (
 xS b4)) s.1 s.2
noncomputable def xT (d:Nat) (x1:t3) (b2:Bool):Option Bool :=
 aa b2 (
 some false) (
 Q8 (ff d x1 (gk d)) Qd (false,1))
theorem e43 (d:Nat) (x1:t3):Oi (d+1) x1 =
 aa (decide ((x1.2.1.length:Int) > 24)) (
 xT d x1 true) (
 xT d x1 (decide ((x1.2.2.1.length:Int) > 16))):=by kernel_rfl
theorem e66 (d:Nat) (l1:List t5):Oj (d+1) l1 =
 IA l1.length (
 some []) (
 aa (Nat.ble ((([]:List t5).length+l1.length)*40) Q7) (
 some (([]:List t5)++l1)) none):=by kernel_rfl
theorem Tl (d:Nat) (l1:List t1):F_ (d+1) l1 =
 IA l1.length (
 some []) (
 aa (Nat.ble ((([]:List t1).length+l1.length)*64) Q7) (
 some (([]:List t1)++l1)) none):=by kernel_rfl
theorem Tm (d:Nat) (n1 n2:Int):tW (d+1) n1 n2 =
 aa (decide (n1 < n2)) (
 some (-1)) (
 aa (decide (n1 > n2)) (
 some 1) (
 some 0)):=by kernel_rfl
noncomputable def pZ (d:Nat) (l6:List t1):Option (List t1) :=
 some l6
noncomputable def p5 (d:Nat) (gS:t13->Option (List t1)) (n6 n9 dV:Int) (AM Ob:Bool) (fS:List t1):Option (List t1) :=
 gS ((i64.wrap (n6+1)),fS)
noncomputable def lz (d:Nat) (fy:Int->Int->Bool->Bool->(List t1)->Option (List t1)) (n2:Int) (xC:t13->Option (List t1)) (n9:Int) (l10:List t1) (AM Ob:Bool):Option (List t1) :=
 aa Ob (
 aa (decide (0<=((i64.wrap (n9 - 1)):Int))) (
 aa (Nat.blt (((i64.wrap (n9 - 1)):Int).toNat) l10.length) (
 Q1 (l10[((i64.wrap (n9 - 1)):Int).toNat]?) fun gE =>
 aa (decide (0<=n9)) (
 aa (Nat.blt (n9.toNat) l10.length) (
 Q1 (l10[n9.toNat]?) fun mI =>
 aa (decide (0<=n9)) (
 aa (Nat.blt (n9.toNat) l10.length) (
 Q1 (l10[n9.toNat]?) fun Tn =>
 aa (decide (0<=((i64.wrap (n9 - 1)):Int))) (
 aa (Nat.blt (((i64.wrap (n9 - 1)):Int).toNat) ((l10.set (n9.toNat) gE).length)) (
 Q1 ((l10.set (n9.toNat) gE)[((i64.wrap (n9 - 1)):Int).toNat]?) fun ou =>
 xC ((i64.wrap (n9 - 1)),((l10.set (n9.toNat) gE).set (((i64.wrap (n9 - 1)):Int).toNat) mI))) none) none) none) none) none) none) none) none) (
 fy n9 n9 (decide (n9 > n2)) AM l10)
noncomputable def xU (d:Nat) (n2:Int) (fy:Int->Int->Bool->Bool->(List t1)->Option (List t1)) (xC:t13->Option (List t1)) (s:t13):Option (List t1) :=
(fun n9 (l10:List t1) =>
 aa (decide (n9 > n2)) (
 aa (decide (0<=n9)) (
 aa (Nat.blt (n9.toNat) l10.length) (
 Q1 (l10[n9.toNat]?) fun bP =>
 aa (decide (0<=((i64.wrap (n9 - 1)):Int))) (
 aa (Nat.blt (((i64.wrap (n9 - 1)):Int).toNat) l10.length) (
 Q1 (l10[((i64.wrap (n9 - 1)):Int).toNat]?) fun dA =>
 Q1 (tW d bP.1 dA.1) fun tH =>
 lz d fy n2 xC n9 l10 true (decide (tH < 0))) none) none) none) none) (
 lz d fy n2 xC n9 l10 false false)) s.1 s.2
noncomputable def p6 (d:Nat) (n2 n3:Int) (tX:(List t1)->Option (List t1)) (gS:t13->Option (List t1)) (s:t13):Option (List t1) :=
(fun n6 (l7:List t1) =>
 aa (decide (n6 < n3)) (
 Q8 (xU d n2 (p5 d gS n6)) Qd (n6,l7)) (
 tX l7)) s.1 s.2
theorem To (d:Nat) (l1:List t1) (n2 n3:Int) (b4:Bool):BN (d+2) l1 n2 n3 b4 =
 Q8 (p6 d n2 n3 (pZ d)) Qd ((i64.wrap (n2+1)),l1):=by kernel_rfl
noncomputable def xV (d:Nat) (l7:List t1):Option (List t1) :=
 some l7
noncomputable def xW (d:Nat) (n2 n3 n4:Int) (tY:(List t1)->Option (List t1)) (gd:t13->Option (List t1)) (s:t13):Option (List t1) :=
(fun n7 (l8:List t1) =>
 aa (decide (n7 < n4)) (
 aa (decide (0<=((i64.wrap (n3+n7)):Int))) (
 aa (Nat.blt (((i64.wrap (n3+n7)):Int).toNat) l8.length) (
 Q1 (l8[((i64.wrap (n3+n7)):Int).toNat]?) fun x9 =>
 aa (decide (0<=((i64.wrap (n2+n7)):Int))) (
 aa (Nat.blt (((i64.wrap (n2+n7)):Int).toNat) l8.length) (
 Q1 (l8[((i64.wrap (n2+n7)):Int).toNat]?) fun aR =>
 aa (decide (0<=((i64.wrap (n2+n7)):Int))) (
 aa (Nat.blt (((i64.wrap (n2+n7)):Int).toNat) l8.length) (
 Q1 (l8[((i64.wrap (n2+n7)):Int).toNat]?) fun bP =>
 aa (decide (0<=((i64.wrap (n3+n7)):Int))) (
 aa (Nat.blt (((i64.wrap (n3+n7)):Int).toNat) ((l8.set (((i64.wrap (n2+n7)):Int).toNat) x9).length)) (
 Q1 ((l8.set (((i64.wrap (n2+n7)):Int).toNat) x9)[((i64.wrap (n3+n7)):Int).toNat]?) fun dA =>
 gd ((i64.wrap (n7+1)),((l8.set (((i64.wrap (n2+n7)):Int).toNat) x9).set (((i64.wrap (n3+n7)):Int).toNat) aR))) none) none) none) none) none) none) none) none) (
 tY l8)) s.1 s.2
theorem Tp (d:Nat) (l1:List t1) (n2 n3 n4:Int) (b5:Bool):xX (d+1) l1 n2 n3 n4 b5 =
 Q8 (xW d n2 n3 n4 (xV d)) Qd (0,l1):=by kernel_rfl
noncomputable def xY (d:Nat) (n3 n7:Int) (l8:List t1):Option (List t1) :=
 Q1 (xX d l8 (i64.wrap (n3 - n7)) n3 n7 false) fun r9 =>
 some r9
noncomputable def xZ (d:Nat) (n3:Int) (tZ:Int->(List t1)->Option (List t1)) (gd:(Int×Int×(List t1))->Option (List t1)) (s:(Int×Int×(List t1))):Option (List t1) :=
(fun n7 n8 (l9:List t1) =>
 aa (n7 != n8) (
 aa (decide (n7 > n8)) (
 Q1 (xX d l9 (i64.wrap (n3 - n7)) n3 n8 false) fun de =>
 gd ((i64.wrap (n7 - n8)),n8,de)) (
 Q1 (xX d l9 (i64.wrap (n3 - n7)) (i64.wrap ((i64.wrap (n3+n8)) - n7)) n7 false) fun gU =>
 gd (n7,(i64.wrap (n8 - n7)),gU))) (
 tZ n7 l9)) s.1 s.2.1 s.2.2
theorem Tq (d:Nat) (l1:List t1) (n2 n3 n4:Int) (b5:Bool):Ga (d+1) l1 n2 n3 n4 b5 =
 Q8 (xZ d n3 (xY d n3)) Qd ((i64.wrap (n3 - n2)),(i64.wrap (n4 - n3)),l1):=by kernel_rfl
noncomputable def p7 (d:Nat) (l9:List t1):Option (List t1) :=
 some l9
noncomputable def p8 (d:Nat) (n7:Int) (t_:(List t1)->Option (List t1)) (xC:t13->Option (List t1)) (s:t13):Option (List t1) :=
(fun n9 (l10:List t1) =>
 aa (decide (n9 < (i64.wrap (n7 - 1)))) (
 aa (decide (0<=((i64.wrap (n9+1)):Int))) (
 aa (Nat.blt (((i64.wrap (n9+1)):Int).toNat) l10.length) (
 Q1 (l10[((i64.wrap (n9+1)):Int).toNat]?) fun bP =>
 aa (decide (0<=n9)) (
 aa (Nat.blt (n9.toNat) l10.length) (
 Q1 (l10[n9.toNat]?) fun dA =>
 aa (decide (0<=n9)) (
 aa (Nat.blt (n9.toNat) l10.length) (
 Q1 (l10[n9.toNat]?) fun gE =>
 aa (decide (0<=((i64.wrap (n9+1)):Int))) (
 aa (Nat.blt (((i64.wrap (n9+1)):Int).toNat) ((l10.set (n9.toNat) bP).length)) (
 Q1 ((l10.set (n9.toNat) bP)[((i64.wrap (n9+1)):Int).toNat]?) fun mI =>
 xC ((i64.wrap (n9+1)),((l10.set (n9.toNat) bP).set (((i64.wrap (n9+1)):Int).toNat) dA))) none) none) none) none) none) none) none) none) (
 t_ l10)) s.1 s.2
noncomputable def lA (d:Nat) (l1:List t1) (n2 n7:Int):Option (List t1) :=
 Q8 (p8 d n7 (p7 d)) Qd (n2,l1)
noncomputable def p9 (d:Nat) (l1:List t1) (n2:Int) (ua:Int->Option (List t1)) (gd:t10->Option (List t1)) (s:t10):Option (List t1) :=
(fun n7 n8 =>
 aa (decide (n7 < n8)) (
 aa (decide (0<=((i64.wrap ((u64.wrap (i64.wrap (n7+n8))).fdiv (2 ^ (min (1:Int).toNat u64.bits)))):Int))) (
 aa (Nat.blt (((i64.wrap ((u64.wrap (i64.wrap (n7+n8))).fdiv (2 ^ (min (1:Int).toNat u64.bits)))):Int).toNat) l1.length) (
 Q1 (l1[((i64.wrap ((u64.wrap (i64.wrap (n7+n8))).fdiv (2 ^ (min (1:Int).toNat u64.bits)))):Int).toNat]?) fun x9 =>
 aa (decide (0<=n2)) (
 aa (Nat.blt (n2.toNat) l1.length) (
 Q1 (l1[n2.toNat]?) fun aR =>
 Q1 (tW d x9.1 aR.1) fun gU =>
 aa (decide (gU < 0)) (
 gd ((i64.wrap ((i64.wrap ((u64.wrap (i64.wrap (n7+n8))).fdiv (2 ^ (min (1:Int).toNat u64.bits))))+1)),n8)) (
 gd (n7,(i64.wrap ((u64.wrap (i64.wrap (n7+n8))).fdiv (2 ^ (min (1:Int).toNat u64.bits))))))) none) none) none) none) (
 ua n7)) s.1 s.2
noncomputable def p_ (d:Nat) (ow:List t1):Option (List t1) :=
 some ow
noncomputable def qa (d:Nat) (dL:Int) (uc:(List t1)->Option (List t1)) (Gb:t13->Option (List t1)) (s:t13):Option (List t1) :=
(fun eK (gT:List t1) =>
 aa (decide (eK > dL)) (
 aa (decide (0<=((i64.wrap (eK - 1)):Int))) (
 aa (Nat.blt (((i64.wrap (eK - 1)):Int).toNat) gT.length) (
 Q1 (gT[((i64.wrap (eK - 1)):Int).toNat]?) fun BO =>
 aa (decide (0<=eK)) (
 aa (Nat.blt (eK.toNat) gT.length) (
 Q1 (gT[eK.toNat]?) fun x21 =>
 aa (decide (0<=eK)) (
 aa (Nat.blt (eK.toNat) gT.length) (
 Q1 (gT[eK.toNat]?) fun Tt =>
 aa (decide (0<=((i64.wrap (eK - 1)):Int))) (
 aa (Nat.blt (((i64.wrap (eK - 1)):Int).toNat) ((gT.set (eK.toNat) BO).length)) (
 Q1 ((gT.set (eK.toNat) BO)[((i64.wrap (eK - 1)):Int).toNat]?) fun Zu =>
 Gb ((i64.wrap (eK - 1)),((gT.set (eK.toNat) BO).set (((i64.wrap (eK - 1)):Int).toNat) x21))) none) none) none) none) none) none) none) none) (
 uc gT)) s.1 s.2
noncomputable def lB (d:Nat) (l1:List t1) (n3 dL:Int):Option (List t1) :=
 Q8 (qa d dL (p_ d)) Qd (n3,l1)
noncomputable def qb (d:Nat) (l1:List t1) (n3:Int) (ud:Int->Option (List t1)) (nr:t10->Option (List t1)) (s:t10):Option (List t1) :=
(fun dL eD =>
 aa (decide (dL < eD)) (
 aa (decide (0<=n3)) (
 aa (Nat.blt (n3.toNat) l1.length) (
 Q1 (l1[n3.toNat]?) fun fR =>
 aa (decide (0<=((i64.wrap ((u64.wrap (i64.wrap (dL+eD))).fdiv (2 ^ (min (1:Int).toNat u64.bits)))):Int))) (
 aa (Nat.blt (((i64.wrap ((u64.wrap (i64.wrap (dL+eD))).fdiv (2 ^ (min (1:Int).toNat u64.bits)))):Int).toNat) l1.length) (
 Q1 (l1[((i64.wrap ((u64.wrap (i64.wrap (dL+eD))).fdiv (2 ^ (min (1:Int).toNat u64.bits)))):Int).toNat]?) fun nk =>
 Q1 (tW d fR.1 nk.1) fun BJ =>
 aa (!(decide (BJ < 0))) (
 nr ((i64.wrap ((i64.wrap ((u64.wrap (i64.wrap (dL+eD))).fdiv (2 ^ (min (1:Int).toNat u64.bits))))+1)),eD)) (
 nr (dL,(i64.wrap ((u64.wrap (i64.wrap (dL+eD))).fdiv (2 ^ (min (1:Int).toNat u64.bits))))))) none) none) none) none) (
 ud dL)) s.1 s.2
noncomputable def lC (d:Nat) (n2 n3 n4 dK:Int) (j9:List t1) (b32:Bool):Option (List t1) :=
 aa b32 (
 Q1 (ue (d+1) j9 (i64.wrap ((u64.wrap (i64.wrap (n2+n4))).fdiv (2 ^ (min (1:Int).toNat u64.bits)))) (i64.wrap ((i64.wrap ((i64.wrap ((u64.wrap (i64.wrap (n2+n4))).fdiv (2 ^ (min (1:Int).toNat u64.bits))))+n3)) - dK)) n4 false) fun lp =>
 some lp) (
 some j9)
noncomputable def lD (d:Nat) (n2 n3 n4 dK:Int) (j9:List t1):Option (List t1) :=
 aa (decide (((i64.wrap ((u64.wrap (i64.wrap (n2+n4))).fdiv (2 ^ (min (1:Int).toNat u64.bits)))):Int) < (i64.wrap ((i64.wrap ((i64.wrap ((u64.wrap (i64.wrap (n2+n4))).fdiv (2 ^ (min (1:Int).toNat u64.bits))))+n3)) - dK)))) (
 lC d n2 n3 n4 dK j9 (decide (((i64.wrap ((i64.wrap ((i64.wrap ((u64.wrap (i64.wrap (n2+n4))).fdiv (2 ^ (min (1:Int).toNat u64.bits))))+n3)) - dK)):Int) < n4))) (
 lC d n2 n3 n4 dK j9 false)
noncomputable def lE (d:Nat) (n2 n3 n4 dK:Int) (lg:List t1) (Tu:Bool):Option (List t1) :=
 aa Tu (
 Q1 (ue (d+1) lg n2 dK (i64.wrap ((u64.wrap (i64.wrap (n2+n4))).fdiv (2 ^ (min (1:Int).toNat u64.bits)))) false) fun mJ =>
 lD d n2 n3 n4 dK mJ) (
 lD d n2 n3 n4 dK lg)
noncomputable def lG (d:Nat) (n2 n3 n4 dK:Int) (lg:List t1):Option (List t1) :=
 aa (decide (n2 < dK)) (
 lE d n2 n3 n4 dK lg (decide (dK < (i64.wrap ((u64.wrap (i64.wrap (n2+n4))).fdiv (2 ^ (min (1:Int).toNat u64.bits))))))) (
 lE d n2 n3 n4 dK lg false)
noncomputable def lH (d:Nat) (l1:List t1) (n2 n3 n4 dK:Int) (b28:Bool):Option (List t1) :=
 aa b28 (
 Q1 (Ga (d+1) l1 dK n3 (i64.wrap ((i64.wrap ((i64.wrap ((u64.wrap (i64.wrap (n2+n4))).fdiv (2 ^ (min (1:Int).toNat u64.bits))))+n3)) - dK)) false) fun KJ =>
 lG d n2 n3 n4 dK KJ) (
 lG d n2 n3 n4 dK l1)
noncomputable def lI (d:Nat) (l1:List t1) (n2 n3 n4 dK:Int):Option (List t1) :=
 aa (decide (dK < n3)) (
 lH d l1 n2 n3 n4 dK (decide (n3 < (i64.wrap ((i64.wrap ((i64.wrap ((u64.wrap (i64.wrap (n2+n4))).fdiv (2 ^ (min (1:Int).toNat u64.bits))))+n3)) - dK))))) (
 lH d l1 n2 n3 n4 dK false)
noncomputable def qc (d:Nat) (l1:List t1) (n2 n3 n4:Int) (ug:Int->Option (List t1)) (KK:t10->Option (List t1)) (s:t10):Option (List t1) :=
(fun dK AO =>
 aa (decide (dK < AO)) (
 aa (decide (0<=((i64.wrap ((i64.wrap ((i64.wrap ((i64.wrap ((u64.wrap (i64.wrap (n2+n4))).fdiv (2 ^ (min (1:Int).toNat u64.bits))))+n3)) - 1)) - (i64.wrap ((u64.wrap (i64.wrap (dK+AO))).fdiv (2 ^ (min (1:Int).toNat u64.bits)))))):Int))) (
 aa (Nat.blt (((i64.wrap ((i64.wrap ((i64.wrap ((i64.wrap ((u64.wrap (i64.wrap (n2+n4))).fdiv (2 ^ (min (1:Int).toNat u64.bits))))+n3)) - 1)) - (i64.wrap ((u64.wrap (i64.wrap (dK+AO))).fdiv (2 ^ (min (1:Int).toNat u64.bits)))))):Int).toNat) l1.length) (
 Q1 (l1[((i64.wrap ((i64.wrap ((i64.wrap ((i64.wrap ((u64.wrap (i64.wrap (n2+n4))).fdiv (2 ^ (min (1:Int).toNat u64.bits))))+n3)) - 1)) - (i64.wrap ((u64.wrap (i64.wrap (dK+AO))).fdiv (2 ^ (min (1:Int).toNat u64.bits)))))):Int).toNat]?) fun x29 =>
 aa (decide (0<=((i64.wrap ((u64.wrap (i64.wrap (dK+AO))).fdiv (2 ^ (min (1:Int).toNat u64.bits)))):Int))) (
 aa (Nat.blt (((i64.wrap ((u64.wrap (i64.wrap (dK+AO))).fdiv (2 ^ (min (1:Int).toNat u64.bits)))):Int).toNat) l1.length) (
 Q1 (l1[((i64.wrap ((u64.wrap (i64.wrap (dK+AO))).fdiv (2 ^ (min (1:Int).toNat u64.bits)))):Int).toNat]?) fun x30 =>
 Q1 (tW d x29.1 x30.1) fun mJ =>
 aa (!(decide (mJ < 0))) (
 KK ((i64.wrap ((i64.wrap ((u64.wrap (i64.wrap (dK+AO))).fdiv (2 ^ (min (1:Int).toNat u64.bits))))+1)),AO)) (
 KK (dK,(i64.wrap ((u64.wrap (i64.wrap (dK+AO))).fdiv (2 ^ (min (1:Int).toNat u64.bits))))))) none) none) none) none) (
 ug dK)) s.1 s.2
noncomputable def iJ (d:Nat) (l1:List t1) (n2 n3 n4 fJ Dw:Int):Option (List t1) :=
 Q8 (qc d l1 n2 n3 n4 (lI d l1 n2 n3 n4)) Qd (fJ,Dw)
theorem Tv (d:Nat) (l1:List t1) (n2 n3 n4:Int) (b5:Bool):ue (d+2) l1 n2 n3 n4 b5 =
 aa (((i64.wrap (n3 - n2)):Int)==1) (
 Q8 (p9 d l1 n2 (lA d l1 n2)) Qd (n3,n4)) (
 aa (((i64.wrap (n4 - n3)):Int)==1) (
 Q8 (qb d l1 n3 (lB d l1 n3)) Qd (n2,n3)) (
 aa (decide (n3 > (i64.wrap ((u64.wrap (i64.wrap (n2+n4))).fdiv (2 ^ (min (1:Int).toNat u64.bits)))))) (
 iJ d l1 n2 n3 n4 (i64.wrap ((i64.wrap ((i64.wrap ((u64.wrap (i64.wrap (n2+n4))).fdiv (2 ^ (min (1:Int).toNat u64.bits))))+n3)) - n4)) (i64.wrap ((u64.wrap (i64.wrap (n2+n4))).fdiv (2 ^ (min (1:Int).toNat u64.bits))))) (
 iJ d l1 n2 n3 n4 n2 n3))):=by kernel_rfl
noncomputable def x_ (d:Nat) (l10:List t1):Option (List t1) :=
 some l10
noncomputable def ya (d:Nat) (n2:Int) (DI:(Int×Int×Int×(List t1))->Option (List t1)) (dV gD dL eD:Int) (ow:List t1):Option (List t1) :=
 aa (decide (((i64.wrap (gD+dV)):Int) < n2)) (
 Q1 (ue d ow gD (i64.wrap (gD+dV)) n2 false) fun vA =>
 DI ((i64.wrap (dV*2)),gD,dL,vA)) (
 DI ((i64.wrap (dV*2)),gD,dL,ow))
noncomputable def yb (d:Nat) (n2 dV:Int) (uh:Int->Int->Int->(List t1)->Option (List t1)) (iz:(Int×Int×(List t1))->Option (List t1)) (s:(Int×Int×(List t1))):Option (List t1) :=
(fun gD dL (gh:List t1) =>
 aa (decide (dL<=n2)) (
 Q1 (ue d gh gD (i64.wrap (gD+dV)) dL false) fun BL =>
 iz (dL,(i64.wrap (dL+(i64.wrap ((2:Int)*dV)))),BL)) (
 uh gD dL dL gh)) s.1 s.2.1 s.2.2
noncomputable def yd (d:Nat) (n2:Int) (uj:(List t1)->Option (List t1)) (DI:(Int×Int×Int×(List t1))->Option (List t1)) (s:(Int×Int×Int×(List t1))):Option (List t1) :=
(fun dV iy tG (fS:List t1) =>
 aa (decide (dV < n2)) (
 Q8 (yb d n2 dV (ya d n2 DI dV)) Qd (0,(i64.wrap ((2:Int)*dV)),fS)) (
 uj fS)) s.1 s.2.1 s.2.2.1 s.2.2.2
noncomputable def ye (d:Nat) (n2 n5 n6:Int) (l7:List t1):Option (List t1) :=
 Q1 (BN d l7 n5 n2 false) fun r8 =>
 Q8 (yd d n2 (x_ d)) Qd (20,n5,n6,r8)
noncomputable def yg (d:Nat) (n2:Int) (uk:Int->Int->(List t1)->Option (List t1)) (ja:(Int×Int×(List t1))->Option (List t1)) (s:(Int×Int×(List t1))):Option (List t1) :=
(fun n5 n6 (l7:List t1) =>
 aa (decide (n6<=n2)) (
 Q1 (BN d l7 n5 n6 false) fun r8 =>
 ja (n6,(i64.wrap (n6+20)),r8)) (
 uk n5 n6 l7)) s.1 s.2.1 s.2.2
theorem Tw (d:Nat) (l1:List t1) (n2:Int) (b3:Bool):Gc (d+1) l1 n2 b3 =
 Q8 (yg d n2 (ye d n2)) Qd (0,20,l1):=by kernel_rfl
theorem Tx (d:Nat) (l1:List t1) (b2:Bool):BP (d+1) l1 b2 =
 Q1 (Gc d l1 (l1.length:Int) false) fun r3 =>
 some r3:=by kernel_rfl
noncomputable def yh (d:Nat) (x1:t0) (r2:List t1) (r3:List t5) (b4:Bool):Option t3 :=
 aa b4 (
 aa (decide (0<=x1.2.2.2.2.2.2.2.2)) (
 Q1 (x1.2.1[x1.2.2.2.2.2.2.2.2.toNat]?) fun x5 =>
 Q1 (BP d r2 false) fun r6 =>
 some (x1.1,r6,r3,x5.1)) none) (
 Q1 (BP d r2 false) fun r7 =>
 some (x1.1,r7,r3,0))
theorem e60 (d:Nat) (x1:t0):Tz (d+1) x1 =
 Q1 (F_ d x1.2.1) fun r2 =>
 Q1 (Oj d x1.2.2.2.2.2.2.1) fun r3 =>
 aa (decide (x1.2.2.2.2.2.2.2.2>=0)) (
 yh d x1 r2 r3 (decide (x1.2.2.2.2.2.2.2.2 < (x1.2.1.length:Int)))) (
 yh d x1 r2 r3 false):=by kernel_rfl
theorem TA (d:Nat) (n1 n2:Int):KL (d+1) n1 n2 =
 some ((u64.wrap ((u64.wrap ((u64.wrap ((n1.fdiv (2 ^ (min (32:Int).toNat u64.bits)))*(n2.fdiv (2 ^ (min (32:Int).toNat u64.bits)))))+((u64.wrap ((u64.wrap ((n1.fdiv (2 ^ (min (32:Int).toNat u64.bits)))*(u64.wrap ((BitVec.ofInt u64.bits n2 &&& BitVec.ofInt u64.bits 4294967295).toNat:Int))))+((u64.wrap ((u64.wrap ((BitVec.ofInt u64.bits n1 &&& BitVec.ofInt u64.bits 4294967295).toNat:Int))*(u64.wrap ((BitVec.ofInt u64.bits n2 &&& BitVec.ofInt u64.bits 4294967295).toNat:Int)))).fdiv (2 ^ (min (32:Int).toNat u64.bits))))).fdiv (2 ^ (min (32:Int).toNat u64.bits)))))+((u64.wrap ((u64.wrap ((BitVec.ofInt u64.bits (u64.wrap ((u64.wrap ((n1.fdiv (2 ^ (min (32:Int).toNat u64.bits)))*(u64.wrap ((BitVec.ofInt u64.bits n2 &&& BitVec.ofInt u64.bits 4294967295).toNat:Int))))+((u64.wrap ((u64.wrap ((BitVec.ofInt u64.bits n1 &&& BitVec.ofInt u64.bits 4294967295).toNat:Int))*(u64.wrap ((BitVec.ofInt u64.bits n2 &&& BitVec.ofInt u64.bits 4294967295).toNat:Int)))).fdiv (2 ^ (min (32:Int).toNat u64.bits))))) &&& BitVec.ofInt u64.bits 4294967295).toNat:Int))+(u64.wrap ((u64.wrap ((BitVec.ofInt u64.bits n1 &&& BitVec.ofInt u64.bits 4294967295).toNat:Int))*(n2.fdiv (2 ^ (min (32:Int).toNat u64.bits))))))).fdiv (2 ^ (min (32:Int).toNat u64.bits))))),(u64.wrap (n1*n2))):=by kernel_rfl
theorem TB (d:Nat) (n1 n2:Int):Ge (d+1) n1 n2 =
 Q1 (KL d n1 n2) fun r3 =>
 some (r3.1,r3.2):=by kernel_rfl
noncomputable def yj (d:Nat) (l6:List Int):Option (List Int) :=
 some l6
noncomputable def ym (d:Nat) (um:(List Int)->Option (List Int)) (gS:t11->Option (List Int)) (s:t11):Option (List Int) :=
(fun n6 (l7:List Int) =>
 aa (decide (n6 < (l7.length:Int))) (
 aa (decide (0<=n6)) (
 aa (Nat.ble (n6.toNat) l7.length) (
 aa (decide (0<=n6)) (
 aa (Nat.ble (n6.toNat) l7.length) (
 gS ((i64.wrap (n6+((min (l7.take (n6.toNat)).length (l7.length - (0+n6.toNat)):Nat):Int))),(mK l7 (0+n6.toNat) (l7.length - (0+n6.toNat)) (l7.take (n6.toNat))))) none) none) none) none) (
 um l7)) s.1 s.2
noncomputable def qd (d:Nat) (l1:List Int) (r3:t10) (b4:Bool):Option (List Int) :=
 aa b4 (
 none) (
 aa (decide (0<=((i64.wrap r3.2):Int))) (
 aa (decide (0<=((i64.wrap r3.2):Int))) (
 aa (Nat.ble (((i64.wrap r3.2):Int).toNat) (((i64.wrap r3.2):Int).toNat)&&Nat.ble ((((i64.wrap r3.2):Int).toNat)*8) Q7) (
 Q8 (ym d (yj d)) Qd (((min l1.length ((List.replicate (((i64.wrap r3.2):Int).toNat) (0:Int)).length):Nat):Int),(mK (List.replicate (((i64.wrap r3.2):Int).toNat) (0:Int)) 0 ((List.replicate (((i64.wrap r3.2):Int).toNat) (0:Int)).length) l1))) none) none) none)
theorem TC (d:Nat) (l1:List Int) (n2:Int):yp (d+1) l1 n2 =
 aa (decide (n2 < 0)) (
 none) (
 Q1 (Ge d (u64.wrap (l1.length:Int)) (u64.wrap n2)) fun r3 =>
 aa (decide (r3.1 > 0)) (
 qd d l1 r3 true) (
 qd d l1 r3 (decide (r3.2 > 9223372036854775807)))):=by kernel_rfl
theorem TD (d:Nat) (n1:Int):jP (d+1) n1 =
 BQ n1:=by kernel_rfl
theorem TE (d:Nat) (s1:ByteArray) (n2:Int):KM (d+1) s1 n2 =
 BS s1 n2:=by kernel_rfl
theorem TF (d:Nat) (x1:t6) (n2:Int) (s3:ByteArray):nB (d+1) x1 n2 s3 =
 Q1 (KM d (⟨#[32,32]⟩:ByteArray) n2) fun r4 =>
 aa (Nat.ble (r4.size+s3.size) 9223372036854775807) (
 aa (Nat.ble ((x1.2.1.length+[(r4++s3)].length)*16) Q7) (
 some (x1.1,(x1.2.1++[(r4++s3)]),x1.2.2)) none) none:=by kernel_rfl
noncomputable def lJ (d:Nat) (n1:Int) (b4:Bool):Option ByteArray :=
 aa b4 (
 Q1 (jP d (i64.wrap (n1.tdiv 1000))) fun r5 =>
 aa (Nat.ble (r5.size+((⟨#[107]⟩:ByteArray):ByteArray).size) 9223372036854775807) (
 some (r5++((⟨#[107]⟩:ByteArray):ByteArray))) none) (
 Q1 (jP d n1) fun r6 =>
 some r6)
noncomputable def lK (d:Nat) (n1:Int) (b2:Bool):Option ByteArray :=
 aa b2 (
 Q1 (jP d (i64.wrap (n1.tdiv 1000000))) fun r3 =>
 aa (Nat.ble (r3.size+((⟨#[109]⟩:ByteArray):ByteArray).size) 9223372036854775807) (
 some (r3++((⟨#[109]⟩:ByteArray):ByteArray))) none) (
 aa (decide (n1 > 0)) (
 lJ d n1 (((n1.tmod 1000):Int)==0)) (
 lJ d n1 false))
theorem TG (d:Nat) (n1:Int):qe (d+1) n1 =
 aa (decide (n1 > 0)) (
 lK d n1 (((n1.tmod 1000000):Int)==0)) (
 lK d n1 false):=by kernel_rfl
theorem TH (d:Nat) (x1:t1):BT (d+1) x1 =
 Q1 (jP d x1.1) fun r2 =>
 aa (Nat.ble (((⟨#[99,108,97,115,115,32]⟩:ByteArray):ByteArray).size+r2.size) 9223372036854775807) (
 aa (Nat.ble (((((⟨#[99,108,97,115,115,32]⟩:ByteArray):ByteArray)++r2):ByteArray).size+((⟨#[32,114,97,116,101,32]⟩:ByteArray):ByteArray).size) 9223372036854775807) (
 Q1 (qe d x1.2.2.1) fun r3 =>
 aa (Nat.ble (((((((⟨#[99,108,97,115,115,32]⟩:ByteArray):ByteArray)++r2):ByteArray)++((⟨#[32,114,97,116,101,32]⟩:ByteArray):ByteArray)):ByteArray).size+r3.size) 9223372036854775807) (
 aa (Nat.ble (((((((((⟨#[99,108,97,115,115,32]⟩:ByteArray):ByteArray)++r2):ByteArray)++((⟨#[32,114,97,116,101,32]⟩:ByteArray):ByteArray)):ByteArray)++r3):ByteArray).size+((⟨#[32,99,101,105,108,32]⟩:ByteArray):ByteArray).size) 9223372036854775807) (
 Q1 (qe d x1.2.2.2.1) fun r4 =>
 aa (Nat.ble (((((((((((⟨#[99,108,97,115,115,32]⟩:ByteArray):ByteArray)++r2):ByteArray)++((⟨#[32,114,97,116,101,32]⟩:ByteArray):ByteArray)):ByteArray)++r3):ByteArray)++((⟨#[32,99,101,105,108,32]⟩:ByteArray):ByteArray)):ByteArray).size+r4.size) 9223372036854775807) (
 aa (Nat.ble (((((((((((((⟨#[99,108,97,115,115,32]⟩:ByteArray):ByteArray)++r2):ByteArray)++((⟨#[32,114,97,116,101,32]⟩:ByteArray):ByteArray)):ByteArray)++r3):ByteArray)++((⟨#[32,99,101,105,108,32]⟩:ByteArray):ByteArray)):ByteArray)++r4):ByteArray).size+((⟨#[32,98,117,114,115,116,32]⟩:ByteArray):ByteArray).size) 9223372036854775807) (
 Q1 (qe d x1.2.2.2.2.1) fun r5 =>
 aa (Nat.ble (((((((((((((((⟨#[99,108,97,115,115,32]⟩:ByteArray):ByteArray)++r2):ByteArray)++((⟨#[32,114,97,116,101,32]⟩:ByteArray):ByteArray)):ByteArray)++r3):ByteArray)++((⟨#[32,99,101,105,108,32]⟩:ByteArray):ByteArray)):ByteArray)++r4):ByteArray)++((⟨#[32,98,117,114,115,116,32]⟩:ByteArray):ByteArray)):ByteArray).size+r5.size) 9223372036854775807) (
 aa (Nat.ble (((((((((((((((((⟨#[99,108,97,115,115,32]⟩:ByteArray):ByteArray)++r2):ByteArray)++((⟨#[32,114,97,116,101,32]⟩:ByteArray):ByteArray)):ByteArray)++r3):ByteArray)++((⟨#[32,99,101,105,108,32]⟩:ByteArray):ByteArray)):ByteArray)++r4):ByteArray)++((⟨#[32,98,117,114,115,116,32]⟩:ByteArray):ByteArray)):ByteArray)++r5):ByteArray).size+((⟨#[32,99,98,117,114,115,116,32]⟩:ByteArray):ByteArray).size) 9223372036854775807) (
 Q1 (qe d x1.2.2.2.2.2.1) fun r6 =>
 aa (Nat.ble (((((((((((((((((((⟨#[99,108,97,115,115,32]⟩:ByteArray):ByteArray)++r2):ByteArray)++((⟨#[32,114,97,116,101,32]⟩:ByteArray):ByteArray)):ByteArray)++r3):ByteArray)++((⟨#[32,99,101,105,108,32]⟩:ByteArray):ByteArray)):ByteArray)++r4):ByteArray)++((⟨#[32,98,117,114,115,116,32]⟩:ByteArray):ByteArray)):ByteArray)++r5):ByteArray)++((⟨#[32,99,98,117,114,115,116,32]⟩:ByteArray):ByteArray)):ByteArray).size+r6.size) 9223372036854775807) (
 aa (Nat.ble (((((((((((((((((((((⟨#[99,108,97,115,115,32]⟩:ByteArray):ByteArray)++r2):ByteArray)++((⟨#[32,114,97,116,101,32]⟩:ByteArray):ByteArray)):ByteArray)++r3):ByteArray)++((⟨#[32,99,101,105,108,32]⟩:ByteArray):ByteArray)):ByteArray)++r4):ByteArray)++((⟨#[32,98,117,114,115,116,32]⟩:ByteArray):ByteArray)):ByteArray)++r5):ByteArray)++((⟨#[32,99,98,117,114,115,116,32]⟩:ByteArray):ByteArray)):ByteArray)++r6):ByteArray).size+((⟨#[32,112,114,105,111,32]⟩:ByteArray):ByteArray).size) 9223372036854775807) (
 Q1 (jP d x1.2.2.2.2.2.2.1) fun r7 =>
 aa (Nat.ble (((((((((((((((((((((((⟨#[99,108,97,115,115,32]⟩:ByteArray):ByteArray)++r2):ByteArray)++((⟨#[32,114,97,116,101,32]⟩:ByteArray):ByteArray)):ByteArray)++r3):ByteArray)++((⟨#[32,99,101,105,108,32]⟩:ByteArray):ByteArray)):ByteArray)++r4):ByteArray)++((⟨#[32,98,117,114,115,116,32]⟩:ByteArray):ByteArray)):ByteArray)++r5):ByteArray)++((⟨#[32,99,98,117,114,115,116,32]⟩:ByteArray):ByteArray)):ByteArray)++r6):ByteArray)++((⟨#[32,112,114,105,111,32]⟩:ByteArray):ByteArray)):ByteArray).size+r7.size) 9223372036854775807) (
 some (((((((((((((((((((((((⟨#[99,108,97,115,115,32]⟩:ByteArray):ByteArray)++r2):ByteArray)++((⟨#[32,114,97,116,101,32]⟩:ByteArray):ByteArray)):ByteArray)++r3):ByteArray)++((⟨#[32,99,101,105,108,32]⟩:ByteArray):ByteArray)):ByteArray)++r4):ByteArray)++((⟨#[32,98,117,114,115,116,32]⟩:ByteArray):ByteArray)):ByteArray)++r5):ByteArray)++((⟨#[32,99,98,117,114,115,116,32]⟩:ByteArray):ByteArray)):ByteArray)++r6):ByteArray)++((⟨#[32,112,114,105,111,32]⟩:ByteArray):ByteArray)):ByteArray)++r7)) none) none) none) none) none) none) none) none) none) none) none:=by kernel_rfl
noncomputable def lM (d:Nat) (n2:Int) (s6:ByteArray) (l7:List t1) (l8:List t5) (n9:Int) (l10:List ByteArray) (kY Dv fS:List Int):Option t6 :=
 aa (decide (0<=n2)) (
 aa (Nat.blt (n2.toNat) fS.length) (
 Q1 (fS[n2.toNat]?) fun nq =>
 some ((s6,l7,l8,n9),l10,kY,Dv,(fS.set (n2.toNat) (l10.length:Int)))) none) none
noncomputable def yq (d:Nat) (n2 n3:Int) (s15:ByteArray) (pI:List t1) (gh:List t5) (eK:Int) (gT:List ByteArray) (dW eP Fv:List Int):Option t6 :=
 Q1 (nB d ((s15,pI,gh,eK),gT,dW,eP,Fv) n3 (⟨#[125]⟩:ByteArray)) fun vE =>
 lM d n2 vE.1.1 vE.1.2.1 vE.1.2.2.1 vE.1.2.2.2 vE.2.1 vE.2.2.1 vE.2.2.2.1 vE.2.2.2.2
noncomputable def qf (d:Nat) (n3:Int) (tH:List Int) (uo:ByteArray->(List t1)->(List t5)->Int->(List ByteArray)->(List Int)->(List Int)->(List Int)->Option t6) (iz:(Int×t6)->Option t6) (s:(Int×t6)):Option t6 :=
(fun gD (ou:t6) =>
 aa (decide (gD < (tH.length:Int))) (
 aa (decide (0<=gD)) (
 aa (Nat.blt (gD.toNat) tH.length) (
 Q1 (tH[gD.toNat]?) fun eD =>
 Q1 (BU d ou eD (i64.wrap (n3+1))) fun BL =>
 iz ((i64.wrap (gD+1)),BL)) none) none) (
 uo ou.1.1 ou.1.2.1 ou.1.2.2.1 ou.1.2.2.2 ou.2.1 ou.2.2.1 ou.2.2.2.1 ou.2.2.2.2)) s.1 s.2
theorem TI (d:Nat) (x1:t6) (n2 n3:Int):BU (d+1) x1 n2 n3 =
 aa (decide (0<=n2)) (
 Q1 (x1.1.2.1[n2.toNat]?) fun x4 =>
 aa (Nat.ble ((x1.2.2.1.length+[n2].length)*8) Q7) (
 Q1 (tT d x1.1 n2) fun r5 =>
 aa r5 (
 Q1 (BT d x4) fun r6 =>
 aa (Nat.ble (r6.size+((⟨#[32,108,105,109,105,116,32]⟩:ByteArray):ByteArray).size) 9223372036854775807) (
 Q1 (qe d x4.2.2.2.2.2.2.2) fun r7 =>
 aa (Nat.ble (((r6++((⟨#[32,108,105,109,105,116,32]⟩:ByteArray):ByteArray)):ByteArray).size+r7.size) 9223372036854775807) (
 aa (Nat.ble (((((r6++((⟨#[32,108,105,109,105,116,32]⟩:ByteArray):ByteArray)):ByteArray)++r7):ByteArray).size+((⟨#[59]⟩:ByteArray):ByteArray).size) 9223372036854775807) (
 Q1 (nB d (x1.1,x1.2.1,(x1.2.2.1++[n2]),x1.2.2.2) n3 (((((r6++((⟨#[32,108,105,109,105,116,32]⟩:ByteArray):ByteArray)):ByteArray)++r7):ByteArray)++((⟨#[59]⟩:ByteArray):ByteArray))) fun r8 =>
 aa (decide (0<=n2)) (
 aa (Nat.blt (n2.toNat) r8.2.2.2.1.length) (
 Q1 (r8.2.2.2.1[n2.toNat]?) fun n9 =>
 lM d n2 r8.1.1 r8.1.2.1 r8.1.2.2.1 r8.1.2.2.2 r8.2.1 r8.2.2.1 (r8.2.2.2.1.set (n2.toNat) (r8.2.1.length:Int)) r8.2.2.2.2) none) none) none) none) none) (
 Q1 (BT d x4) fun de =>
 aa (Nat.ble (de.size+((⟨#[32,123]⟩:ByteArray):ByteArray).size) 9223372036854775807) (
 Q1 (nB d (x1.1,x1.2.1,(x1.2.2.1++[n2]),x1.2.2.2) n3 (de++((⟨#[32,123]⟩:ByteArray):ByteArray))) fun gU =>
 aa (decide (0<=n2)) (
 aa (Nat.blt (n2.toNat) gU.2.2.2.1.length) (
 Q1 (gU.2.2.2.1[n2.toNat]?) fun tG =>
 Q1 (xN d gU.1 n2) fun tH =>
 Q8 (qf d n3 tH (yq d n2 n3)) Qd (0,(gU.1,gU.2.1,gU.2.2.1,(gU.2.2.2.1.set (n2.toNat) (gU.2.1.length:Int)),gU.2.2.2.2))) none) none) none)) none) none:=by kernel_rfl
noncomputable def uq (d:Nat) (n3:Int):Option Int :=
 some (-1)
noncomputable def gX (d:Nat) (x1:t3) (lN:Int->Option Int) (bV:t10->Option Int) (s:t10):Option Int :=
(fun n3 n4 =>
 aa (decide (n4 < (x1.2.1.length:Int))) (
 aa (decide (0<=n4)) (
 Q1 (x1.2.1[n4.toNat]?) fun x5 =>
 aa (x5.2.1==0) (
 some n4) (
 bV (n3,(i64.wrap (n4+1))))) none) (
 lN n3)) s.1 s.2
theorem TJ (d:Nat) (x1:t3):Gf (d+3) x1 =
 Q8 (gX d x1 (uq d)) Qd (0,0):=by kernel_rfl
noncomputable def lO (d:Nat) (s4:ByteArray):Option (ByteArray×Bool) :=
 aa (Nat.ble (((⟨#[48,120]⟩:ByteArray):ByteArray).size+s4.size) 9223372036854775807) (
 some ((((⟨#[48,120]⟩:ByteArray):ByteArray)++s4),true)) none
noncomputable def jf (d:Nat) (fA:ByteArray->Option (ByteArray×Bool)) (bM:(Int×ByteArray)->Option (ByteArray×Bool)) (n4:Int) (s5:ByteArray) (b6 b7:Bool):Option (ByteArray×Bool) :=
 aa b7 (
 aa (decide (0<=((i64.wrap ((i64.wrap ((BitVec.ofInt i64.bits n4 &&& BitVec.ofInt i64.bits 15).toNat:Int))+1)):Int))) (
 aa (decide (0<=((i64.wrap ((BitVec.ofInt i64.bits n4 &&& BitVec.ofInt i64.bits 15).toNat:Int)):Int))) (
 aa (Nat.ble (((i64.wrap ((BitVec.ofInt i64.bits n4 &&& BitVec.ofInt i64.bits 15).toNat:Int)):Int).toNat) (((i64.wrap ((i64.wrap ((BitVec.ofInt i64.bits n4 &&& BitVec.ofInt i64.bits 15).toNat:Int))+1)):Int).toNat)&&Nat.ble (((i64.wrap ((i64.wrap ((BitVec.ofInt i64.bits n4 &&& BitVec.ofInt i64.bits 15).toNat:Int))+1)):Int).toNat) ((⟨#[48,49,50,51,52,53,54,55,56,57,97,98,99,100,101,102]⟩:ByteArray):ByteArray).size) (
 aa (Nat.ble (((((⟨#[48,49,50,51,52,53,54,55,56,57,97,98,99,100,101,102]⟩:ByteArray):ByteArray).extract (((i64.wrap ((BitVec.ofInt i64.bits n4 &&& BitVec.ofInt i64.bits 15).toNat:Int)):Int).toNat) (((i64.wrap ((i64.wrap ((BitVec.ofInt i64.bits n4 &&& BitVec.ofInt i64.bits 15).toNat:Int))+1)):Int).toNat)):ByteArray).size+s5.size) 9223372036854775807) (
 bM ((n4.fdiv (2 ^ (min (4:Int).toNat i64.bits))),(((((⟨#[48,49,50,51,52,53,54,55,56,57,97,98,99,100,101,102]⟩:ByteArray):ByteArray).extract (((i64.wrap ((BitVec.ofInt i64.bits n4 &&& BitVec.ofInt i64.bits 15).toNat:Int)):Int).toNat) (((i64.wrap ((i64.wrap ((BitVec.ofInt i64.bits n4 &&& BitVec.ofInt i64.bits 15).toNat:Int))+1)):Int).toNat)):ByteArray)++s5))) none) none) none) none) (
 fA s5)
noncomputable def yt (d:Nat) (fA:ByteArray->Option (ByteArray×Bool)) (bM:(Int×ByteArray)->Option (ByteArray×Bool)) (s:(Int×ByteArray)):Option (ByteArray×Bool) :=
(fun n4 s5 =>
 aa (decide (n4 > 0)) (
 jf d fA bM n4 s5 true true) (
 jf d fA bM n4 s5 false (s5.toList==((⟨#[]⟩:ByteArray):ByteArray).toList))) s.1 s.2
noncomputable def qg (d:Nat) (n1:Int) (b2:Bool):Option (ByteArray×Bool) :=
 aa b2 (
 some ((⟨#[]⟩:ByteArray),false)) (
 Q8 (yt d (lO d)) Qd (n1,(⟨#[]⟩:ByteArray)))
theorem TK (d:Nat) (n1:Int):KN (d+1) n1 =
 aa (decide (n1 < 0)) (
 qg d n1 true) (
 qg d n1 (decide (n1 > 4294967295))):=by kernel_rfl
theorem TL (d:Nat) (n1:Int):BV (d+1) n1 =
 aa (decide (n1 < 0)) (
 some ((⟨#[]⟩:ByteArray),false)) (
 aa (decide (n1 > 65535)) (
 some ((⟨#[]⟩:ByteArray),false)) (
 Q1 (KN d n1) fun r2 =>
 some (r2.1,r2.2))):=by kernel_rfl
theorem TN (d:Nat):KO (d+1) =
 some [(⟨#[115,111,117,114,99,101]⟩:ByteArray),(⟨#[100,101,115,116]⟩:ByteArray),(⟨#[112,111,114,116]⟩:ByteArray),(⟨#[109,97,114,107]⟩:ByteArray)]:=by kernel_rfl
theorem TO (d:Nat) (x1:t5):Gg (d+1) x1 =
 Q1 (BV d x1.2.2.2.1) fun r2 =>
 Q1 (BV d x1.2.2.1) fun r3 =>
 Q1 (jP d x1.1) fun r4 =>
 aa (Nat.ble (((⟨#[102,105,108,116,101,114,32]⟩:ByteArray):ByteArray).size+r4.size) 9223372036854775807) (
 aa (Nat.ble (((((⟨#[102,105,108,116,101,114,32]⟩:ByteArray):ByteArray)++r4):ByteArray).size+((⟨#[32]⟩:ByteArray):ByteArray).size) 9223372036854775807) (
 Q1 (KO d) fun r5 =>
 aa (decide (0<=x1.2.1)) (
 aa (Nat.blt (x1.2.1.toNat) r5.length) (
 Q1 (r5[x1.2.1.toNat]?) fun s6 =>
 aa (Nat.ble (((((((⟨#[102,105,108,116,101,114,32]⟩:ByteArray):ByteArray)++r4):ByteArray)++((⟨#[32]⟩:ByteArray):ByteArray)):ByteArray).size+s6.size) 9223372036854775807) (
 aa (Nat.ble (((((((((⟨#[102,105,108,116,101,114,32]⟩:ByteArray):ByteArray)++r4):ByteArray)++((⟨#[32]⟩:ByteArray):ByteArray)):ByteArray)++s6):ByteArray).size+((⟨#[32]⟩:ByteArray):ByteArray).size) 9223372036854775807) (
 aa (Nat.ble (((((((((((⟨#[102,105,108,116,101,114,32]⟩:ByteArray):ByteArray)++r4):ByteArray)++((⟨#[32]⟩:ByteArray):ByteArray)):ByteArray)++s6):ByteArray)++((⟨#[32]⟩:ByteArray):ByteArray)):ByteArray).size+r2.1.size) 9223372036854775807) (
 aa (Nat.ble (((((((((((((⟨#[102,105,108,116,101,114,32]⟩:ByteArray):ByteArray)++r4):ByteArray)++((⟨#[32]⟩:ByteArray):ByteArray)):ByteArray)++s6):ByteArray)++((⟨#[32]⟩:ByteArray):ByteArray)):ByteArray)++r2.1):ByteArray).size+((⟨#[32,47,32]⟩:ByteArray):ByteArray).size) 9223372036854775807) (
 aa (Nat.ble (((((((((((((((⟨#[102,105,108,116,101,114,32]⟩:ByteArray):ByteArray)++r4):ByteArray)++((⟨#[32]⟩:ByteArray):ByteArray)):ByteArray)++s6):ByteArray)++((⟨#[32]⟩:ByteArray):ByteArray)):ByteArray)++r2.1):ByteArray)++((⟨#[32,47,32]⟩:ByteArray):ByteArray)):ByteArray).size+r3.1.size) 9223372036854775807) (
 aa (Nat.ble (((((((((((((((((⟨#[102,105,108,116,101,114,32]⟩:ByteArray):ByteArray)++r4):ByteArray)++((⟨#[32]⟩:ByteArray):ByteArray)):ByteArray)++s6):ByteArray)++((⟨#[32]⟩:ByteArray):ByteArray)):ByteArray)++r2.1):ByteArray)++((⟨#[32,47,32]⟩:ByteArray):ByteArray)):ByteArray)++r3.1):ByteArray).size+((⟨#[32,45,62,32]⟩:ByteArray):ByteArray).size) 9223372036854775807) (
 Q1 (jP d x1.2.2.2.2) fun r7 =>
 aa (Nat.ble (((((((((((((((((((⟨#[102,105,108,116,101,114,32]⟩:ByteArray):ByteArray)++r4):ByteArray)++((⟨#[32]⟩:ByteArray):ByteArray)):ByteArray)++s6):ByteArray)++((⟨#[32]⟩:ByteArray):ByteArray)):ByteArray)++r2.1):ByteArray)++((⟨#[32,47,32]⟩:ByteArray):ByteArray)):ByteArray)++r3.1):ByteArray)++((⟨#[32,45,62,32]⟩:ByteArray):ByteArray)):ByteArray).size+r7.size) 9223372036854775807) (
 aa (Nat.ble (((((((((((((((((((((⟨#[102,105,108,116,101,114,32]⟩:ByteArray):ByteArray)++r4):ByteArray)++((⟨#[32]⟩:ByteArray):ByteArray)):ByteArray)++s6):ByteArray)++((⟨#[32]⟩:ByteArray):ByteArray)):ByteArray)++r2.1):ByteArray)++((⟨#[32,47,32]⟩:ByteArray):ByteArray)):ByteArray)++r3.1):ByteArray)++((⟨#[32,45,62,32]⟩:ByteArray):ByteArray)):ByteArray)++r7):ByteArray).size+((⟨#[59]⟩:ByteArray):ByteArray).size) 9223372036854775807) (
 some (((((((((((((((((((((⟨#[102,105,108,116,101,114,32]⟩:ByteArray):ByteArray)++r4):ByteArray)++((⟨#[32]⟩:ByteArray):ByteArray)):ByteArray)++s6):ByteArray)++((⟨#[32]⟩:ByteArray):ByteArray)):ByteArray)++r2.1):ByteArray)++((⟨#[32,47,32]⟩:ByteArray):ByteArray)):ByteArray)++r3.1):ByteArray)++((⟨#[32,45,62,32]⟩:ByteArray):ByteArray)):ByteArray)++r7):ByteArray)++((⟨#[59]⟩:ByteArray):ByteArray))) none) none) none) none) none) none) none) none) none) none) none) none:=by kernel_rfl
noncomputable def yu (d:Nat) (x1:t3) (dW:List t10) (Zv:ByteArray) (KP:Int) (Zw:List t1) (yw yx KQ Ol:List Int) (Zx:List t5) (Zy:List Int):Option t0 :=
 aa (x1.2.2.2 != 0) (
 some (Zv,Zw,yw,yx,KQ,Ol,Zx,Zy,((eC dW x1.2.2.2).getD 0))) (
 some (Zv,Zw,yw,yx,KQ,Ol,Zx,Zy,KP))
noncomputable def rG (d:Nat) (x1:t3) (dW:List t10) (yy:ByteArray->Int->(List t1)->(List Int)->(List Int)->(List Int)->(List Int)->(List t5)->(List Int)->Option t0) (TP:(Int×t0)->Option t0) (s:(Int×t0)):Option t0 :=
(fun IB (lP:t0) =>
 aa (decide (IB < (x1.2.2.1.length:Int))) (
 aa (decide (0<=IB)) (
 Q1 (x1.2.2.1[IB.toNat]?) fun Zz =>
 aa (Nat.ble ((lP.2.2.2.2.2.2.2.1.length+[((eC dW Zz.2.2.2.2).getD 0)].length)*8) Q7) (
 TP ((i64.wrap (IB+1)),(lP.1,lP.2.1,lP.2.2.1,lP.2.2.2.1,lP.2.2.2.2.1,lP.2.2.2.2.2.1,lP.2.2.2.2.2.2.1,(lP.2.2.2.2.2.2.2.1++[((eC dW Zz.2.2.2.2).getD 0)]),lP.2.2.2.2.2.2.2.2))) none) none) (
 yy lP.1 lP.2.2.2.2.2.2.2.2 lP.2.1 lP.2.2.1 lP.2.2.2.1 lP.2.2.2.2.1 lP.2.2.2.2.2.1 lP.2.2.2.2.2.2.1 lP.2.2.2.2.2.2.2.1)) s.1 s.2
noncomputable def yz (d:Nat) (x1:t3) (KR:ByteArray) (tC:Int) (dW:List t10) (eP:List t1) (Dx:List t5) (xy AP AQ nx SM:List Int):Option t0 :=
 Q8 (rG d x1 dW (yu d x1 dW)) Qd (0,(KR,eP,nx,AP,AQ,SM,Dx,xy,tC))
noncomputable def rH (d:Nat) (IC:List Int) (yA:(List Int)->Option t0) (KS:t11->Option t0) (s:t11):Option t0 :=
(fun gG (vC:List Int) =>
 aa (decide (gG>=0)) (
 aa (decide (0<=gG)) (
 aa (Nat.blt (gG.toNat) vC.length) (
 Q1 (vC[gG.toNat]?) fun IB =>
 aa (decide (0<=gG)) (
 aa (Nat.blt (gG.toNat) IC.length) (
 Q1 (IC[gG.toNat]?) fun KP =>
 aa (decide (KP>=0)) (
 aa (decide (0<=gG)) (
 aa (Nat.blt (gG.toNat) IC.length) (
 Q1 (IC[gG.toNat]?) fun BW =>
 aa (decide (0<=BW)) (
 aa (Nat.blt (BW.toNat) ((vC.set (gG.toNat) (i64.wrap (gG+1))).length)) (
 Q1 ((vC.set (gG.toNat) (i64.wrap (gG+1)))[BW.toNat]?) fun rI =>
 aa (decide (0<=gG)) (
 aa (Nat.blt (gG.toNat) ((vC.set (gG.toNat) (i64.wrap (gG+1))).length)) (
 Q1 ((vC.set (gG.toNat) (i64.wrap (gG+1)))[gG.toNat]?) fun n43 =>
 KS ((i64.wrap (gG - 1)),((vC.set (gG.toNat) (i64.wrap (gG+1))).set (gG.toNat) rI))) none) none) none) none) none) none) (
 KS ((i64.wrap (gG - 1)),(vC.set (gG.toNat) (i64.wrap (gG+1)))))) none) none) none) none) (
 yA vC)) s.1 s.2
noncomputable def DJ (d:Nat) (x1:t3) (KR:ByteArray) (tC:Int) (dW:List t10) (eP:List t1) (Dx:List t5) (xy IC AP AQ nx:List Int):Option t0 :=
 Q8 (rH d IC (yz d x1 KR tC dW eP Dx xy AP AQ nx)) Qd ((i64.wrap ((eP.length:Int) - 1)),(List.replicate ((eP.length:Int).toNat) (0:Int)))
noncomputable def rJ (d:Nat) (dW:List t10) (yB:(Int×(List Int)×(List Int)×(List Int)×(List Int))->Option t0) (j_:Int) (nx vF:List Int) (lQ:t1) (b41:Bool) (yw yx:List Int):Option t0 :=
 aa (decide (0<=(((eC dW lQ.2.1).getD 0):Int))) (
 aa (Nat.blt ((((eC dW lQ.2.1).getD 0):Int).toNat) vF.length) (
 Q1 (vF[(((eC dW lQ.2.1).getD 0):Int).toNat]?) fun n44 =>
 yB ((i64.wrap (j_+1)),yw,yx,(nx.set (j_.toNat) ((eC dW lQ.2.1).getD 0)),(vF.set ((((eC dW lQ.2.1).getD 0):Int).toNat) j_))) none) none
noncomputable def ke (d:Nat) (dW:List t10) (eP:List t1) (yC:(List Int)->(List Int)->(List Int)->(List Int)->Option t0) (yB:(Int×(List Int)×(List Int)×(List Int)×(List Int))->Option t0) (s:(Int×(List Int)×(List Int)×(List Int)×(List Int))):Option t0 :=
(fun j_ (AP:List Int) (AQ:List Int) (nx:List Int) (vF:List Int) =>
 aa (decide (j_ < (eP.length:Int))) (
 aa (decide (0<=j_)) (
 aa (Nat.blt (j_.toNat) eP.length) (
 Q1 (eP[j_.toNat]?) fun lQ =>
 aa (!((eC dW lQ.2.1).isSome)) (
 aa (decide (0<=j_)) (
 aa (Nat.blt (j_.toNat) nx.length) (
 Q1 (nx[j_.toNat]?) fun Y9 =>
 yB ((i64.wrap (j_+1)),AP,AQ,(nx.set (j_.toNat) (-1)),vF)) none) none) (
 aa (decide (0<=j_)) (
 aa (Nat.blt (j_.toNat) nx.length) (
 Q1 (nx[j_.toNat]?) fun IB =>
 aa (decide (0<=(((eC dW lQ.2.1).getD 0):Int))) (
 aa (Nat.blt ((((eC dW lQ.2.1).getD 0):Int).toNat) vF.length) (
 Q1 (vF[(((eC dW lQ.2.1).getD 0):Int).toNat]?) fun KP =>
 aa (decide (KP < 0)) (
 aa (decide (0<=(((eC dW lQ.2.1).getD 0):Int))) (
 aa (Nat.blt ((((eC dW lQ.2.1).getD 0):Int).toNat) AP.length) (
 Q1 (AP[(((eC dW lQ.2.1).getD 0):Int).toNat]?) fun BW =>
 rJ d dW yB j_ nx vF lQ true (AP.set ((((eC dW lQ.2.1).getD 0):Int).toNat) j_) AQ) none) none) (
 aa (decide (0<=(((eC dW lQ.2.1).getD 0):Int))) (
 aa (Nat.blt ((((eC dW lQ.2.1).getD 0):Int).toNat) vF.length) (
 Q1 (vF[(((eC dW lQ.2.1).getD 0):Int).toNat]?) fun rI =>
 aa (decide (0<=rI)) (
 aa (Nat.blt (rI.toNat) AQ.length) (
 Q1 (AQ[rI.toNat]?) fun n43 =>
 rJ d dW yB j_ nx vF lQ false AP (AQ.set (rI.toNat) j_)) none) none) none) none)) none) none) none) none)) none) none) (
 yC vF AP AQ nx)) s.1 s.2.1 s.2.2.1 s.2.2.2.1 s.2.2.2.2
noncomputable def nC (d:Nat) (x1:t3) (KR:ByteArray) (tC:Int) (dW:List t10) (eP:List t1) (Fv Kw w_ Iz:List Int) (Dx:List t5) (xy:List Int):Option t0 :=
 Q1 (yp (d+1) [(-1)] (eP.length:Int)) fun TQ =>
 Q1 (yp (d+1) [(-1)] (eP.length:Int)) fun KJ =>
 aa (decide (0<=(eP.length:Int))) (
 aa (decide (0<=(eP.length:Int))) (
 aa (Nat.ble ((eP.length:Int).toNat) ((eP.length:Int).toNat)&&Nat.ble (((eP.length:Int).toNat)*8) Q7) (
 aa (decide (0<=(eP.length:Int))) (
 aa (decide (0<=(eP.length:Int))) (
 aa (Nat.ble ((eP.length:Int).toNat) ((eP.length:Int).toNat)&&Nat.ble (((eP.length:Int).toNat)*8) Q7) (
 Q1 (yp (d+1) [(-1)] (eP.length:Int)) fun TS =>
 Q8 (ke d dW eP (DJ d x1 KR tC dW eP Dx xy)) Qd (0,TQ,KJ,(List.replicate ((eP.length:Int).toNat) (0:Int)),TS)) none) none) none) none) none) none
noncomputable def rK (d:Nat) (x1:t3) (oV:t6) (yD:ByteArray->Int->(List t10)->(List t1)->(List Int)->(List Int)->(List Int)->(List Int)->(List t5)->(List Int)->Option t0) (Gb:(Int×t0×(List (List (List t10))))->Option t0) (s:(Int×t0×(List (List (List t10))))):Option t0 :=
(fun eK (nk:t0) (dW:List (List (List t10))) =>
 aa (decide (eK < (oV.2.2.1.length:Int))) (
 aa (decide (0<=eK)) (
 aa (Nat.blt (eK.toNat) oV.2.2.1.length) (
 Q1 (oV.2.2.1[eK.toNat]?) fun oZ =>
 aa (decide (0<=oZ)) (
 Q1 (x1.2.1[oZ.toNat]?) fun Tt =>
 aa (Nat.ble ((nk.2.1.length+[Tt].length)*64) Q7) (
 aa (decide (0<=oZ)) (
 Q1 (x1.2.1[oZ.toNat]?) fun Zu =>
 Gb ((i64.wrap (eK+1)),(nk.1,(nk.2.1++[Tt]),nk.2.2),([[(gO (BX dW) Zu.1 eK)]]:List (List (List t10))))) none) none) none) none) none) (
 yD nk.1 nk.2.2.2.2.2.2.2.2 (BX dW) nk.2.1 nk.2.2.1 nk.2.2.2.1 nk.2.2.2.2.1 nk.2.2.2.2.2.1 nk.2.2.2.2.2.2.1 nk.2.2.2.2.2.2.2.1)) s.1 s.2.1 s.2.2
noncomputable def kg (d:Nat) (x1:t3) (r2:List t5) (s8:ByteArray) (l9:List t1) (l10:List t5) (iy:Int) (Dv:List ByteArray) (fS j8 ig:List Int):Option t0 :=
 Q1 (nB d ((s8,l9,l10,iy),Dv,fS,j8,ig) 0 (⟨#[125]⟩:ByteArray)) fun oV =>
 Q8 (rK d x1 oV (nC d x1)) Qd (0,(x1.1,[],[],[],[],[],r2,[],(-1)),([[([]:List t10)]]:List (List (List t10))))
noncomputable def gY (d:Nat) (x1:t3) (lR:ByteArray->(List t1)->(List t5)->Int->(List ByteArray)->(List Int)->(List Int)->(List Int)->Option t0) (Ti:(Int×t6)->Option t0) (s:(Int×t6)):Option t0 :=
(fun n8 (x9:t6) =>
 aa (decide (n8 < (x1.2.2.1.length:Int))) (
 aa (decide (0<=n8)) (
 Q1 (x1.2.2.1[n8.toNat]?) fun aR =>
 Q1 (Gg d aR) fun gU =>
 Q1 (nB d x9 1 gU) fun j6 =>
 Ti ((i64.wrap (n8+1)),j6)) none) (
 lR x9.1.1 x9.1.2.1 x9.1.2.2.1 x9.1.2.2.2 x9.2.1 x9.2.2.1 x9.2.2.2.1 x9.2.2.2.2)) s.1 s.2
noncomputable def fB (d:Nat) (x1:t3) (r2:List t5) (s3:ByteArray):Option t0 :=
 aa (Nat.ble (s3.size+((⟨#[32,123]⟩:ByteArray):ByteArray).size) 9223372036854775807) (
 Q1 (nB d (x1,[],[],(List.replicate ((x1.2.1.length:Int).toNat) (0:Int)),(List.replicate ((x1.2.1.length:Int).toNat) (0:Int))) 0 (s3++((⟨#[32,123]⟩:ByteArray):ByteArray))) fun r4 =>
 Q1 (Gf d x1) fun r5 =>
 Q1 (BU d r4 r5 1) fun r6 =>
 Q8 (gY d x1 (kg d x1 r2)) Qd (0,r6)) none
theorem e95 (d:Nat) (x1:t3):Om (d+2) x1 =
 Q1 (Oj (d+1) x1.2.2.1) fun r2 =>
 aa (decide (0<=(x1.2.1.length:Int))) (
 aa (decide (0<=(x1.2.1.length:Int))) (
 aa (Nat.ble ((x1.2.1.length:Int).toNat) ((x1.2.1.length:Int).toNat)&&Nat.ble (((x1.2.1.length:Int).toNat)*8) Q7) (
 aa (decide (0<=(x1.2.1.length:Int))) (
 aa (decide (0<=(x1.2.1.length:Int))) (
 aa (Nat.ble ((x1.2.1.length:Int).toNat) ((x1.2.1.length:Int).toNat)&&Nat.ble (((x1.2.1.length:Int).toNat)*8) Q7) (
 aa (Nat.ble (((⟨#[113,100,105,115,99,32]⟩:ByteArray):ByteArray).size+x1.1.size) 9223372036854775807) (
 aa (x1.2.2.2 != 0) (
 Q1 (jP d x1.2.2.2) fun r3 =>
 aa (Nat.ble (((⟨#[32,100,101,102,97,117,108,116,32]⟩:ByteArray):ByteArray).size+r3.size) 9223372036854775807) (
 aa (Nat.ble (((((⟨#[113,100,105,115,99,32]⟩:ByteArray):ByteArray)++x1.1):ByteArray).size+((((⟨#[32,100,101,102,97,117,108,116,32]⟩:ByteArray):ByteArray)++r3):ByteArray).size) 9223372036854775807) (
 fB d x1 r2 (((((⟨#[113,100,105,115,99,32]⟩:ByteArray):ByteArray)++x1.1):ByteArray)++((((⟨#[32,100,101,102,97,117,108,116,32]⟩:ByteArray):ByteArray)++r3):ByteArray))) none) none) (
 fB d x1 r2 (((⟨#[113,100,105,115,99,32]⟩:ByteArray):ByteArray)++x1.1))) none) none) none) none) none) none) none:=by kernel_rfl
noncomputable def Gh (d:Nat) (b4:Bool):Option Bool :=
 some true
noncomputable def qh (d:Nat) (l1 l2:List t1) (ur:Bool->Option Bool) (bM:t9->Option Bool) (s:t9):Option Bool :=
(fun (b4:Bool) n5 =>
 aa (decide (n5 < (l1.length:Int))) (
 aa (decide (0<=n5)) (
 Q1 (l1[n5.toNat]?) fun x6 =>
 aa (decide (0<=n5)) (
 Q1 (l2[n5.toNat]?) fun x7 =>
 aa (!((x6.1==x7.1)&&((x6.2.1==x7.2.1)&&((x6.2.2.1==x7.2.2.1)&&((x6.2.2.2.1==x7.2.2.2.1)&&((x6.2.2.2.2.1==x7.2.2.2.2.1)&&((x6.2.2.2.2.2.1==x7.2.2.2.2.2.1)&&((x6.2.2.2.2.2.2.1==x7.2.2.2.2.2.2.1)&&((x6.2.2.2.2.2.2.2==x7.2.2.2.2.2.2.2)&&true))))))))) (
 some false) (
 bM (b4,(i64.wrap (n5+1))))) none) none) (
 ur b4)) s.1 s.2
theorem TT (d:Nat) (l1 l2:List t1):Gi (d+1) l1 l2 =
 aa ((l1.length:Int) != (l2.length:Int)) (
 some false) (
 Q8 (qh d l1 l2 (Gh d)) Qd (false,0)):=by kernel_rfl
noncomputable def Gj (d:Nat) (b4:Bool):Option Bool :=
 some true
noncomputable def qi (d:Nat) (l1 l2:List Int) (uu:Bool->Option Bool) (bM:t9->Option Bool) (s:t9):Option Bool :=
(fun (b4:Bool) n5 =>
 aa (decide (n5 < (l1.length:Int))) (
 aa (decide (0<=n5)) (
 Q1 (l1[n5.toNat]?) fun n6 =>
 aa (decide (0<=n5)) (
 Q1 (l2[n5.toNat]?) fun n7 =>
 aa (n6 != n7) (
 some false) (
 bM (b4,(i64.wrap (n5+1))))) none) none) (
 uu b4)) s.1 s.2
theorem TU (d:Nat) (l1 l2:List Int):qj (d+1) l1 l2 =
 aa ((l1.length:Int) != (l2.length:Int)) (
 some false) (
 Q8 (qi d l1 l2 (Gj d)) Qd (false,0)):=by kernel_rfl
noncomputable def yE (d:Nat) (x1:t0) (b2:Bool):Option Bool :=
 aa b2 (
 some false) (
 Q1 (Tz d x1) fun r3 =>
 Q1 (Oi d r3) fun r4 =>
 aa (!r4) (
 some false) (
 Q1 (Om d r3) fun r5 =>
 Q1 (Gi d x1.2.1 r5.2.1) fun r6 =>
 aa r6 (
 Q1 (qj d x1.2.2.1 r5.2.2.1) fun r7 =>
 aa r7 (
 Q1 (qj d x1.2.2.2.1 r5.2.2.2.1) fun r8 =>
 aa r8 (
 Q1 (qj d x1.2.2.2.2.1 r5.2.2.2.2.1) fun r9 =>
 aa r9 (
 Q1 (qj d x1.2.2.2.2.2.1 r5.2.2.2.2.2.1) fun de =>
 aa de (
 Q1 (qj d x1.2.2.2.2.2.2.2.1 r5.2.2.2.2.2.2.2.1) fun gU =>
 aa gU (
 some (x1.2.2.2.2.2.2.2.2==r5.2.2.2.2.2.2.2.2)) (
 some false)) (
 some false)) (
 some false)) (
 some false)) (
 some false)) (
 some false)))
theorem e87 (d:Nat) (x1:t0):TW (d+1) x1 =
 aa (decide ((x1.2.1.length:Int) > 24)) (
 yE d x1 true) (
 yE d x1 (decide ((x1.2.2.2.2.2.2.1.length:Int) > 16))):=by kernel_rfl
noncomputable def KT (d:Nat) (b5:Bool):Option Bool :=
 some true
noncomputable def nD (d:Nat) (ja:t9->Option Bool) (b5:Bool) (n6 n8 n9:Int) (Ku AM Ob vw b14 Y5 Y6:Bool):Option Bool :=
 aa Y6 (
 some false) (
 ja (b5,(i64.wrap (n6+1))))
noncomputable def yF (d:Nat) (x1:t0) (x2:t7) (yG:Bool->Option Bool) (ja:t9->Option Bool) (s:t9):Option Bool :=
(fun (b5:Bool) n6 =>
 aa (decide (n6 < (x1.2.1.length:Int))) (
 aa (decide (0<=n6)) (
 Q1 (x1.2.1[n6.toNat]?) fun x7 =>
 aa (decide (0<=n6)) (
 Q1 (x2.1[n6.toNat]?) fun n8 =>
 aa (decide (n8 < 0)) (
 nD d ja b5 n6 n8 n8 (decide (n8 < 0)) true true true true true true) (
 aa (decide (0<=n6)) (
 Q1 (x2.1[n6.toNat]?) fun n9 =>
 aa (decide (n9 > x7.2.2.2.2.1)) (
 nD d ja b5 n6 n8 n8 (decide (n8 < 0)) false (decide (n9 > x7.2.2.2.2.1)) true true true true) (
 aa (decide (0<=n6)) (
 Q1 (x2.2[n6.toNat]?) fun dV =>
 aa (decide (dV < 0)) (
 nD d ja b5 n6 n8 n8 (decide (n8 < 0)) false (decide (n9 > x7.2.2.2.2.1)) false (decide (dV < 0)) true true) (
 aa (decide (0<=n6)) (
 Q1 (x2.2[n6.toNat]?) fun iy =>
 nD d ja b5 n6 n8 n8 (decide (n8 < 0)) false (decide (n9 > x7.2.2.2.2.1)) false (decide (dV < 0)) false (decide (iy > x7.2.2.2.2.2.1))) none)) none)) none)) none) none) (
 yG b5)) s.1 s.2
noncomputable def yH (d:Nat) (x1:t0) (x2:t7) (b3:Bool):Option Bool :=
 aa b3 (
 some false) (
 Q8 (yF d x1 x2 (KT d)) Qd (false,0))
theorem e88 (d:Nat) (x1:t0) (x2:t7):TX (d+1) x1 x2 =
 aa ((x2.1.length:Int) != (x1.2.1.length:Int)) (
 yH d x1 x2 true) (
 yH d x1 x2 ((x2.2.length:Int) != (x1.2.1.length:Int))):=by kernel_rfl
noncomputable def KU (d:Nat) (l3:List Int):Option (List Int) :=
 some l3
noncomputable def yI (d:Nat) (x1:t0) (yJ:(List Int)->Option (List Int)) (bV:t15->Option (List Int)) (s:t15):Option (List Int) :=
(fun (l3:List Int) n4 =>
 aa (decide (n4 < (x1.2.1.length:Int))) (
 aa (decide (0<=n4)) (
 Q1 (x1.2.2.2.1[n4.toNat]?) fun n5 =>
 aa (decide (n5 < 0)) (
 aa (Nat.ble ((l3.length+[n4].length)*8) Q7) (
 bV ((l3++[n4]),(i64.wrap (n4+1)))) none) (
 bV (l3,(i64.wrap (n4+1))))) none) (
 yJ l3)) s.1 s.2
theorem e89 (d:Nat) (x1:t0):Di (d+1) x1 =
 Q8 (yI d x1 (KU d)) Qd (([]:List Int),0):=by kernel_rfl
theorem KY (d:Nat) (x1:t4):Gk (d+1) x1 =
 some (x1.2.1,x1.2.2.1,x1.2.2.2.1,x1.2.2.2.2.1):=by kernel_rfl
noncomputable def yK (d:Nat) (x1:t4) (b4:Bool):Option Bool :=
 aa (decide (x1.1>=1)) (
 aa (decide (x1.1<=100000)) (
 aa (decide (x1.2.2.2.2.2>=1)) (
 some (decide (x1.2.2.2.2.2<=1500))) (
 some false)) (
 some false)) (
 some false)
noncomputable def DK (d:Nat) (r2:(Int×Int×Int×Int)) (yL:Bool->Option Bool) (bM:t9->Option Bool) (s:t9):Option Bool :=
(fun (b4:Bool) n5 =>
 aa (decide (n5 < 4)) (
 aa (decide (0<=n5)) (
 Q1 (([r2.1,r2.2.1,r2.2.2.1,r2.2.2.2]:List Int)[n5.toNat]?) fun n6 =>
 aa (decide (n6 < 0)) (
 some false) (
 aa (decide (n6 > 65535)) (
 some false) (
 bM (b4,(i64.wrap (n5+1)))))) none) (
 yL b4)) s.1 s.2
theorem e90 (d:Nat) (x1:t4):On (d+1) x1 =
 Q1 (Gk d x1) fun r2 =>
 Q8 (DK d r2 (yK d x1)) Qd (false,0):=by kernel_rfl
theorem TY (d:Nat) (x1:t5) (x2:t4):Gl (d+1) x1 x2 =
 Q1 (Gk d x2) fun r3 =>
 aa (decide (0<=x1.2.1)) (
 Q1 (([r3.1,r3.2.1,r3.2.2.1,r3.2.2.2]:List Int)[x1.2.1.toNat]?) fun n4 =>
 some (((i64.wrap ((BitVec.ofInt i64.bits n4 &&& BitVec.ofInt i64.bits x1.2.2.1).toNat:Int)):Int)==x1.2.2.2.1)) none:=by kernel_rfl
noncomputable def Gm (d:Nat) (n4:Int):Option Int :=
 some (-1)
noncomputable def qk (d:Nat) (l1:List t5) (x2:t4) (uv:Int->Option Int) (bM:t10->Option Int) (s:t10):Option Int :=
(fun n4 n5 =>
 aa (decide (n5 < (l1.length:Int))) (
 aa (decide (0<=n5)) (
 Q1 (l1[n5.toNat]?) fun x6 =>
 Q1 (Gl d x6 x2) fun r7 =>
 aa r7 (
 some n5) (
 bM (n4,(i64.wrap (n5+1))))) none) (
 uv n4)) s.1 s.2
theorem TZ (d:Nat) (l1:List t5) (x2:t4):Gn (d+1) l1 x2 =
 Q8 (qk d l1 x2 (Gm d)) Qd (0,0):=by kernel_rfl
theorem e91 (d:Nat) (x1:t0) (x2:t4):Oo (d+1) x1 x2 =
 Q1 (Gn d x1.2.2.2.2.2.2.1 x2) fun r3 =>
 aa (decide (r3>=0)) (
 aa (decide (0<=r3)) (
 Q1 (x1.2.2.2.2.2.2.2.1[r3.toNat]?) fun n4 =>
 some n4) none) (
 some x1.2.2.2.2.2.2.2.2):=by kernel_rfl
noncomputable def jg (d:Nat) (n4:Int):Option Bool :=
 some (decide (((-1):Int)>=0))
noncomputable def dM (d:Nat) (l1:List t4) (n2:Int) (gm:Int->Option Bool) (bM:t10->Option Bool) (s:t10):Option Bool :=
(fun n4 n5 =>
 aa (decide (n5 < (l1.length:Int))) (
 aa (decide (0<=n5)) (
 Q1 (l1[n5.toNat]?) fun x6 =>
 aa (x6.1==n2) (
 some (decide (n5>=0))) (
 bM (n4,(i64.wrap (n5+1))))) none) (
 gm n4)) s.1 s.2
theorem T0 (d:Nat) (l1:List t4) (n2:Int):Gp (d+4) l1 n2 =
 Q8 (dM d l1 n2 (jg d)) Qd (0,0):=by kernel_rfl
noncomputable def KZ (d:Nat) (b3:Bool):Option Bool :=
 some true
noncomputable def yM (d:Nat) (l1:List t4) (yN:Bool->Option Bool) (bV:t9->Option Bool) (s:t9):Option Bool :=
(fun (b3:Bool) n4 =>
 aa (decide (n4 < (l1.length:Int))) (
 aa (decide (0<=n4)) (
 Q1 (l1[n4.toNat]?) fun x5 =>
 Q1 (On d x5) fun r6 =>
 aa (!r6) (
 some false) (
 aa (decide (0<=n4)) (
 aa (Nat.ble (n4.toNat) l1.length) (
 Q1 (Gp d (l1.take (n4.toNat)) x5.1) fun r7 =>
 aa r7 (
 some false) (
 bV (b3,(i64.wrap (n4+1))))) none) none)) none) (
 yN b3)) s.1 s.2
theorem e92 (d:Nat) (l1:List t4):T1 (d+1) l1 =
 Q8 (yM d l1 (KZ d)) Qd (false,0):=by kernel_rfl
noncomputable def DL (d:Nat) (l5:List t4):Option (List t4) :=
 some l5
noncomputable def rL (d:Nat) (l1:List (List t4)) (jh:(List t4)->Option (List t4)) (ja:((List t4)×Int)->Option (List t4)) (s:((List t4)×Int)):Option (List t4) :=
(fun (l5:List t4) n6 =>
 aa (decide (n6 < (l1.length:Int))) (
 aa (decide (0<=n6)) (
 Q1 (l1[n6.toNat]?) fun l7 =>
 aa (Nat.ble ((l5.length+l7.length)*48) Q7) (
 ja ((l5++l7),(i64.wrap (n6+1)))) none) none) (
 jh l5)) s.1 s.2
noncomputable def DM (d:Nat) (l9:List t4):Option (List t4) :=
 some l9
noncomputable def lS (d:Nat) (l1:List (List t4)) (jh:(List t4)->Option (List t4)) (xC:((List t4)×Int)->Option (List t4)) (s:((List t4)×Int)):Option (List t4) :=
(fun (l9:List t4) dV =>
 aa (decide (dV < (l1.length:Int))) (
 aa (decide (0<=dV)) (
 Q1 (l1[dV.toNat]?) fun kY =>
 aa (Nat.ble ((l9.length+kY.length)*48) Q7) (
 xC ((l9++kY),(i64.wrap (dV+1)))) none) none) (
 jh l9)) s.1 s.2
noncomputable def rM (d:Nat) (l1:List (List t4)) (n3:Int):Option (List t4) :=
 aa (decide (n3 < 0)) (
 none) (
 aa (decide (((i64.wrap (n3 - (i64.wrap ((0:Int) - ((0:Nat):Int))))):Int) > 0)) (
 aa (Nat.ble 0 0) (
 aa (decide (0<=((i64.wrap (n3 - (i64.wrap ((0:Int) - ((0:Nat):Int))))):Int))&&decide (((i64.wrap (n3 - (i64.wrap ((0:Int) - ((0:Nat):Int))))):Int)*((48:Nat):Int)<=(Q7:Int))) (
 aa (Nat.ble ((List.replicate ((i64.wrap (n3 - (i64.wrap ((0:Int) - ((0:Nat):Int))))):Int).toNat ((0,0,0,0,0,0):t4)).length*48) Q7) (
 aa (decide (0<=(((0:Nat):Int):Int))) (
 aa (Nat.ble ((((0:Nat):Int):Int).toNat) ((List.replicate ((i64.wrap (n3 - (i64.wrap ((0:Int) - ((0:Nat):Int))))):Int).toNat ((0,0,0,0,0,0):t4)).length)) (
 Q8 (rL d l1 (DL d)) Qd (((List.replicate ((i64.wrap (n3 - (i64.wrap ((0:Int) - ((0:Nat):Int))))):Int).toNat ((0,0,0,0,0,0):t4)).take ((((0:Nat):Int):Int).toNat)),0)) none) none) none) none) none) (
 Q8 (lS d l1 (DM d)) Qd ([],0)))
noncomputable def rN (d:Nat) (l1:List (List t4)) (yO:Int->Option (List t4)) (bV:t10->Option (List t4)) (s:t10):Option (List t4) :=
(fun n3 n4 =>
 aa (decide (n4 < (l1.length:Int))) (
 aa (decide (0<=n4)) (
 Q1 (l1[n4.toNat]?) fun l5 =>
 aa (decide (((i64.wrap (n3+(l5.length:Int))):Int) < 0)) (
 none) (
 bV ((i64.wrap (n3+(l5.length:Int))),(i64.wrap (n4+1))))) none) (
 yO n3)) s.1 s.2
theorem e93 (d:Nat) (l1:List (List t4)):T2 (d+2) l1 =
 Q8 (rN d l1 (rM d l1)) Qd (0,0):=by kernel_rfl
noncomputable def yP (d:Nat) (x1:t2) (b6:Bool):Option Bool :=
 Q1 (T2 d x1.2.2.1) fun r7 =>
 Q1 (T1 d r7) fun r8 =>
 some r8
noncomputable def DN (d:Nat) (gS:t9->Option Bool) (n7:Int) (vw:Bool) (nq:Int):Option Bool :=
 gS (vw,(i64.wrap (n7+1)))
noncomputable def yR (d:Nat) (x1:t2) (n8:Int) (kY:List t4) (yS:Bool->Int->Option Bool) (FG:t9->Option Bool) (s:t9):Option Bool :=
(fun (vw:Bool) nq =>
 aa (decide (nq < (kY.length:Int))) (
 aa (decide (0<=nq)) (
 Q1 (kY[nq.toNat]?) fun Tn =>
 Q1 (On d Tn) fun oV =>
 aa (!oV) (
 some false) (
 Q1 (Oo d x1.1 Tn) fun Fq =>
 aa (Fq != n8) (
 some false) (
 FG (vw,(i64.wrap (nq+1)))))) none) (
 yS vw nq)) s.1 s.2
noncomputable def yT (d:Nat) (x1:t2) (r3:List Int) (yU:Bool->Option Bool) (gS:t9->Option Bool) (s:t9):Option Bool :=
(fun (b6:Bool) n7 =>
 aa (decide (n7 < (r3.length:Int))) (
 aa (decide (0<=n7)) (
 aa (Nat.blt (n7.toNat) r3.length) (
 Q1 (r3[n7.toNat]?) fun n8 =>
 aa (decide (0<=n7)) (
 Q1 (x1.2.2.1[n7.toNat]?) fun l9 =>
 aa (decide (0<=n8)) (
 Q1 (x1.1.2.1[n8.toNat]?) fun aR =>
 aa (decide ((l9.length:Int) > aR.2.2.2.2.2.2.2)) (
 some false) (
 aa (decide (0<=n7)) (
 Q1 (x1.2.2.1[n7.toNat]?) fun kY =>
 Q8 (yR d x1 n8 kY (DN d gS n7)) Qd (b6,0)) none)) none) none) none) none) (
 yU b6)) s.1 s.2
noncomputable def ki (d:Nat) (x1:t2) (r3:List Int) (b4:Bool):Option Bool :=
 aa b4 (
 some false) (
 Q8 (yT d x1 r3 (yP d x1)) Qd (false,0))
noncomputable def yV (d:Nat) (x1:t2) (b2:Bool):Option Bool :=
 aa b2 (
 some false) (
 Q1 (Di d x1.1) fun r3 =>
 aa ((x1.2.2.1.length:Int) != (r3.length:Int)) (
 ki d x1 r3 true) (
 aa (decide (x1.2.2.2.1 < (-1))) (
 ki d x1 r3 true) (
 aa (decide (x1.2.2.2.1>=(r3.length:Int))) (
 ki d x1 r3 true) (
 aa (decide (x1.2.2.2.2 < 0)) (
 ki d x1 r3 true) (
 ki d x1 r3 (decide (x1.2.2.2.2 > 1000000)))))))
theorem e42 (d:Nat) (x1:t2):T3 (d+1) x1 =
 Q1 (TW d x1.1) fun r2 =>
 aa (!r2) (
 yV d x1 true) (
 Q1 (TX d x1.1 x1.2.1) fun r3 =>
 yV d x1 (!r3)):=by kernel_rfl
noncomputable def K0 (d:Nat) (l3 l4:List Int):Option t7 :=
 some (l3,l4)
noncomputable def yW (d:Nat) (x1:t0) (yX:(List Int)->(List Int)->Option t7) (bV:(Int×t7)->Option t7) (s:(Int×t7)):Option t7 :=
(fun n3 (x4:t7) =>
 aa (decide (n3 < (x1.2.1.length:Int))) (
 aa (decide (0<=n3)) (
 Q1 (x1.2.1[n3.toNat]?) fun x5 =>
 aa (Nat.ble ((x4.1.length+[x5.2.2.2.2.1].length)*8) Q7) (
 aa (Nat.ble ((x4.2.length+[x5.2.2.2.2.2.1].length)*8) Q7) (
 bV ((i64.wrap (n3+1)),((x4.1++[x5.2.2.2.2.1]),(x4.2++[x5.2.2.2.2.2.1])))) none) none) none) (
 yX x4.1 x4.2)) s.1 s.2
theorem e96 (d:Nat) (x1:t0):T4 (d+1) x1 =
 Q8 (yW d x1 (K0 d)) Qd (0,([],[])):=by kernel_rfl
noncomputable def uw (d:Nat) (x1:t2) (r3:t0) (l7 l8 l10:List Int) (kY:List (List t4)) (eD:Int):Option t8 :=
 some ((r3,(l7,l8),kY,(-1),x1.2.2.2.2),l10)
noncomputable def gR (d:Nat) (x1:t2) (r3:t0) (l7 l8 l10:List Int) (kY:List (List t4)) (mI:t1) (vz:List Int) (lT:Int->Option t8) (Fw:t10->Option t8) (s:t10):Option t8 :=
(fun eD eK =>
 aa (decide (eK < (vz.length:Int))) (
 aa (decide (0<=eK)) (
 aa (Nat.blt (eK.toNat) vz.length) (
 Q1 (vz[eK.toNat]?) fun tC =>
 aa (decide (0<=tC)) (
 aa (Nat.blt (tC.toNat) r3.2.1.length) (
 Q1 (r3.2.1[tC.toNat]?) fun BO =>
 aa (BO.1==mI.1) (
 some ((r3,(l7,l8),kY,eK,x1.2.2.2.2),l10)) (
 Fw (eD,(i64.wrap (eK+1))))) none) none) none) none) (
 lT eD)) s.1 s.2
noncomputable def wI (d:Nat) (x1:t2) (r3:t0) (l7 l8 l10:List Int) (kY:List (List t4)):Option t8 :=
 aa (decide (x1.2.2.2.1>=0)) (
 Q1 (Di (d+2) x1.1) fun j6 =>
 aa (decide (0<=x1.2.2.2.1)) (
 aa (Nat.blt (x1.2.2.2.1.toNat) j6.length) (
 Q1 (j6[x1.2.2.2.1.toNat]?) fun jM =>
 aa (decide (0<=jM)) (
 Q1 (x1.1.2.1[jM.toNat]?) fun mI =>
 Q1 (Di (d+2) r3) fun vz =>
 Q8 (gR d x1 r3 l7 l8 l10 kY mI vz (uw d x1 r3 l7 l8 l10 kY)) Qd (0,0)) none) none) none) (
 some ((r3,(l7,l8),kY,(-1),x1.2.2.2.2),l10))
noncomputable def Dn (d:Nat) (DI:t12->Option t8) (iy gD:Int) (pI:List Int) (gh:List (List t4)):Option t8 :=
 DI (pI,(i64.wrap (iy+1)),gh)
noncomputable def dI (d:Nat) (iz:t12->Option t8) (ig:List Int) (dL:Int) (fR:t4) (tC n20:Int) (eP:List (List t4)):Option t8 :=
 aa (tC != 1) (
 aa (Nat.ble ((ig.length+[fR.1].length)*8) Q7) (
 iz ((ig++[fR.1]),(i64.wrap (dL+1)),eP)) none) (
 iz (ig,(i64.wrap (dL+1)),eP))
noncomputable def rz (d:Nat) (r3:t0) (fS:List t4) (yY:Int->(List Int)->(List (List t4))->Option t8) (iz:t12->Option t8) (s:t12):Option t8 :=
(fun (ig:List Int) dL (gh:List (List t4)) =>
 aa (decide (dL < (fS.length:Int))) (
 aa (decide (0<=dL)) (
 Q1 (fS[dL.toNat]?) fun fR =>
 Q1 (Oo (d+1) r3 fR) fun vA =>
 aa (decide (vA < 0)) (
 dI d iz ig dL fR 3 0 gh) (
 aa (decide (0<=vA)) (
 aa (Nat.blt (vA.toNat) r3.2.1.length) (
 Q1 (r3.2.1[vA.toNat]?) fun BO =>
 Q1 (Di (d+1) r3) fun T5 =>
 Q1 (wu (d+1) T5 vA) fun ox =>
 aa (decide (0<=ox)) (
 aa (Nat.blt (ox.toNat) gh.length) (
 Q1 (gh[ox.toNat]?) fun Kw =>
 aa ((Kw.length:Int)==BO.2.2.2.2.2.2.2) (
 dI d iz ig dL fR 2 BO.1 gh) (
 aa (decide (0<=ox)) (
 aa (Nat.blt (ox.toNat) gh.length) (
 Q1 (gh[ox.toNat]?) fun w_ =>
 aa (Nat.ble ((w_.length+[fR].length)*48) Q7) (
 aa (decide (0<=ox)) (
 aa (Nat.blt (ox.toNat) gh.length) (
 aa (Nat.beq (ox.toNat) (ox.toNat)) (
 Q1 (gh[ox.toNat]?) fun Iz =>
 dI d iz ig dL fR 1 BO.1 (gh.set (ox.toNat) (w_++[fR]))) none) none) none) none) none) none)) none) none) none) none)) none) (
 yY dL ig gh)) s.1 s.2.1 s.2.2
noncomputable def rA (d:Nat) (x1:t2) (r3:t0) (yZ:(List Int)->(List (List t4))->Option t8) (DI:t12->Option t8) (s:t12):Option t8 :=
(fun (l10:List Int) iy (Dv:List (List t4)) =>
 aa (decide (iy < (x1.2.2.1.length:Int))) (
 aa (decide (0<=iy)) (
 Q1 (x1.2.2.1[iy.toNat]?) fun fS =>
 Q8 (rz d r3 fS (Dn d DI iy)) Qd (l10,0,Dv)) none) (
 yZ l10 Dv)) s.1 s.2.1 s.2.2
noncomputable def Dp (d:Nat) (x1:t2) (r3:t0) (r5 l7 l8:List Int):Option t8 :=
 Q8 (rA d x1 r3 (wI d x1 r3 l7 l8)) Qd (([]:List Int),0,(List.replicate ((r5.length:Int).toNat) ([]:List t4)))
noncomputable def dH (d:Nat) (x1:t2) (gd:t16->Option t8) (n7:Int) (l8 l9:List Int) (aR:t1) (iy:Int):Option t8 :=
 aa (decide (iy>=0)) (
 aa (decide (0<=iy)) (
 Q1 (x1.2.1.1[iy.toNat]?) fun tG =>
 aa (decide (0<=n7)) (
 aa (Nat.blt (n7.toNat) l8.length) (
 Q1 (l8[n7.toNat]?) fun jM =>
 aa (decide (0<=iy)) (
 Q1 (x1.2.1.2[iy.toNat]?) fun nq =>
 aa (decide (0<=n7)) (
 aa (Nat.blt (n7.toNat) l9.length) (
 Q1 (l9[n7.toNat]?) fun gD =>
 gd ((i64.wrap (n7+1)),(l8.set (n7.toNat) (if aR.2.2.2.2.1 < tG then aR.2.2.2.2.1 else tG)),(l9.set (n7.toNat) (if aR.2.2.2.2.2.1 < nq then aR.2.2.2.2.2.1 else nq)))) none) none) none) none) none) none) (
 gd ((i64.wrap (n7+1)),l8,l9))
noncomputable def y_ (d:Nat) (x1:t2) (gd:t16->Option t8) (n7:Int) (l8 l9:List Int) (aR:t1) (tG:Int):Option t8 :=
 dH d x1 gd n7 l8 l9 aR (-1)
noncomputable def iW (d:Nat) (x1:t2) (gd:t16->Option t8) (n7:Int) (l8 l9:List Int) (aR:t1) (nE:Int->Option t8) (T6:t10->Option t8) (s:t10):Option t8 :=
(fun tG jM =>
 aa (decide (jM < (x1.1.2.1.length:Int))) (
 aa (decide (0<=jM)) (
 Q1 (x1.1.2.1[jM.toNat]?) fun mI =>
 aa (mI.1==aR.1) (
 dH d x1 gd n7 l8 l9 aR jM) (
 T6 (tG,(i64.wrap (jM+1))))) none) (
 nE tG)) s.1 s.2
noncomputable def ru (d:Nat) (x1:t2) (r3:t0) (za:(List Int)->(List Int)->Option t8) (gd:t16->Option t8) (s:t16):Option t8 :=
(fun n7 (l8:List Int) (l9:List Int) =>
 aa (decide (n7 < (r3.2.1.length:Int))) (
 aa (decide (0<=n7)) (
 aa (Nat.blt (n7.toNat) r3.2.1.length) (
 Q1 (r3.2.1[n7.toNat]?) fun aR =>
 Q8 (iW d x1 gd n7 l8 l9 aR (y_ d x1 gd n7 l8 l9 aR)) Qd (0,0)) none) none) (
 za l8 l9)) s.1 s.2.1 s.2.2
theorem e44 (d:Nat) (x1:t2) (x2:t3):RU (d+3) x1 x2 =
 Q1 (Om (d+2) x2) fun r3 =>
 Q1 (T4 (d+2) r3) fun r4 =>
 Q1 (Di (d+2) r3) fun r5 =>
 aa (decide (0<=(r5.length:Int))) (
 aa (decide (0<=(r5.length:Int))) (
 aa (Nat.ble ((r5.length:Int).toNat) ((r5.length:Int).toNat)&&Nat.ble (((r5.length:Int).toNat)*24) Q7) (
 Q8 (ru d x1 r3 (Dp d x1 r3 r5)) Qd (0,r4.1,r4.2)) none) none) none:=by kernel_rfl
theorem e12 (d:Nat) (x1:t2) (x2:t3):g12 (d+1) x1 x2 =
 Q1 (T3 d x1) fun r3 =>
 aa (!r3) (
 some ((((⟨#[]⟩:ByteArray),[],[],[],[],[],[],[],0),([],[]),[],0,0),[],false)) (
 Q1 (Oi d x2) fun r4 =>
 aa (!r4) (
 some ((((⟨#[]⟩:ByteArray),[],[],[],[],[],[],[],0),([],[]),[],0,0),[],false)) (
 Q1 (RU d x1 x2) fun r5 =>
 some (r5.1,r5.2,true))):=by kernel_rfl
noncomputable def DO (d:Nat) (b4:Bool):Option Bool :=
 some true
noncomputable def zb (d:Nat) (l1 l2:List Int) (zc:Bool->Option Bool) (bM:t9->Option Bool) (s:t9):Option Bool :=
(fun (b4:Bool) n5 =>
 aa (decide (n5 < (l1.length:Int))) (
 aa (decide (0<=n5)) (
 Q1 (l1[n5.toNat]?) fun n6 =>
 aa (decide (0<=n5)) (
 Q1 (l2[n5.toNat]?) fun n7 =>
 aa (n6 != n7) (
 some false) (
 bM (b4,(i64.wrap (n5+1))))) none) none) (
 zc b4)) s.1 s.2
theorem e14 (d:Nat) (l1 l2:List Int):g14 (d+1) l1 l2 =
 aa ((l1.length:Int) != (l2.length:Int)) (
 some false) (
 Q8 (zb d l1 l2 (DO d)) Qd (false,0)):=by kernel_rfl
theorem e67 (d:Nat) (x1 x2:t5):ZA (d+1) x1 x2 =
 aa (x1.1 != x2.1) (
 some false) (
 aa (x1.2.1 != x2.2.1) (
 some false) (
 aa (x1.2.2.1 != x2.2.2.1) (
 some false) (
 aa (x1.2.2.2.1 != x2.2.2.2.1) (
 some false) (
 aa (x1.2.2.2.2 != x2.2.2.2.2) (
 some false) (
 some true))))):=by kernel_rfl
noncomputable def DP (d:Nat) (b4:Bool):Option Bool :=
 some true
noncomputable def zd (d:Nat) (l1 l2:List t5) (ze:Bool->Option Bool) (bM:t9->Option Bool) (s:t9):Option Bool :=
(fun (b4:Bool) n5 =>
 aa (decide (n5 < (l1.length:Int))) (
 aa (decide (0<=n5)) (
 Q1 (l1[n5.toNat]?) fun x6 =>
 aa (decide (0<=n5)) (
 Q1 (l2[n5.toNat]?) fun x7 =>
 Q1 (ZA d x6 x7) fun r8 =>
 aa (!r8) (
 some false) (
 bM (b4,(i64.wrap (n5+1))))) none) none) (
 ze b4)) s.1 s.2
theorem e29 (d:Nat) (l1 l2:List t5):Oq (d+1) l1 l2 =
 aa ((l1.length:Int) != (l2.length:Int)) (
 some false) (
 Q8 (zd d l1 l2 (DP d)) Qd (false,0)):=by kernel_rfl
theorem T7 (d:Nat) (x1 x2:t1):K4 (d+1) x1 x2 =
 aa (x1.1 != x2.1) (
 some false) (
 aa (x1.2.1 != x2.2.1) (
 some false) (
 aa (x1.2.2.1 != x2.2.2.1) (
 some false) (
 aa (x1.2.2.2.1 != x2.2.2.2.1) (
 some false) (
 aa (x1.2.2.2.2.1 != x2.2.2.2.2.1) (
 some false) (
 aa (x1.2.2.2.2.2.1 != x2.2.2.2.2.2.1) (
 some false) (
 aa (x1.2.2.2.2.2.2.1 != x2.2.2.2.2.2.2.1) (
 some false) (
 aa (x1.2.2.2.2.2.2.2 != x2.2.2.2.2.2.2.2) (
 some false) (
 some true)))))))):=by kernel_rfl
noncomputable def DQ (d:Nat) (b4:Bool):Option Bool :=
 some true
noncomputable def zf (d:Nat) (l1 l2:List t1) (zg:Bool->Option Bool) (bM:t9->Option Bool) (s:t9):Option Bool :=
(fun (b4:Bool) n5 =>
 aa (decide (n5 < (l1.length:Int))) (
 aa (decide (0<=n5)) (
 Q1 (l1[n5.toNat]?) fun x6 =>
 aa (decide (0<=n5)) (
 Q1 (l2[n5.toNat]?) fun x7 =>
 Q1 (K4 d x6 x7) fun r8 =>
 aa (!r8) (
 some false) (
 bM (b4,(i64.wrap (n5+1))))) none) none) (
 zg b4)) s.1 s.2
theorem e48 (d:Nat) (l1 l2:List t1):Ot (d+1) l1 l2 =
 aa ((l1.length:Int) != (l2.length:Int)) (
 some false) (
 Q8 (zf d l1 l2 (DQ d)) Qd (false,0)):=by kernel_rfl
theorem e45 (d:Nat) (x1 x2:t0):T8 (d+1) x1 x2 =
 aa (!(x1.1.toList==x2.1.toList)) (
 some false) (
 Q1 (Ot d x1.2.1 x2.2.1) fun r3 =>
 aa (!r3) (
 some false) (
 Q1 (g14 d x1.2.2.1 x2.2.2.1) fun r4 =>
 aa (!r4) (
 some false) (
 Q1 (g14 d x1.2.2.2.1 x2.2.2.2.1) fun r5 =>
 aa (!r5) (
 some false) (
 Q1 (g14 d x1.2.2.2.2.1 x2.2.2.2.2.1) fun r6 =>
 aa (!r6) (
 some false) (
 Q1 (g14 d x1.2.2.2.2.2.1 x2.2.2.2.2.2.1) fun r7 =>
 aa (!r7) (
 some false) (
 Q1 (Oq d x1.2.2.2.2.2.2.1 x2.2.2.2.2.2.2.1) fun r8 =>
 aa (!r8) (
 some false) (
 Q1 (g14 d x1.2.2.2.2.2.2.2.1 x2.2.2.2.2.2.2.2.1) fun r9 =>
 aa (!r9) (
 some false) (
 aa (x1.2.2.2.2.2.2.2.2 != x2.2.2.2.2.2.2.2.2) (
 some false) (
 some true))))))))):=by kernel_rfl
theorem e46 (d:Nat) (x1 x2:t7):T9 (d+1) x1 x2 =
 Q1 (g14 d x1.1 x2.1) fun r3 =>
 aa (!r3) (
 some false) (
 Q1 (g14 d x1.2 x2.2) fun r4 =>
 aa (!r4) (
 some false) (
 some true)):=by kernel_rfl
theorem T_ (d:Nat) (x1 x2:t4):K5 (d+1) x1 x2 =
 aa (x1.1 != x2.1) (
 some false) (
 aa (x1.2.1 != x2.2.1) (
 some false) (
 aa (x1.2.2.1 != x2.2.2.1) (
 some false) (
 aa (x1.2.2.2.1 != x2.2.2.2.1) (
 some false) (
 aa (x1.2.2.2.2.1 != x2.2.2.2.2.1) (
 some false) (
 aa (x1.2.2.2.2.2 != x2.2.2.2.2.2) (
 some false) (
 some true)))))):=by kernel_rfl
noncomputable def zh (d:Nat) (b4:Bool):Option Bool :=
 some true
noncomputable def ql (d:Nat) (l1 l2:List t4) (ux:Bool->Option Bool) (bM:t9->Option Bool) (s:t9):Option Bool :=
(fun (b4:Bool) n5 =>
 aa (decide (n5 < (l1.length:Int))) (
 aa (decide (0<=n5)) (
 Q1 (l1[n5.toNat]?) fun x6 =>
 aa (decide (0<=n5)) (
 Q1 (l2[n5.toNat]?) fun x7 =>
 Q1 (K5 d x6 x7) fun r8 =>
 aa (!r8) (
 some false) (
 bM (b4,(i64.wrap (n5+1))))) none) none) (
 ux b4)) s.1 s.2
theorem T' (d:Nat) (l1 l2:List t4):Gq (d+1) l1 l2 =
 aa ((l1.length:Int) != (l2.length:Int)) (
 some false) (
 Q8 (ql d l1 l2 (zh d)) Qd (false,0)):=by kernel_rfl
noncomputable def DR (d:Nat) (b4:Bool):Option Bool :=
 some true
noncomputable def zi (d:Nat) (l1 l2:List (List t4)) (zj:Bool->Option Bool) (bM:t9->Option Bool) (s:t9):Option Bool :=
(fun (b4:Bool) n5 =>
 aa (decide (n5 < (l1.length:Int))) (
 aa (decide (0<=n5)) (
 Q1 (l1[n5.toNat]?) fun l6 =>
 aa (decide (0<=n5)) (
 Q1 (l2[n5.toNat]?) fun l7 =>
 Q1 (Gq d l6 l7) fun r8 =>
 aa (!r8) (
 some false) (
 bM (b4,(i64.wrap (n5+1))))) none) none) (
 zj b4)) s.1 s.2
theorem e47 (d:Nat) (l1 l2:List (List t4)):Uc (d+1) l1 l2 =
 aa ((l1.length:Int) != (l2.length:Int)) (
 some false) (
 Q8 (zi d l1 l2 (DR d)) Qd (false,0)):=by kernel_rfl
theorem e13 (d:Nat) (x1 x2:t2):g13 (d+1) x1 x2 =
 Q1 (T8 d x1.1 x2.1) fun r3 =>
 aa (!r3) (
 some false) (
 Q1 (T9 d x1.2.1 x2.2.1) fun r4 =>
 aa (!r4) (
 some false) (
 Q1 (Uc d x1.2.2.1 x2.2.2.1) fun r5 =>
 aa (!r5) (
 some false) (
 aa (x1.2.2.2.1 != x2.2.2.2.1) (
 some false) (
 aa (x1.2.2.2.2 != x2.2.2.2.2) (
 some false) (
 some true))))):=by kernel_rfl
theorem e15 (d:Nat) (x1 x2:t3):g15 (d+1) x1 x2 =
 aa (!(x1.1.toList==x2.1.toList)) (
 some false) (
 Q1 (Ot d x1.2.1 x2.2.1) fun r3 =>
 aa (!r3) (
 some false) (
 Q1 (Oq d x1.2.2.1 x2.2.2.1) fun r4 =>
 aa (!r4) (
 some false) (
 aa (x1.2.2.2 != x2.2.2.2) (
 some false) (
 some true)))):=by kernel_rfl
noncomputable def zl (d:Nat) (n4:Int) (l5:List Int):Option t11 :=
 some (n4,l5)
noncomputable def rO (d:Nat) (zm:Int->(List Int)->Option t11) (bM:(Int×Int×(List Int))->Option t11) (s:(Int×Int×(List Int))):Option t11 :=
(fun n4 n5 (l6:List Int) =>
 aa (decide (n5 < (l6.length:Int))) (
 aa (decide (0<=n5)) (
 aa (Nat.blt (n5.toNat) l6.length) (
 Q1 (l6[n5.toNat]?) fun n7 =>
 bM ((i64.wrap (n4+1)),(i64.wrap (n5+1)),(l6.set (n5.toNat) n4))) none) none) (
 zm n4 l6)) s.1 s.2.1 s.2.2
theorem e18 (d:Nat) (l1:List Int) (n2:Int):g18 (d+1) l1 n2 =
 Q8 (rO d (zl d)) Qd (n2,0,l1):=by kernel_rfl
noncomputable def zn (d:Nat) (n4 n5:Int):Option Int :=
 some n4
noncomputable def rP (d:Nat) (l1:List Int) (zo:Int->Int->Option Int) (bM:(Int×Int×Int)->Option Int) (s:(Int×Int×Int)):Option Int :=
(fun n4 n5 n6 =>
 aa (decide (n6 < (l1.length:Int))) (
 aa (decide (0<=n6)) (
 Q1 (l1[n6.toNat]?) fun n7 =>
 aa (n7 != n4) (
 some (-1)) (
 bM ((i64.wrap (n4+1)),n5,(i64.wrap (n6+1))))) none) (
 zo n4 n5)) s.1 s.2.1 s.2.2
theorem e20 (d:Nat) (l1:List Int) (n2:Int):g20 (d+1) l1 n2 =
 Q8 (rP d l1 (zn d)) Qd (n2,0,0):=by kernel_rfl
noncomputable def qm (d:Nat) (n4 n5:Int):Option Int :=
 some n4
noncomputable def lU (d:Nat) (l1:List t1) (uy:Int->Int->Option Int) (bM:(Int×Int×Int)->Option Int) (s:(Int×Int×Int)):Option Int :=
(fun n4 n5 n6 =>
 aa (decide (n6 < (l1.length:Int))) (
 aa (decide (0<=n6)) (
 Q1 (l1[n6.toNat]?) fun x7 =>
 aa (x7.1 != n4) (
 some (-1)) (
 aa (decide (0<=n6)) (
 Q1 (l1[n6.toNat]?) fun x8 =>
 aa (x8.2.1 != (i64.wrap (n4+1))) (
 some (-1)) (
 aa (decide (0<=n6)) (
 Q1 (l1[n6.toNat]?) fun x9 =>
 aa (x9.2.2.1 != (i64.wrap ((i64.wrap (n4+1))+1))) (
 some (-1)) (
 aa (decide (0<=n6)) (
 Q1 (l1[n6.toNat]?) fun aR =>
 aa (aR.2.2.2.1 != (i64.wrap ((i64.wrap ((i64.wrap (n4+1))+1))+1))) (
 some (-1)) (
 aa (decide (0<=n6)) (
 Q1 (l1[n6.toNat]?) fun bP =>
 aa (bP.2.2.2.2.1 != (i64.wrap ((i64.wrap ((i64.wrap ((i64.wrap (n4+1))+1))+1))+1))) (
 some (-1)) (
 aa (decide (0<=n6)) (
 Q1 (l1[n6.toNat]?) fun dA =>
 aa (dA.2.2.2.2.2.1 != (i64.wrap ((i64.wrap ((i64.wrap ((i64.wrap ((i64.wrap (n4+1))+1))+1))+1))+1))) (
 some (-1)) (
 aa (decide (0<=n6)) (
 Q1 (l1[n6.toNat]?) fun gE =>
 aa (gE.2.2.2.2.2.2.1 != (i64.wrap ((i64.wrap ((i64.wrap ((i64.wrap ((i64.wrap ((i64.wrap (n4+1))+1))+1))+1))+1))+1))) (
 some (-1)) (
 aa (decide (0<=n6)) (
 Q1 (l1[n6.toNat]?) fun mI =>
 aa (mI.2.2.2.2.2.2.2 != (i64.wrap ((i64.wrap ((i64.wrap ((i64.wrap ((i64.wrap ((i64.wrap ((i64.wrap (n4+1))+1))+1))+1))+1))+1))+1))) (
 some (-1)) (
 bM ((i64.wrap ((i64.wrap ((i64.wrap ((i64.wrap ((i64.wrap ((i64.wrap ((i64.wrap ((i64.wrap (n4+1))+1))+1))+1))+1))+1))+1))+1)),n5,(i64.wrap (n6+1))))) none)) none)) none)) none)) none)) none)) none)) none) (
 uy n4 n5)) s.1 s.2.1 s.2.2
theorem Ud (d:Nat) (l1:List t1) (n2:Int):Gr (d+1) l1 n2 =
 Q8 (lU d l1 (qm d)) Qd (n2,0,0):=by kernel_rfl
noncomputable def qn (d:Nat) (n4 n5:Int):Option Int :=
 some n4
noncomputable def lV (d:Nat) (l1:List t5) (uz:Int->Int->Option Int) (bM:(Int×Int×Int)->Option Int) (s:(Int×Int×Int)):Option Int :=
(fun n4 n5 n6 =>
 aa (decide (n6 < (l1.length:Int))) (
 aa (decide (0<=n6)) (
 Q1 (l1[n6.toNat]?) fun x7 =>
 aa (x7.1 != n4) (
 some (-1)) (
 aa (decide (0<=n6)) (
 Q1 (l1[n6.toNat]?) fun x8 =>
 aa (x8.2.1 != (i64.wrap (n4+1))) (
 some (-1)) (
 aa (decide (0<=n6)) (
 Q1 (l1[n6.toNat]?) fun x9 =>
 aa (x9.2.2.1 != (i64.wrap ((i64.wrap (n4+1))+1))) (
 some (-1)) (
 aa (decide (0<=n6)) (
 Q1 (l1[n6.toNat]?) fun aR =>
 aa (aR.2.2.2.1 != (i64.wrap ((i64.wrap ((i64.wrap (n4+1))+1))+1))) (
 some (-1)) (
 aa (decide (0<=n6)) (
 Q1 (l1[n6.toNat]?) fun bP =>
 aa (bP.2.2.2.2 != (i64.wrap ((i64.wrap ((i64.wrap ((i64.wrap (n4+1))+1))+1))+1))) (
 some (-1)) (
 bM ((i64.wrap ((i64.wrap ((i64.wrap ((i64.wrap ((i64.wrap (n4+1))+1))+1))+1))+1)),n5,(i64.wrap (n6+1))))) none)) none)) none)) none)) none) (
 uz n4 n5)) s.1 s.2.1 s.2.2
theorem Ue (d:Nat) (l1:List t5) (n2:Int):Gs (d+1) l1 n2 =
 Q8 (lV d l1 (qn d)) Qd (n2,0,0):=by kernel_rfl
theorem e53 (d:Nat) (x1:t0) (n2:Int):Uf (d+1) x1 n2 =
 Q1 (Gr d x1.2.1 n2) fun r3 =>
 aa (decide (r3 < 0)) (
 some (-1)) (
 Q1 (g20 d x1.2.2.1 r3) fun r4 =>
 aa (decide (r4 < 0)) (
 some (-1)) (
 Q1 (g20 d x1.2.2.2.1 r4) fun r5 =>
 aa (decide (r5 < 0)) (
 some (-1)) (
 Q1 (g20 d x1.2.2.2.2.1 r5) fun r6 =>
 aa (decide (r6 < 0)) (
 some (-1)) (
 Q1 (g20 d x1.2.2.2.2.2.1 r6) fun r7 =>
 aa (decide (r7 < 0)) (
 some (-1)) (
 Q1 (Gs d x1.2.2.2.2.2.2.1 r7) fun r8 =>
 aa (decide (r8 < 0)) (
 some (-1)) (
 Q1 (g20 d x1.2.2.2.2.2.2.2.1 r8) fun r9 =>
 aa (decide (r9 < 0)) (
 some (-1)) (
 some r9))))))):=by kernel_rfl
theorem e54 (d:Nat) (x1:t7) (n2:Int):Ug (d+1) x1 n2 =
 Q1 (g20 d x1.1 n2) fun r3 =>
 aa (decide (r3 < 0)) (
 some (-1)) (
 Q1 (g20 d x1.2 r3) fun r4 =>
 aa (decide (r4 < 0)) (
 some (-1)) (
 some r4)):=by kernel_rfl
noncomputable def oQ (d:Nat) (n4 n5:Int):Option Int :=
 some n4
noncomputable def kN (d:Nat) (l1:List t4) (uA:Int->Int->Option Int) (bM:(Int×Int×Int)->Option Int) (s:(Int×Int×Int)):Option Int :=
(fun n4 n5 n6 =>
 aa (decide (n6 < (l1.length:Int))) (
 aa (decide (0<=n6)) (
 Q1 (l1[n6.toNat]?) fun x7 =>
 aa (x7.1 != n4) (
 some (-1)) (
 aa (decide (0<=n6)) (
 Q1 (l1[n6.toNat]?) fun x8 =>
 aa (x8.2.1 != (i64.wrap (n4+1))) (
 some (-1)) (
 aa (decide (0<=n6)) (
 Q1 (l1[n6.toNat]?) fun x9 =>
 aa (x9.2.2.1 != (i64.wrap ((i64.wrap (n4+1))+1))) (
 some (-1)) (
 aa (decide (0<=n6)) (
 Q1 (l1[n6.toNat]?) fun aR =>
 aa (aR.2.2.2.1 != (i64.wrap ((i64.wrap ((i64.wrap (n4+1))+1))+1))) (
 some (-1)) (
 aa (decide (0<=n6)) (
 Q1 (l1[n6.toNat]?) fun bP =>
 aa (bP.2.2.2.2.1 != (i64.wrap ((i64.wrap ((i64.wrap ((i64.wrap (n4+1))+1))+1))+1))) (
 some (-1)) (
 aa (decide (0<=n6)) (
 Q1 (l1[n6.toNat]?) fun dA =>
 aa (dA.2.2.2.2.2 != (i64.wrap ((i64.wrap ((i64.wrap ((i64.wrap ((i64.wrap (n4+1))+1))+1))+1))+1))) (
 some (-1)) (
 bM ((i64.wrap ((i64.wrap ((i64.wrap ((i64.wrap ((i64.wrap ((i64.wrap (n4+1))+1))+1))+1))+1))+1)),n5,(i64.wrap (n6+1))))) none)) none)) none)) none)) none)) none) (
 uA n4 n5)) s.1 s.2.1 s.2.2
theorem Rz (d:Nat) (l1:List t4) (n2:Int):K6 (d+1) l1 n2 =
 Q8 (kN d l1 (oQ d)) Qd (n2,0,0):=by kernel_rfl
noncomputable def wG (d:Nat) (n4 n5:Int):Option Int :=
 some n4
noncomputable def ri (d:Nat) (l1:List (List t4)) (zq:Int->Int->Option Int) (bM:(Int×Int×Int)->Option Int) (s:(Int×Int×Int)):Option Int :=
(fun n4 n5 n6 =>
 aa (decide (n6 < (l1.length:Int))) (
 aa (decide (0<=n6)) (
 Q1 (l1[n6.toNat]?) fun l7 =>
 Q1 (K6 d l7 n4) fun r8 =>
 aa (decide (r8 < 0)) (
 some (-1)) (
 bM (r8,n5,(i64.wrap (n6+1))))) none) (
 zq n4 n5)) s.1 s.2.1 s.2.2
theorem e55 (d:Nat) (l1:List (List t4)) (n2:Int):ZB (d+1) l1 n2 =
 Q8 (ri d l1 (wG d)) Qd (n2,0,0):=by kernel_rfl
theorem e19 (d:Nat) (x1:t2) (n2:Int):g19 (d+1) x1 n2 =
 Q1 (Uf d x1.1 n2) fun r3 =>
 aa (decide (r3 < 0)) (
 some (-1)) (
 Q1 (Ug d x1.2.1 r3) fun r4 =>
 aa (decide (r4 < 0)) (
 some (-1)) (
 Q1 (ZB d x1.2.2.1 r4) fun r5 =>
 aa (decide (r5 < 0)) (
 some (-1)) (
 some r5))):=by kernel_rfl
noncomputable def zu (d:Nat) (n4:Int) (l5:List t5):Option (Int×(List t5)) :=
 some (n4,l5)
noncomputable def rQ (d:Nat) (zv:Int->(List t5)->Option (Int×(List t5))) (bM:(Int×Int×(List t5))->Option (Int×(List t5))) (s:(Int×Int×(List t5))):Option (Int×(List t5)) :=
(fun n4 n5 (l6:List t5) =>
 aa (decide (n5 < (l6.length:Int))) (
 aa (decide (0<=n5)) (
 aa (Nat.blt (n5.toNat) l6.length) (
 Q1 (l6[n5.toNat]?) fun x7 =>
 aa (decide (0<=n5)) (
 aa (Nat.blt (n5.toNat) ((l6.set (n5.toNat) (n4,x7.2)).length)) (
 Q1 ((l6.set (n5.toNat) (n4,x7.2))[n5.toNat]?) fun x8 =>
 aa (decide (0<=n5)) (
 aa (Nat.blt (n5.toNat) (((l6.set (n5.toNat) (n4,x7.2)).set (n5.toNat) (x8.1,(i64.wrap (n4+1)),x8.2.2)).length)) (
 Q1 (((l6.set (n5.toNat) (n4,x7.2)).set (n5.toNat) (x8.1,(i64.wrap (n4+1)),x8.2.2))[n5.toNat]?) fun x9 =>
 aa (decide (0<=n5)) (
 aa (Nat.blt (n5.toNat) ((((l6.set (n5.toNat) (n4,x7.2)).set (n5.toNat) (x8.1,(i64.wrap (n4+1)),x8.2.2)).set (n5.toNat) (x9.1,x9.2.1,(i64.wrap ((i64.wrap (n4+1))+1)),x9.2.2.2)).length)) (
 Q1 ((((l6.set (n5.toNat) (n4,x7.2)).set (n5.toNat) (x8.1,(i64.wrap (n4+1)),x8.2.2)).set (n5.toNat) (x9.1,x9.2.1,(i64.wrap ((i64.wrap (n4+1))+1)),x9.2.2.2))[n5.toNat]?) fun aR =>
 aa (decide (0<=n5)) (
 aa (Nat.blt (n5.toNat) (((((l6.set (n5.toNat) (n4,x7.2)).set (n5.toNat) (x8.1,(i64.wrap (n4+1)),x8.2.2)).set (n5.toNat) (x9.1,x9.2.1,(i64.wrap ((i64.wrap (n4+1))+1)),x9.2.2.2)).set (n5.toNat) (aR.1,aR.2.1,aR.2.2.1,(i64.wrap ((i64.wrap ((i64.wrap (n4+1))+1))+1)),aR.2.2.2.2)).length)) (
 Q1 (((((l6.set (n5.toNat) (n4,x7.2)).set (n5.toNat) (x8.1,(i64.wrap (n4+1)),x8.2.2)).set (n5.toNat) (x9.1,x9.2.1,(i64.wrap ((i64.wrap (n4+1))+1)),x9.2.2.2)).set (n5.toNat) (aR.1,aR.2.1,aR.2.2.1,(i64.wrap ((i64.wrap ((i64.wrap (n4+1))+1))+1)),aR.2.2.2.2))[n5.toNat]?) fun bP =>
 bM ((i64.wrap ((i64.wrap ((i64.wrap ((i64.wrap ((i64.wrap (n4+1))+1))+1))+1))+1)),(i64.wrap (n5+1)),(((((l6.set (n5.toNat) (n4,x7.2)).set (n5.toNat) (x8.1,(i64.wrap (n4+1)),x8.2.2)).set (n5.toNat) (x9.1,x9.2.1,(i64.wrap ((i64.wrap (n4+1))+1)),x9.2.2.2)).set (n5.toNat) (aR.1,aR.2.1,aR.2.2.1,(i64.wrap ((i64.wrap ((i64.wrap (n4+1))+1))+1)),aR.2.2.2.2)).set (n5.toNat) (bP.1,bP.2.1,bP.2.2.1,bP.2.2.2.1,(i64.wrap ((i64.wrap ((i64.wrap ((i64.wrap (n4+1))+1))+1))+1)))))) none) none) none) none) none) none) none) none) none) none) (
 zv n4 l6)) s.1 s.2.1 s.2.2
theorem e30 (d:Nat) (l1:List t5) (n2:Int):K7 (d+1) l1 n2 =
 Q8 (rQ d (zu d)) Qd (n2,0,l1):=by kernel_rfl
noncomputable def zw (d:Nat) (n4:Int) (l5:List t1):Option t13 :=
 some (n4,l5)
noncomputable def rR (d:Nat) (zx:Int->(List t1)->Option t13) (bM:(Int×Int×(List t1))->Option t13) (s:(Int×Int×(List t1))):Option t13 :=
(fun n4 n5 (l6:List t1) =>
 aa (decide (n5 < (l6.length:Int))) (
 aa (decide (0<=n5)) (
 aa (Nat.blt (n5.toNat) l6.length) (
 Q1 (l6[n5.toNat]?) fun x7 =>
 aa (decide (0<=n5)) (
 aa (Nat.blt (n5.toNat) ((l6.set (n5.toNat) (n4,x7.2)).length)) (
 Q1 ((l6.set (n5.toNat) (n4,x7.2))[n5.toNat]?) fun x8 =>
 aa (decide (0<=n5)) (
 aa (Nat.blt (n5.toNat) (((l6.set (n5.toNat) (n4,x7.2)).set (n5.toNat) (x8.1,(i64.wrap (n4+1)),x8.2.2)).length)) (
 Q1 (((l6.set (n5.toNat) (n4,x7.2)).set (n5.toNat) (x8.1,(i64.wrap (n4+1)),x8.2.2))[n5.toNat]?) fun x9 =>
 aa (decide (0<=n5)) (
 aa (Nat.blt (n5.toNat) ((((l6.set (n5.toNat) (n4,x7.2)).set (n5.toNat) (x8.1,(i64.wrap (n4+1)),x8.2.2)).set (n5.toNat) (x9.1,x9.2.1,(i64.wrap ((i64.wrap (n4+1))+1)),x9.2.2.2)).length)) (
 Q1 ((((l6.set (n5.toNat) (n4,x7.2)).set (n5.toNat) (x8.1,(i64.wrap (n4+1)),x8.2.2)).set (n5.toNat) (x9.1,x9.2.1,(i64.wrap ((i64.wrap (n4+1))+1)),x9.2.2.2))[n5.toNat]?) fun aR =>
 aa (decide (0<=n5)) (
 aa (Nat.blt (n5.toNat) (((((l6.set (n5.toNat) (n4,x7.2)).set (n5.toNat) (x8.1,(i64.wrap (n4+1)),x8.2.2)).set (n5.toNat) (x9.1,x9.2.1,(i64.wrap ((i64.wrap (n4+1))+1)),x9.2.2.2)).set (n5.toNat) (aR.1,aR.2.1,aR.2.2.1,(i64.wrap ((i64.wrap ((i64.wrap (n4+1))+1))+1)),aR.2.2.2.2)).length)) (
 Q1 (((((l6.set (n5.toNat) (n4,x7.2)).set (n5.toNat) (x8.1,(i64.wrap (n4+1)),x8.2.2)).set (n5.toNat) (x9.1,x9.2.1,(i64.wrap ((i64.wrap (n4+1))+1)),x9.2.2.2)).set (n5.toNat) (aR.1,aR.2.1,aR.2.2.1,(i64.wrap ((i64.wrap ((i64.wrap (n4+1))+1))+1)),aR.2.2.2.2))[n5.toNat]?) fun bP =>
 aa (decide (0<=n5)) (
 aa (Nat.blt (n5.toNat) ((((((l6.set (n5.toNat) (n4,x7.2)).set (n5.toNat) (x8.1,(i64.wrap (n4+1)),x8.2.2)).set (n5.toNat) (x9.1,x9.2.1,(i64.wrap ((i64.wrap (n4+1))+1)),x9.2.2.2)).set (n5.toNat) (aR.1,aR.2.1,aR.2.2.1,(i64.wrap ((i64.wrap ((i64.wrap (n4+1))+1))+1)),aR.2.2.2.2)).set (n5.toNat) (bP.1,bP.2.1,bP.2.2.1,bP.2.2.2.1,(i64.wrap ((i64.wrap ((i64.wrap ((i64.wrap (n4+1))+1))+1))+1)),bP.2.2.2.2.2)).length)) (
 Q1 ((((((l6.set (n5.toNat) (n4,x7.2)).set (n5.toNat) (x8.1,(i64.wrap (n4+1)),x8.2.2)).set (n5.toNat) (x9.1,x9.2.1,(i64.wrap ((i64.wrap (n4+1))+1)),x9.2.2.2)).set (n5.toNat) (aR.1,aR.2.1,aR.2.2.1,(i64.wrap ((i64.wrap ((i64.wrap (n4+1))+1))+1)),aR.2.2.2.2)).set (n5.toNat) (bP.1,bP.2.1,bP.2.2.1,bP.2.2.2.1,(i64.wrap ((i64.wrap ((i64.wrap ((i64.wrap (n4+1))+1))+1))+1)),bP.2.2.2.2.2))[n5.toNat]?) fun dA =>
 aa (decide (0<=n5)) (
 aa (Nat.blt (n5.toNat) (((((((l6.set (n5.toNat) (n4,x7.2)).set (n5.toNat) (x8.1,(i64.wrap (n4+1)),x8.2.2)).set (n5.toNat) (x9.1,x9.2.1,(i64.wrap ((i64.wrap (n4+1))+1)),x9.2.2.2)).set (n5.toNat) (aR.1,aR.2.1,aR.2.2.1,(i64.wrap ((i64.wrap ((i64.wrap (n4+1))+1))+1)),aR.2.2.2.2)).set (n5.toNat) (bP.1,bP.2.1,bP.2.2.1,bP.2.2.2.1,(i64.wrap ((i64.wrap ((i64.wrap ((i64.wrap (n4+1))+1))+1))+1)),bP.2.2.2.2.2)).set (n5.toNat) (dA.1,dA.2.1,dA.2.2.1,dA.2.2.2.1,dA.2.2.2.2.1,(i64.wrap ((i64.wrap ((i64.wrap ((i64.wrap ((i64.wrap (n4+1))+1))+1))+1))+1)),dA.2.2.2.2.2.2)).length)) (
 Q1 (((((((l6.set (n5.toNat) (n4,x7.2)).set (n5.toNat) (x8.1,(i64.wrap (n4+1)),x8.2.2)).set (n5.toNat) (x9.1,x9.2.1,(i64.wrap ((i64.wrap (n4+1))+1)),x9.2.2.2)).set (n5.toNat) (aR.1,aR.2.1,aR.2.2.1,(i64.wrap ((i64.wrap ((i64.wrap (n4+1))+1))+1)),aR.2.2.2.2)).set (n5.toNat) (bP.1,bP.2.1,bP.2.2.1,bP.2.2.2.1,(i64.wrap ((i64.wrap ((i64.wrap ((i64.wrap (n4+1))+1))+1))+1)),bP.2.2.2.2.2)).set (n5.toNat) (dA.1,dA.2.1,dA.2.2.1,dA.2.2.2.1,dA.2.2.2.2.1,(i64.wrap ((i64.wrap ((i64.wrap ((i64.wrap ((i64.wrap (n4+1))+1))+1))+1))+1)),dA.2.2.2.2.2.2))[n5.toNat]?) fun gE =>
 aa (decide (0<=n5)) (
 aa (Nat.blt (n5.toNat) ((((((((l6.set (n5.toNat) (n4,x7.2)).set (n5.toNat) (x8.1,(i64.wrap (n4+1)),x8.2.2)).set (n5.toNat) (x9.1,x9.2.1,(i64.wrap ((i64.wrap (n4+1))+1)),x9.2.2.2)).set (n5.toNat) (aR.1,aR.2.1,aR.2.2.1,(i64.wrap ((i64.wrap ((i64.wrap (n4+1))+1))+1)),aR.2.2.2.2)).set (n5.toNat) (bP.1,bP.2.1,bP.2.2.1,bP.2.2.2.1,(i64.wrap ((i64.wrap ((i64.wrap ((i64.wrap (n4+1))+1))+1))+1)),bP.2.2.2.2.2)).set (n5.toNat) (dA.1,dA.2.1,dA.2.2.1,dA.2.2.2.1,dA.2.2.2.2.1,(i64.wrap ((i64.wrap ((i64.wrap ((i64.wrap ((i64.wrap (n4+1))+1))+1))+1))+1)),dA.2.2.2.2.2.2)).set (n5.toNat) (gE.1,gE.2.1,gE.2.2.1,gE.2.2.2.1,gE.2.2.2.2.1,gE.2.2.2.2.2.1,(i64.wrap ((i64.wrap ((i64.wrap ((i64.wrap ((i64.wrap ((i64.wrap (n4+1))+1))+1))+1))+1))+1)),gE.2.2.2.2.2.2.2)).length)) (
 Q1 ((((((((l6.set (n5.toNat) (n4,x7.2)).set (n5.toNat) (x8.1,(i64.wrap (n4+1)),x8.2.2)).set (n5.toNat) (x9.1,x9.2.1,(i64.wrap ((i64.wrap (n4+1))+1)),x9.2.2.2)).set (n5.toNat) (aR.1,aR.2.1,aR.2.2.1,(i64.wrap ((i64.wrap ((i64.wrap (n4+1))+1))+1)),aR.2.2.2.2)).set (n5.toNat) (bP.1,bP.2.1,bP.2.2.1,bP.2.2.2.1,(i64.wrap ((i64.wrap ((i64.wrap ((i64.wrap (n4+1))+1))+1))+1)),bP.2.2.2.2.2)).set (n5.toNat) (dA.1,dA.2.1,dA.2.2.1,dA.2.2.2.1,dA.2.2.2.2.1,(i64.wrap ((i64.wrap ((i64.wrap ((i64.wrap ((i64.wrap (n4+1))+1))+1))+1))+1)),dA.2.2.2.2.2.2)).set (n5.toNat) (gE.1,gE.2.1,gE.2.2.1,gE.2.2.2.1,gE.2.2.2.2.1,gE.2.2.2.2.2.1,(i64.wrap ((i64.wrap ((i64.wrap ((i64.wrap ((i64.wrap ((i64.wrap (n4+1))+1))+1))+1))+1))+1)),gE.2.2.2.2.2.2.2))[n5.toNat]?) fun mI =>
 bM ((i64.wrap ((i64.wrap ((i64.wrap ((i64.wrap ((i64.wrap ((i64.wrap ((i64.wrap ((i64.wrap (n4+1))+1))+1))+1))+1))+1))+1))+1)),(i64.wrap (n5+1)),((((((((l6.set (n5.toNat) (n4,x7.2)).set (n5.toNat) (x8.1,(i64.wrap (n4+1)),x8.2.2)).set (n5.toNat) (x9.1,x9.2.1,(i64.wrap ((i64.wrap (n4+1))+1)),x9.2.2.2)).set (n5.toNat) (aR.1,aR.2.1,aR.2.2.1,(i64.wrap ((i64.wrap ((i64.wrap (n4+1))+1))+1)),aR.2.2.2.2)).set (n5.toNat) (bP.1,bP.2.1,bP.2.2.1,bP.2.2.2.1,(i64.wrap ((i64.wrap ((i64.wrap ((i64.wrap (n4+1))+1))+1))+1)),bP.2.2.2.2.2)).set (n5.toNat) (dA.1,dA.2.1,dA.2.2.1,dA.2.2.2.1,dA.2.2.2.2.1,(i64.wrap ((i64.wrap ((i64.wrap ((i64.wrap ((i64.wrap (n4+1))+1))+1))+1))+1)),dA.2.2.2.2.2.2)).set (n5.toNat) (gE.1,gE.2.1,gE.2.2.1,gE.2.2.2.1,gE.2.2.2.2.1,gE.2.2.2.2.2.1,(i64.wrap ((i64.wrap ((i64.wrap ((i64.wrap ((i64.wrap ((i64.wrap (n4+1))+1))+1))+1))+1))+1)),gE.2.2.2.2.2.2.2)).set (n5.toNat) (mI.1,mI.2.1,mI.2.2.1,mI.2.2.2.1,mI.2.2.2.2.1,mI.2.2.2.2.2.1,mI.2.2.2.2.2.2.1,(i64.wrap ((i64.wrap ((i64.wrap ((i64.wrap ((i64.wrap ((i64.wrap ((i64.wrap (n4+1))+1))+1))+1))+1))+1))+1)))))) none) none) none) none) none) none) none) none) none) none) none) none) none) none) none) none) (
 zx n4 l6)) s.1 s.2.1 s.2.2
theorem e52 (d:Nat) (l1:List t1) (n2:Int):K8 (d+1) l1 n2 =
 Q8 (rR d (zw d)) Qd (n2,0,l1):=by kernel_rfl
noncomputable def oP (d:Nat) (n4:Int) (l5:List t4):Option (Int×(List t4)) :=
 some (n4,l5)
noncomputable def kM (d:Nat) (uB:Int->(List t4)->Option (Int×(List t4))) (bM:(Int×Int×(List t4))->Option (Int×(List t4))) (s:(Int×Int×(List t4))):Option (Int×(List t4)) :=
(fun n4 n5 (l6:List t4) =>
 aa (decide (n5 < (l6.length:Int))) (
 aa (decide (0<=n5)) (
 aa (Nat.blt (n5.toNat) l6.length) (
 Q1 (l6[n5.toNat]?) fun x7 =>
 aa (decide (0<=n5)) (
 aa (Nat.blt (n5.toNat) ((l6.set (n5.toNat) (n4,x7.2)).length)) (
 Q1 ((l6.set (n5.toNat) (n4,x7.2))[n5.toNat]?) fun x8 =>
 aa (decide (0<=n5)) (
 aa (Nat.blt (n5.toNat) (((l6.set (n5.toNat) (n4,x7.2)).set (n5.toNat) (x8.1,(i64.wrap (n4+1)),x8.2.2)).length)) (
 Q1 (((l6.set (n5.toNat) (n4,x7.2)).set (n5.toNat) (x8.1,(i64.wrap (n4+1)),x8.2.2))[n5.toNat]?) fun x9 =>
 aa (decide (0<=n5)) (
 aa (Nat.blt (n5.toNat) ((((l6.set (n5.toNat) (n4,x7.2)).set (n5.toNat) (x8.1,(i64.wrap (n4+1)),x8.2.2)).set (n5.toNat) (x9.1,x9.2.1,(i64.wrap ((i64.wrap (n4+1))+1)),x9.2.2.2)).length)) (
 Q1 ((((l6.set (n5.toNat) (n4,x7.2)).set (n5.toNat) (x8.1,(i64.wrap (n4+1)),x8.2.2)).set (n5.toNat) (x9.1,x9.2.1,(i64.wrap ((i64.wrap (n4+1))+1)),x9.2.2.2))[n5.toNat]?) fun aR =>
 aa (decide (0<=n5)) (
 aa (Nat.blt (n5.toNat) (((((l6.set (n5.toNat) (n4,x7.2)).set (n5.toNat) (x8.1,(i64.wrap (n4+1)),x8.2.2)).set (n5.toNat) (x9.1,x9.2.1,(i64.wrap ((i64.wrap (n4+1))+1)),x9.2.2.2)).set (n5.toNat) (aR.1,aR.2.1,aR.2.2.1,(i64.wrap ((i64.wrap ((i64.wrap (n4+1))+1))+1)),aR.2.2.2.2)).length)) (
 Q1 (((((l6.set (n5.toNat) (n4,x7.2)).set (n5.toNat) (x8.1,(i64.wrap (n4+1)),x8.2.2)).set (n5.toNat) (x9.1,x9.2.1,(i64.wrap ((i64.wrap (n4+1))+1)),x9.2.2.2)).set (n5.toNat) (aR.1,aR.2.1,aR.2.2.1,(i64.wrap ((i64.wrap ((i64.wrap (n4+1))+1))+1)),aR.2.2.2.2))[n5.toNat]?) fun bP =>
 aa (decide (0<=n5)) (
 aa (Nat.blt (n5.toNat) ((((((l6.set (n5.toNat) (n4,x7.2)).set (n5.toNat) (x8.1,(i64.wrap (n4+1)),x8.2.2)).set (n5.toNat) (x9.1,x9.2.1,(i64.wrap ((i64.wrap (n4+1))+1)),x9.2.2.2)).set (n5.toNat) (aR.1,aR.2.1,aR.2.2.1,(i64.wrap ((i64.wrap ((i64.wrap (n4+1))+1))+1)),aR.2.2.2.2)).set (n5.toNat) (bP.1,bP.2.1,bP.2.2.1,bP.2.2.2.1,(i64.wrap ((i64.wrap ((i64.wrap ((i64.wrap (n4+1))+1))+1))+1)),bP.2.2.2.2.2)).length)) (
 Q1 ((((((l6.set (n5.toNat) (n4,x7.2)).set (n5.toNat) (x8.1,(i64.wrap (n4+1)),x8.2.2)).set (n5.toNat) (x9.1,x9.2.1,(i64.wrap ((i64.wrap (n4+1))+1)),x9.2.2.2)).set (n5.toNat) (aR.1,aR.2.1,aR.2.2.1,(i64.wrap ((i64.wrap ((i64.wrap (n4+1))+1))+1)),aR.2.2.2.2)).set (n5.toNat) (bP.1,bP.2.1,bP.2.2.1,bP.2.2.2.1,(i64.wrap ((i64.wrap ((i64.wrap ((i64.wrap (n4+1))+1))+1))+1)),bP.2.2.2.2.2))[n5.toNat]?) fun dA =>
 bM ((i64.wrap ((i64.wrap ((i64.wrap ((i64.wrap ((i64.wrap ((i64.wrap (n4+1))+1))+1))+1))+1))+1)),(i64.wrap (n5+1)),((((((l6.set (n5.toNat) (n4,x7.2)).set (n5.toNat) (x8.1,(i64.wrap (n4+1)),x8.2.2)).set (n5.toNat) (x9.1,x9.2.1,(i64.wrap ((i64.wrap (n4+1))+1)),x9.2.2.2)).set (n5.toNat) (aR.1,aR.2.1,aR.2.2.1,(i64.wrap ((i64.wrap ((i64.wrap (n4+1))+1))+1)),aR.2.2.2.2)).set (n5.toNat) (bP.1,bP.2.1,bP.2.2.1,bP.2.2.2.1,(i64.wrap ((i64.wrap ((i64.wrap ((i64.wrap (n4+1))+1))+1))+1)),bP.2.2.2.2.2)).set (n5.toNat) (dA.1,dA.2.1,dA.2.2.1,dA.2.2.2.1,dA.2.2.2.2.1,(i64.wrap ((i64.wrap ((i64.wrap ((i64.wrap ((i64.wrap (n4+1))+1))+1))+1))+1)))))) none) none) none) none) none) none) none) none) none) none) none) none) (
 uB n4 l6)) s.1 s.2.1 s.2.2
theorem Ry (d:Nat) (l1:List t4) (n2:Int):wF (d+1) l1 n2 =
 Q8 (kM d (oP d)) Qd (n2,0,l1):=by kernel_rfl
noncomputable def BG (d:Nat) (de:t14) (mJ:t13) (BY lp BZ B3:t11) (B4:(Int×(List t5))) (vD B5 B6:t11) (yw:List (List t4)) (DS:t11) (b49:Bool):Option Bool :=
 aa b49 (
 some false) (
 Q1 (g19 (d+2) ((de.1.1.1,mJ.2,BY.2,lp.2,BZ.2,B3.2,B4.2,vD.2,de.1.1.2.2.2.2.2.2.2.2),(B5.2,B6.2),yw,de.1.2.2.2) 1) fun Ou =>
 aa (decide (Ou < 0)) (
 some false) (
 Q1 (g20 (d+2) DS.2 Ou) fun ZC =>
 aa (decide (ZC < 0)) (
 some false) (
 aa (ZC != DS.1) (
 some false) (
 some true))))
noncomputable def iZ (d:Nat) (x1:t2) (x2:t3) (r7 de:t14) (mJ:t13) (BY lp BZ B3:t11) (B4:(Int×(List t5))) (vD B5 B6:t11) (BW:Int) (yw:List (List t4)):Option Bool :=
 Q1 (g18 (d+2) de.2.1 BW) fun DS =>
 Q1 (g19 (d+2) ((de.1.1.1,mJ.2,BY.2,lp.2,BZ.2,B3.2,B4.2,vD.2,de.1.1.2.2.2.2.2.2.2.2),(B5.2,B6.2),yw,de.1.2.2.2) 1) fun ZD =>
 aa (decide (ZD < 0)) (
 some false) (
 Q1 (g20 (d+2) DS.2 ZD) fun ZE =>
 aa (decide (ZE < 0)) (
 some false) (
 aa (ZE != DS.1) (
 some false) (
 Q1 (g10 (d+2) x1) fun Ov =>
 Q1 (g11 (d+2) x2) fun r47 =>
 Q1 (g12 (d+2) Ov r47) fun Uh =>
 Q1 (g13 (d+2) Uh.1 r7.1) fun r49 =>
 aa (!r49) (
 BG d de mJ BY lp BZ B3 B4 vD B5 B6 yw DS true) (
 Q1 (g14 (d+2) Uh.2.1 r7.2.1) fun Ou =>
 aa (!Ou) (
 BG d de mJ BY lp BZ B3 B4 vD B5 B6 yw DS true) (
 BG d de mJ BY lp BZ B3 B4 vD B5 B6 yw DS (!(Uh.2.2==r7.2.2)))))))
noncomputable def qo (d:Nat) (er:Int->(List (List t4))->Option Bool) (Ui:(Int×Int×(List (List t4)))->Option Bool) (s:(Int×Int×(List (List t4)))):Option Bool :=
(fun BW rI (yx:List (List t4)) =>
 aa (decide (rI < (yx.length:Int))) (
 aa (decide (0<=rI)) (
 aa (Nat.blt (rI.toNat) yx.length) (
 Q1 (yx[rI.toNat]?) fun KQ =>
 Q1 (yx[rI.toNat]?) fun Ol =>
 aa (Nat.beq Ol.length KQ.length) (
 Q1 (wF d KQ BW) fun Ov =>
 Ui (Ov.1,(i64.wrap (rI+1)),(yx.set (rI.toNat) Ov.2))) none) none) none) (
 er BW yx)) s.1 s.2.1 s.2.2
noncomputable def wN (d:Nat) (x1:t2) (x2:t3) (r7 de:t14) (Tu:Bool):Option Bool :=
 aa Tu (
 some false) (
 Q1 (K8 d de.1.1.2.1 1) fun mJ =>
 Q1 (g18 d de.1.1.2.2.1 mJ.1) fun BY =>
 Q1 (g18 d de.1.1.2.2.2.1 BY.1) fun lp =>
 Q1 (g18 d de.1.1.2.2.2.2.1 lp.1) fun BZ =>
 Q1 (g18 d de.1.1.2.2.2.2.2.1 BZ.1) fun B3 =>
 Q1 (K7 d de.1.1.2.2.2.2.2.2.1 B3.1) fun B4 =>
 Q1 (g18 d de.1.1.2.2.2.2.2.2.2.1 B4.1) fun vD =>
 Q1 (g18 d de.1.2.1.1 vD.1) fun B5 =>
 Q1 (g18 d de.1.2.1.2 B5.1) fun B6 =>
 Q8 (qo d (iZ d x1 x2 r7 de mJ BY lp BZ B3 B4 vD B5 B6)) Qd (B6.1,0,de.1.2.2.1))
noncomputable def iY (d:Nat) (x1:t2) (x2:t3) (r7:t14) (r9:t3) (de:t14) (Ow:Int) (xy:List (List t4)):Option Bool :=
 Q1 (K8 (d+1) r9.2.1 Ow) fun TQ =>
 Q1 (K7 (d+1) r9.2.2.1 TQ.1) fun KJ =>
 aa (decide (KJ.1 < 0)) (
 wN d x1 x2 r7 de true) (
 Q1 (g13 (d+2) de.1 r7.1) fun TS =>
 aa (!TS) (
 wN d x1 x2 r7 de true) (
 Q1 (g14 (d+2) de.2.1 r7.2.1) fun mJ =>
 aa (!mJ) (
 wN d x1 x2 r7 de true) (
 wN d x1 x2 r7 de (!(de.2.2==r7.2.2)))))
noncomputable def nF (d:Nat) (er:Int->(List (List t4))->Option Bool) (Uj:(Int×Int×(List (List t4)))->Option Bool) (s:(Int×Int×(List (List t4)))):Option Bool :=
(fun Ow dK (ID:List (List t4)) =>
 aa (decide (dK < (ID.length:Int))) (
 aa (decide (0<=dK)) (
 aa (Nat.blt (dK.toNat) ID.length) (
 Q1 (ID[dK.toNat]?) fun lg =>
 Q1 (ID[dK.toNat]?) fun SL =>
 aa (Nat.beq SL.length lg.length) (
 Q1 (wF d lg Ow) fun mJ =>
 Uj (mJ.1,(i64.wrap (dK+1)),(ID.set (dK.toNat) mJ.2))) none) none) none) (
 er Ow ID)) s.1 s.2.1 s.2.2
noncomputable def BF (d:Nat) (x1:t2) (x2:t3) (r7:t14) (r8:t2) (r9:t3) (de:t14) (AM:Bool):Option Bool :=
 aa AM (
 some false) (
 Q1 (g10 (d+2) x1) fun j6 =>
 Q1 (g13 (d+2) r8 j6) fun tH =>
 aa (!tH) (
 some false) (
 Q1 (g11 (d+2) x2) fun jA =>
 Q1 (g15 (d+2) r9 jA) fun vz =>
 aa (!vz) (
 some false) (
 Q1 (K8 d r8.1.2.1 1) fun oV =>
 Q1 (g18 d r8.1.2.2.1 oV.1) fun Fq =>
 Q1 (g18 d r8.1.2.2.2.1 Fq.1) fun BL =>
 Q1 (g18 d r8.1.2.2.2.2.1 BL.1) fun vA =>
 Q1 (g18 d r8.1.2.2.2.2.2.1 vA.1) fun BJ =>
 Q1 (K7 d r8.1.2.2.2.2.2.2.1 BJ.1) fun T5 =>
 Q1 (g18 d r8.1.2.2.2.2.2.2.2.1 T5.1) fun ox =>
 Q1 (g18 d r8.2.1.1 ox.1) fun vE =>
 Q1 (g18 d r8.2.1.2 vE.1) fun Ki =>
 Q8 (nF d (iY d x1 x2 r7 r9 de)) Qd (Ki.1,0,r8.2.2.1))))
theorem e3 (d:Nat) (x1:t2) (x2:t3):g3 (d+3) x1 x2 =
 Q1 (g7 (d+2) x1 1048576) fun r3 =>
 aa (decide (r3 < 0)) (
 some true) (
 Q1 (g8 (d+2) x2 r3) fun r4 =>
 aa (decide (r4 < 0)) (
 some true) (
 Q1 (g10 (d+2) x1) fun r5 =>
 Q1 (g11 (d+2) x2) fun r6 =>
 Q1 (g9 (d+2) r5 r6) fun r7 =>
 Q1 (g10 (d+2) x1) fun r8 =>
 Q1 (g11 (d+2) x2) fun r9 =>
 Q1 (g12 (d+2) r8 r9) fun de =>
 Q1 (g13 (d+2) de.1 r7.1) fun gU =>
 aa (!gU) (
 BF d x1 x2 r7 r8 r9 de true) (
 Q1 (g14 (d+2) de.2.1 r7.2.1) fun j6 =>
 aa (!j6) (
 BF d x1 x2 r7 r8 r9 de true) (
 BF d x1 x2 r7 r8 r9 de (!(de.2.2==r7.2.2)))))):=by kernel_rfl
end Go.Proofs.YtcoimfbmgjhcjaaGreatDoor
