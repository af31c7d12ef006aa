/-
  The residual forms of the program's functions under the interpreter by value, printed by program (wip/pv/gen2.py); each equation is checked by the kernel.
  Conditions: none.
-/
import Derived.Test.YtnnmeljlcdmljaaGreatDoorFnExactWaitingInResA
import Derived.KernelRfl
set_option linter.all false
set_option maxRecDepth 1000000
namespace Go.Proofs.YtnnmeljlcdmljaaGreatDoor
open Go.Ev Go.Pv
open IntKind (i64 u64)
theorem e44 (d:Nat) (l1:List t1) (n2:Int):g44 (d+1) l1 n2 =
 oif (decide (((i64.wrap (n2 - (l1.length:Int))):Int) < 0)) (
 some (-1)) (
 some (i64.wrap (n2 - (l1.length:Int)))):=by kernel_rfl
theorem e45 (d:Nat) (l1:List t4) (n2:Int):g45 (d+1) l1 n2 =
 oif (decide (((i64.wrap (n2 - (l1.length:Int))):Int) < 0)) (
 some (-1)) (
 some (i64.wrap (n2 - (l1.length:Int)))):=by kernel_rfl
theorem e71 (d:Nat) (l1:List Int) (n2:Int):g71 (d+1) l1 n2 =
 oif (decide (((i64.wrap (n2 - (l1.length:Int))):Int) < 0)) (
 some (-1)) (
 some (i64.wrap (n2 - (l1.length:Int)))):=by kernel_rfl
theorem e30 (d:Nat) (x1:t0) (n2:Int):g30 (d+1) x1 n2 =
 oif (decide (((i64.wrap (n2 - (x1.1.size:Int))):Int) < 0)) (
 some (-1)) (
 Q1 (g44 d x1.2.1 (i64.wrap (n2 - (x1.1.size:Int)))) fun r3 =>
 oif (decide (r3 < 0)) (
 some (-1)) (
 Q1 (g71 d x1.2.2.1 r3) fun r4 =>
 oif (decide (r4 < 0)) (
 some (-1)) (
 Q1 (g71 d x1.2.2.2.1 r4) fun r5 =>
 oif (decide (r5 < 0)) (
 some (-1)) (
 Q1 (g71 d x1.2.2.2.2.1 r5) fun r6 =>
 oif (decide (r6 < 0)) (
 some (-1)) (
 Q1 (g71 d x1.2.2.2.2.2.1 r6) fun r7 =>
 oif (decide (r7 < 0)) (
 some (-1)) (
 Q1 (g45 d x1.2.2.2.2.2.2.1 r7) fun r8 =>
 oif (decide (r8 < 0)) (
 some (-1)) (
 Q1 (g71 d x1.2.2.2.2.2.2.2.1 r8) fun r9 =>
 oif (decide (r9 < 0)) (
 some (-1)) (
 some r9)))))))):=by kernel_rfl
theorem e31 (d:Nat) (x1:t9) (n2:Int):g31 (d+1) x1 n2 =
 Q1 (g71 d x1.1 n2) fun r3 =>
 oif (decide (r3 < 0)) (
 some (-1)) (
 Q1 (g71 d x1.2 r3) fun r4 =>
 oif (decide (r4 < 0)) (
 some (-1)) (
 some r4)):=by kernel_rfl
theorem e72 (d:Nat) (l1:List t3) (n2:Int):g72 (d+1) l1 n2 =
 oif (decide (((i64.wrap (n2 - (l1.length:Int))):Int) < 0)) (
 some (-1)) (
 some (i64.wrap (n2 - (l1.length:Int)))):=by kernel_rfl
noncomputable def j32_0 (d:Nat) (n4:Int) (n5:Int):Option Int :=
 some n4
noncomputable def l32_0 (d:Nat) (l1:List (List t3)) (kx32_0_0:Int→Int→Option Int) (ag3:(Int×Int×Int)→Option Int) (s:(Int×Int×Int)):Option Int :=
(fun n4 n5 n6 =>
 oif (decide (n6 < (l1.length:Int))) (
 oif (decide (0≤n6)) (
 Q1 (l1[n6.toNat]?) fun l7 =>
 Q1 (g72 d l7 n4) fun r8 =>
 oif (decide (r8 < 0)) (
 some (-1)) (
 ag3 (r8,n5,(i64.wrap (n6+1))))) none) (
 kx32_0_0 n4 n5)) s.1 s.2.1 s.2.2
theorem e32 (d:Nat) (l1:List (List t3)) (n2:Int):g32 (d+1) l1 n2 =
 oif (decide (((i64.wrap (n2 - (l1.length:Int))):Int) < 0)) (
 some (-1)) (
 Qa (l32_0 d l1 (j32_0 d)) Qf ((i64.wrap (n2 - (l1.length:Int))),0,0)):=by kernel_rfl
theorem e7 (d:Nat) (x1:t5) (n2:Int):g7 (d+1) x1 n2 =
 Q1 (g30 d x1.1 n2) fun r3 =>
 oif (decide (r3 < 0)) (
 some (-1)) (
 Q1 (g31 d x1.2.1 r3) fun r4 =>
 oif (decide (r4 < 0)) (
 some (-1)) (
 Q1 (g32 d x1.2.2.1 r4) fun r5 =>
 oif (decide (r5 < 0)) (
 some (-1)) (
 some r5))):=by kernel_rfl
theorem e75 (d:Nat) (n1:Int) (n2:Int) (n3:Int):g75 (d+1) n1 n2 n3 =
 oif (decide (n1≥n2)) (
 some (decide (n1≤n3))) (
 some false):=by kernel_rfl
theorem e105 (d:Nat) (n1:Int):g105 (d+1) n1 =
 Q1 (g75 d n1 0 65535) fun r2 =>
 some r2:=by kernel_rfl
theorem e60 (d:Nat) (x1:t3):g60 (d+1) x1 =
 Q1 (g75 d x1.1 1 100000) fun r2 =>
 oif r2 (
 Q1 (g105 d x1.2.1) fun r3 =>
 oif r3 (
 Q1 (g105 d x1.2.2.1) fun r4 =>
 oif r4 (
 Q1 (g105 d x1.2.2.2.1) fun r5 =>
 oif r5 (
 Q1 (g105 d x1.2.2.2.2.1) fun r6 =>
 oif r6 (
 Q1 (g75 d x1.2.2.2.2.2 1 1500) fun r7 =>
 some r7) (
 some false)) (
 some false)) (
 some false)) (
 some false)) (
 some false):=by kernel_rfl
noncomputable def j163_0 (d:Nat) (b4:Bool):Option Bool :=
 some false
noncomputable def l163_0 (d:Nat) (l1:List ByteArray) (s2:ByteArray) (kx163_0_0:Bool→Option Bool) (ag3:t7→Option Bool) (s:t7):Option Bool :=
(fun (b4:Bool) n5 =>
 oif (decide (n5 < (l1.length:Int))) (
 oif (decide (0≤n5)) (
 Q1 (l1[n5.toNat]?) fun s6 =>
 oif (s6.toList==s2.toList) (
 some true) (
 ag3 (b4,(i64.wrap (n5+1))))) none) (
 kx163_0_0 b4)) s.1 s.2
theorem e163 (d:Nat) (l1:List ByteArray) (s2:ByteArray):g163 (d+1) l1 s2 =
 Qa (l163_0 d l1 s2 (j163_0 d)) Qf (false,0):=by kernel_rfl
theorem e164 (d:Nat):g164 (d+1) =
 some [(⟨#[113,100,105,115,99]⟩:ByteArray),(⟨#[100,101,102,97,117,108,116]⟩:ByteArray),(⟨#[99,108,97,115,115]⟩:ByteArray),(⟨#[114,97,116,101]⟩:ByteArray),(⟨#[99,101,105,108]⟩:ByteArray),(⟨#[98,117,114,115,116]⟩:ByteArray),(⟨#[99,98,117,114,115,116]⟩:ByteArray),(⟨#[112,114,105,111]⟩:ByteArray),(⟨#[108,105,109,105,116]⟩:ByteArray),(⟨#[102,105,108,116,101,114]⟩:ByteArray),(⟨#[115,111,117,114,99,101]⟩:ByteArray),(⟨#[100,101,115,116]⟩:ByteArray),(⟨#[112,111,114,116]⟩:ByteArray),(⟨#[109,97,114,107]⟩:ByteArray)]:=by kernel_rfl
theorem e128 (d:Nat) (s1:ByteArray):g128 (d+1) s1 =
 Q1 (g164 d) fun r2 =>
 Q1 (g163 d r2 s1) fun r3 =>
 some r3:=by kernel_rfl
noncomputable def j88_0 (d:Nat) (s1:ByteArray) (b3:Bool):Option Bool :=
 Q1 (g75 d (s1.size:Int) 1 8) fun r4 =>
 oif r4 (
 Q1 (g128 d s1) fun r5 =>
 some (!r5)) (
 some false)
noncomputable def l88_0 (d:Nat) (s1:ByteArray) (kx88_0_0:Bool→Option Bool) (ag2:t7→Option Bool) (s:t7):Option Bool :=
(fun (b3:Bool) n4 =>
 oif (decide (n4 < (s1.size:Int))) (
 oif (decide (0≤n4)) (
 Q1 (s1.data.toList[n4.toNat]?) fun c5 =>
 oif (decide ((c5.toNat:Int) < 97)) (
 some false) (
 oif (decide (0≤n4)) (
 Q1 (s1.data.toList[n4.toNat]?) fun c6 =>
 oif (decide ((c6.toNat:Int) > 122)) (
 some false) (
 ag2 (b3,(i64.wrap (n4+1))))) none)) none) (
 kx88_0_0 b3)) s.1 s.2
theorem e88 (d:Nat) (s1:ByteArray):g88 (d+1) s1 =
 Qa (l88_0 d s1 (j88_0 d s1)) Qf (false,0):=by kernel_rfl
theorem e129 (d:Nat) (x1:t1):g129 (d+1) x1 =
 Q1 (g75 d x1.1 1 999) fun r2 =>
 oif r2 (
 Q1 (g75 d x1.2.2.1 1 100000) fun r3 =>
 oif r3 (
 Q1 (g75 d x1.2.2.2.1 x1.2.2.1 100000) fun r4 =>
 oif r4 (
 Q1 (g75 d x1.2.2.2.2.1 1500 1000000) fun r5 =>
 oif r5 (
 Q1 (g75 d x1.2.2.2.2.2.1 1500 1000000) fun r6 =>
 oif r6 (
 Q1 (g75 d x1.2.2.2.2.2.2.1 0 7) fun r7 =>
 some r7) (
 some false)) (
 some false)) (
 some false)) (
 some false)) (
 some false):=by kernel_rfl
noncomputable def j134_0 (d:Nat) (n4:Int):Option Int :=
 some (-1)
noncomputable def l134_0 (d:Nat) (x1:t2) (n2:Int) (kx134_0_0:Int→Option Int) (ag3:t8→Option Int) (s:t8):Option Int :=
(fun n4 n5 =>
 oif (decide (n5 < (x1.2.1.length:Int))) (
 oif (decide (0≤n5)) (
 Q1 (x1.2.1[n5.toNat]?) fun x6 =>
 oif (x6.1==n2) (
 some n5) (
 ag3 (n4,(i64.wrap (n5+1))))) none) (
 kx134_0_0 n4)) s.1 s.2
theorem e134 (d:Nat) (x1:t2) (n2:Int):g134 (d+1) x1 n2 =
 Qa (l134_0 d x1 n2 (j134_0 d)) Qf (0,0):=by kernel_rfl
noncomputable def j130_0 (d:Nat) (l4:List Int):Option (List Int) :=
 some l4
noncomputable def j130_1 (d:Nat) (kx130_0_0:(List Int)→Option (List Int)) (x1:t2) (ag3:t13→Option (List Int)) (n4:Int) (l5:List Int) (b6:Bool) (b7:Bool):Option (List Int) :=
 oif b7 (
 oif (Nat.ble ((l5.length+[n4].length)*8) Q7) (
 oif (decide (0≤n4)) (
 Q1 (x1.2.1[n4.toNat]?) fun x8 =>
 Q1 (g134 d x1 x8.2.1) fun r9 =>
 ag3 (r9,(l5++[n4]))) none) none) (
 kx130_0_0 l5)
noncomputable def l130_0 (d:Nat) (x1:t2) (kx130_0_0:(List Int)→Option (List Int)) (ag3:t13→Option (List Int)) (s:t13):Option (List Int) :=
(fun n4 (l5:List Int) =>
 oif (decide (n4≥0)) (
 j130_1 d kx130_0_0 x1 ag3 n4 l5 true (decide ((l5.length:Int)≤8))) (
 j130_1 d kx130_0_0 x1 ag3 n4 l5 false false)) s.1 s.2
theorem e130 (d:Nat) (x1:t2) (n2:Int):g130 (d+1) x1 n2 =
 Qa (l130_0 d x1 (j130_0 d)) Qf (n2,[]):=by kernel_rfl
noncomputable def j152_0 (d:Nat) (l4:List Int):Option (List Int) :=
 some l4
noncomputable def l152_0 (d:Nat) (x1:t2) (n2:Int) (kx152_0_0:(List Int)→Option (List Int)) (ag3:t11→Option (List Int)) (s:t11):Option (List Int) :=
(fun (l4:List Int) n5 =>
 oif (decide (n5 < (x1.2.1.length:Int))) (
 oif (decide (0≤n5)) (
 Q1 (x1.2.1[n5.toNat]?) fun x6 =>
 oif (decide (0≤n2)) (
 Q1 (x1.2.1[n2.toNat]?) fun x7 =>
 oif (x6.2.1==x7.1) (
 oif (Nat.ble ((l4.length+[n5].length)*8) Q7) (
 ag3 ((l4++[n5]),(i64.wrap (n5+1)))) none) (
 ag3 (l4,(i64.wrap (n5+1))))) none) none) (
 kx152_0_0 l4)) s.1 s.2
theorem e152 (d:Nat) (x1:t2) (n2:Int):g152 (d+1) x1 n2 =
 Qa (l152_0 d x1 n2 (j152_0 d)) Qf ([],0):=by kernel_rfl
noncomputable def j131_0 (d:Nat) (n6:Int):Option Int :=
 some n6
noncomputable def l131_0 (d:Nat) (x1:t2) (r4:List Int) (kx131_0_0:Int→Option Int) (ag5:t8→Option Int) (s:t8):Option Int :=
(fun n6 n7 =>
 oif (decide (n7 < (r4.length:Int))) (
 oif (decide (0≤n7)) (
 oif (Nat.blt (n7.toNat) r4.length) (
 Q1 (r4[n7.toNat]?) fun n8 =>
 oif (decide (0≤n8)) (
 Q1 (x1.2.1[n8.toNat]?) fun x9 =>
 ag5 ((i64.wrap (n6 - x9.2.2.1)),(i64.wrap (n7+1)))) none) none) none) (
 kx131_0_0 n6)) s.1 s.2
theorem e131 (d:Nat) (x1:t2) (n2:Int):g131 (d+1) x1 n2 =
 oif (decide (0≤n2)) (
 Q1 (x1.2.1[n2.toNat]?) fun x3 =>
 Q1 (g152 d x1 n2) fun r4 =>
 Qa (l131_0 d x1 r4 (j131_0 d)) Qf (x3.2.2.1,0)) none:=by kernel_rfl
theorem e132 (d:Nat) (x1:t2) (n2:Int):g132 (d+1) x1 n2 =
 Q1 (g152 d x1 n2) fun r3 =>
 some ((r3.length:Int)==0):=by kernel_rfl
noncomputable def j89_0 (d:Nat) (b6:Bool):Option Bool :=
 some true
noncomputable def j89_1 (d:Nat) (ag5:t7→Option Bool) (b6:Bool) (n7:Int) (b14:Bool) (b15:Bool) (b16:Bool) (b17:Bool) (b18:Bool):Option Bool :=
 oif b18 (
 some false) (
 ag5 (b6,(i64.wrap (n7+1))))
noncomputable def j89_2 (d:Nat) (x1:t2) (ag5:t7→Option Bool) (b6:Bool) (n7:Int) (x8:t1) (b10:Bool) (b11:Bool) (b12:Bool) (b13:Bool):Option Bool :=
 oif b13 (
 some false) (
 Q1 (g132 d x1 n7) fun r14 =>
 oif r14 (
 Q1 (g75 d x8.2.2.2.2.2.2.2 1 60) fun r15 =>
 oif (!r15) (
 j89_1 d ag5 b6 n7 r14 true (!r15) true true) (
 Q1 (g132 d x1 n7) fun r16 =>
 oif (!r16) (
 j89_1 d ag5 b6 n7 r14 true (!r15) false (x8.2.2.2.2.2.2.2 != 0)) (
 j89_1 d ag5 b6 n7 r14 true (!r15) false false))) (
 Q1 (g132 d x1 n7) fun r17 =>
 oif (!r17) (
 j89_1 d ag5 b6 n7 r14 false false false (x8.2.2.2.2.2.2.2 != 0)) (
 j89_1 d ag5 b6 n7 r14 false false false false)))
noncomputable def l89_1 (d:Nat) (x1:t2) (kx89_1_0:Bool→Option Bool) (ag5:t7→Option Bool) (s:t7):Option Bool :=
(fun (b6:Bool) n7 =>
 oif (decide (n7 < (x1.2.1.length:Int))) (
 oif (decide (0≤n7)) (
 Q1 (x1.2.1[n7.toNat]?) fun x8 =>
 Q1 (g130 d x1 n7) fun r9 =>
 oif (decide ((r9.length:Int) > 8)) (
 j89_2 d x1 ag5 b6 n7 x8 true true true true) (
 oif (decide (0≤((i64.wrap ((r9.length:Int) - 1)):Int))) (
 oif (Nat.blt (((i64.wrap ((r9.length:Int) - 1)):Int).toNat) r9.length) (
 Q1 (r9[((i64.wrap ((r9.length:Int) - 1)):Int).toNat]?) fun n10 =>
 oif (decide (0≤n10)) (
 Q1 (x1.2.1[n10.toNat]?) fun x11 =>
 oif (x11.2.1 != 0) (
 j89_2 d x1 ag5 b6 n7 x8 false (x11.2.1 != 0) true true) (
 Q1 (g131 d x1 n7) fun r12 =>
 j89_2 d x1 ag5 b6 n7 x8 false (x11.2.1 != 0) false (decide (r12 < 0)))) none) none) none)) none) (
 kx89_1_0 b6)) s.1 s.2
noncomputable def j89_3 (d:Nat) (x1:t2) (b3:Bool) (n4:Int):Option Bool :=
 oif (n4 != 1) (
 some false) (
 Qa (l89_1 d x1 (j89_0 d)) Qf (b3,0))
noncomputable def j89_4 (d:Nat) (ag2:(Bool×Int×Int)→Option Bool) (b3:Bool) (n4:Int) (n5:Int) (x6:t1) (b7:Bool) (b8:Bool) (b9:Bool) (b10:Bool):Option Bool :=
 oif b10 (
 some false) (
 oif (x6.2.1==0) (
 ag2 (b3,(i64.wrap (n4+1)),(i64.wrap (n5+1)))) (
 ag2 (b3,n4,(i64.wrap (n5+1)))))
noncomputable def l89_0 (d:Nat) (x1:t2) (kx89_0_0:Bool→Int→Option Bool) (ag2:(Bool×Int×Int)→Option Bool) (s:(Bool×Int×Int)):Option Bool :=
(fun (b3:Bool) n4 n5 =>
 oif (decide (n5 < (x1.2.1.length:Int))) (
 oif (decide (0≤n5)) (
 Q1 (x1.2.1[n5.toNat]?) fun x6 =>
 Q1 (g129 d x6) fun r7 =>
 oif (!r7) (
 j89_4 d ag2 b3 n4 n5 x6 r7 (!r7) true true) (
 oif (decide (n5 > 0)) (
 oif (decide (0≤((i64.wrap (n5 - 1)):Int))) (
 Q1 (x1.2.1[((i64.wrap (n5 - 1)):Int).toNat]?) fun x8 =>
 j89_4 d ag2 b3 n4 n5 x6 r7 (!r7) false (decide (x8.1≥x6.1))) none) (
 j89_4 d ag2 b3 n4 n5 x6 r7 (!r7) false false))) none) (
 kx89_0_0 b3 n4)) s.1 s.2.1 s.2.2
theorem e89 (d:Nat) (x1:t2):g89 (d+1) x1 =
 Qa (l89_0 d x1 (j89_3 d x1)) Qf (false,0,0):=by kernel_rfl
theorem e91 (d:Nat) (x1:t2) (n2:Int):g91 (d+1) x1 n2 =
 Q1 (g134 d x1 n2) fun r3 =>
 oif (decide (r3≥0)) (
 Q1 (g132 d x1 r3) fun r4 =>
 some r4) (
 some false):=by kernel_rfl
theorem e133 (d:Nat) (x1:t4):g133 (d+1) x1 =
 Q1 (g75 d x1.1 1 99) fun r2 =>
 oif r2 (
 Q1 (g75 d x1.2.1 0 3) fun r3 =>
 oif r3 (
 Q1 (g75 d x1.2.2.1 0 65535) fun r4 =>
 oif r4 (
 Q1 (g75 d x1.2.2.2.1 0 65535) fun r5 =>
 oif r5 (
 some (((i64.wrap ((BitVec.ofInt i64.bits x1.2.2.2.1 &&& BitVec.ofInt i64.bits x1.2.2.1).toNat:Int)):Int)==x1.2.2.2.1)) (
 some false)) (
 some false)) (
 some false)) (
 some false):=by kernel_rfl
noncomputable def j90_0 (d:Nat) (x1:t2) (b3:Bool):Option Bool :=
 some (decide ((x1.2.2.1.length:Int)≤16))
noncomputable def j90_1 (d:Nat) (ag2:t7→Option Bool) (b3:Bool) (n4:Int) (b6:Bool) (b7:Bool) (b8:Bool) (b9:Bool) (b10:Bool) (b11:Bool):Option Bool :=
 oif b11 (
 some false) (
 ag2 (b3,(i64.wrap (n4+1))))
noncomputable def l90_0 (d:Nat) (x1:t2) (kx90_0_0:Bool→Option Bool) (ag2:t7→Option Bool) (s:t7):Option Bool :=
(fun (b3:Bool) n4 =>
 oif (decide (n4 < (x1.2.2.1.length:Int))) (
 oif (decide (0≤n4)) (
 Q1 (x1.2.2.1[n4.toNat]?) fun x5 =>
 Q1 (g133 d x5) fun r6 =>
 oif (!r6) (
 j90_1 d ag2 b3 n4 r6 (!r6) true true true true) (
 oif (decide (n4 > 0)) (
 oif (decide (0≤((i64.wrap (n4 - 1)):Int))) (
 Q1 (x1.2.2.1[((i64.wrap (n4 - 1)):Int).toNat]?) fun x7 =>
 oif (decide (x7.1≥x5.1)) (
 j90_1 d ag2 b3 n4 r6 (!r6) false (decide (x7.1≥x5.1)) true true) (
 Q1 (g91 d x1 x5.2.2.2.2) fun r8 =>
 j90_1 d ag2 b3 n4 r6 (!r6) false (decide (x7.1≥x5.1)) false (!r8))) none) (
 Q1 (g91 d x1 x5.2.2.2.2) fun r9 =>
 j90_1 d ag2 b3 n4 r6 (!r6) false false false (!r9)))) none) (
 kx90_0_0 b3)) s.1 s.2
theorem e90 (d:Nat) (x1:t2):g90 (d+1) x1 =
 Qa (l90_0 d x1 (j90_0 d x1)) Qf (false,0):=by kernel_rfl
theorem e46 (d:Nat) (x1:t2):g46 (d+1) x1 =
 Q1 (g88 d x1.1) fun r2 =>
 oif r2 (
 Q1 (g75 d (x1.2.1.length:Int) 1 24) fun r3 =>
 oif r3 (
 Q1 (g89 d x1) fun r4 =>
 oif r4 (
 Q1 (g90 d x1) fun r5 =>
 oif r5 (
 oif (x1.2.2.2==0) (
 some true) (
 Q1 (g91 d x1 x1.2.2.2) fun r6 =>
 some r6)) (
 some false)) (
 some false)) (
 some false)) (
 some false):=by kernel_rfl
noncomputable def j104_0 (d:Nat) (l1:List t1) (x2:t1) (n4:Int):Option (List t1) :=
 oif (decide (0≤n4)) (
 oif (Nat.ble (n4.toNat) l1.length) (
 oif (Nat.ble ((([]:List t1).length+(l1.take (n4.toNat)).length)*64) Q7) (
 oif (Nat.ble (((([]:List t1)++(l1.take (n4.toNat))).length+[x2].length)*64) Q7) (
 oif (decide (0≤n4)) (
 oif (Nat.ble (n4.toNat) l1.length) (
 oif (Nat.ble ((((([]:List t1)++(l1.take (n4.toNat)))++[x2]).length+(l1.drop (n4.toNat)).length)*64) Q7) (
 some (((([]:List t1)++(l1.take (n4.toNat)))++[x2])++(l1.drop (n4.toNat)))) none) none) none) none) none) none) none
noncomputable def l104_0 (d:Nat) (l1:List t1) (x2:t1) (kx104_0_0:Int→Option (List t1)) (ag3:Int→Option (List t1)) (s:Int):Option (List t1) :=
(fun n4 =>
 oif (decide (n4 < (l1.length:Int))) (
 oif (decide (0≤n4)) (
 Q1 (l1[n4.toNat]?) fun x5 =>
 oif (decide (x5.1 < x2.1)) (
 ag3 (i64.wrap (n4+1))) (
 kx104_0_0 n4)) none) (
 kx104_0_0 n4)) s
theorem e104 (d:Nat) (l1:List t1) (x2:t1):g104 (d+1) l1 x2 =
 Qa (l104_0 d l1 x2 (j104_0 d l1 x2)) Qf 0:=by kernel_rfl
noncomputable def j57_0 (d:Nat) (x1:t0) (s3:ByteArray) (n4:Int) (l5:List t1) (l6:List t4):Option t2 :=
 Q1 (g75 d x1.2.2.2.2.2.2.2.2 0 (i64.wrap ((x1.2.1.length:Int) - 1))) fun r7 =>
 oif r7 (
 oif (decide (0≤x1.2.2.2.2.2.2.2.2)) (
 Q1 (x1.2.1[x1.2.2.2.2.2.2.2.2.toNat]?) fun x8 =>
 some (s3,l5,l6,x8.1)) none) (
 some (s3,l5,l6,n4))
noncomputable def l57_0 (d:Nat) (x1:t0) (kx57_0_0:ByteArray→Int→(List t1)→(List t4)→Option t2) (ag2:(Int×t2)→Option t2) (s:(Int×t2)):Option t2 :=
(fun n3 (x4:t2) =>
 oif (decide (n3 < (x1.2.1.length:Int))) (
 oif (decide (0≤n3)) (
 Q1 (x1.2.1[n3.toNat]?) fun x5 =>
 Q1 (g104 d x4.2.1 x5) fun r6 =>
 ag2 ((i64.wrap (n3+1)),(x4.1,r6,x4.2.2))) none) (
 kx57_0_0 x4.1 x4.2.2.2 x4.2.1 x4.2.2.1)) s.1 s.2
theorem e57 (d:Nat) (x1:t0):g57 (d+1) x1 =
 oif (Nat.ble ((([]:List t4).length+x1.2.2.2.2.2.2.1.length)*40) Q7) (
 Qa (l57_0 d x1 (j57_0 d x1)) Qf (0,(x1.1,[],(([]:List t4)++x1.2.2.2.2.2.2.1),0))) none:=by kernel_rfl
noncomputable def j150_0 (d:Nat) (l5:List Int):Option (List Int) :=
 some l5
noncomputable def l150_0 (d:Nat) (x1:t2) (r3:List Int) (kx150_0_0:(List Int)→Option (List Int)) (ag4:t11→Option (List Int)) (s:t11):Option (List Int) :=
(fun (l5:List Int) n6 =>
 oif (decide (n6 < (r3.length:Int))) (
 oif (decide (0≤n6)) (
 oif (Nat.blt (n6.toNat) r3.length) (
 Q1 (r3[n6.toNat]?) fun n7 =>
 Q1 (g150 d x1 n7) fun r8 =>
 oif (Nat.ble ((l5.length+r8.length)*8) Q7) (
 ag4 ((l5++r8),(i64.wrap (n6+1)))) none) none) none) (
 kx150_0_0 l5)) s.1 s.2
theorem e150 (d:Nat) (x1:t2) (n2:Int):g150 (d+1) x1 n2 =
 Q1 (g152 d x1 n2) fun r3 =>
 Qa (l150_0 d x1 r3 (j150_0 d)) Qf ([n2],0):=by kernel_rfl
noncomputable def j151_0 (d:Nat) (n3:Int):Option Int :=
 some n3
noncomputable def l151_0 (d:Nat) (x1:t2) (kx151_0_0:Int→Option Int) (ag2:Int→Option Int) (s:Int):Option Int :=
(fun n3 =>
 oif (decide (0≤n3)) (
 Q1 (x1.2.1[n3.toNat]?) fun x4 =>
 oif (x4.2.1 != 0) (
 ag2 (i64.wrap (n3+1))) (
 kx151_0_0 n3)) none) s
theorem e151 (d:Nat) (x1:t2):g151 (d+1) x1 =
 Qa (l151_0 d x1 (j151_0 d)) Qf 0:=by kernel_rfl
noncomputable def j107_0 (d:Nat) (x1:t2) (l5:List Int) (s17:ByteArray) (n18:Int) (l19:List t1) (l20:List Int) (l21:List Int) (l22:List Int) (l23:List Int) (l24:List t4) (l25:List Int):Option t0 :=
 oif (x1.2.2.2 != 0) (
 Q1 (g134 d x1 x1.2.2.2) fun r26 =>
 oif (decide (0≤r26)) (
 oif (Nat.blt (r26.toNat) l5.length) (
 Q1 (l5[r26.toNat]?) fun n27 =>
 some (s17,l19,l20,l21,l22,l23,l24,l25,n27)) none) none) (
 some (s17,l19,l20,l21,l22,l23,l24,l25,n18))
noncomputable def l107_3 (d:Nat) (x1:t2) (l5:List Int) (kx107_3_0:ByteArray→Int→(List t1)→(List Int)→(List Int)→(List Int)→(List Int)→(List t4)→(List Int)→Option t0) (ag16:(Int×t0)→Option t0) (s:(Int×t0)):Option t0 :=
(fun n17 (x18:t0) =>
 oif (decide (n17 < (x1.2.2.1.length:Int))) (
 oif (decide (0≤n17)) (
 Q1 (x1.2.2.1[n17.toNat]?) fun x19 =>
 Q1 (g134 d x1 x19.2.2.2.2) fun r20 =>
 oif (decide (0≤r20)) (
 oif (Nat.blt (r20.toNat) l5.length) (
 Q1 (l5[r20.toNat]?) fun n21 =>
 oif (Nat.ble ((x18.2.2.2.2.2.2.2.1.length+[n21].length)*8) Q7) (
 ag16 ((i64.wrap (n17+1)),(x18.1,x18.2.1,x18.2.2.1,x18.2.2.2.1,x18.2.2.2.2.1,x18.2.2.2.2.2.1,x18.2.2.2.2.2.2.1,(x18.2.2.2.2.2.2.2.1++[n21]),x18.2.2.2.2.2.2.2.2))) none) none) none) none) (
 kx107_3_0 x18.1 x18.2.2.2.2.2.2.2.2 x18.2.1 x18.2.2.1 x18.2.2.2.1 x18.2.2.2.2.1 x18.2.2.2.2.2.1 x18.2.2.2.2.2.2.1 x18.2.2.2.2.2.2.2.1)) s.1 s.2
noncomputable def j107_1 (d:Nat) (x1:t2) (l5:List Int) (s7:ByteArray) (n8:Int) (l9:List t1) (l10:List Int) (l11:List Int) (l12:List Int) (l13:List Int) (l14:List t4) (l15:List Int):Option t0 :=
 Qa (l107_3 d x1 l5 (j107_0 d x1 l5)) Qf (0,(s7,l9,l10,l11,l12,l13,l14,l15,n8))
noncomputable def j107_2 (d:Nat) (x1:t2) (ag6:(Int×t0)→Option t0) (n7:Int) (x8:t0) (n9:Int) (x10:t1) (n13:Int) (n14:Int) (n17:Int) (b18:Bool):Option t0 :=
 oif (Nat.ble ((x8.2.2.1.length+[n13].length)*8) Q7) (
 oif (Nat.ble ((x8.2.2.2.1.length+[n17].length)*8) Q7) (
 oif (Nat.ble ((x8.2.2.2.2.1.length+[n14].length)*8) Q7) (
 Q1 (g150 d x1 n9) fun r19 =>
 oif (Nat.ble ((x8.2.2.2.2.2.1.length+[(i64.wrap (n7+(r19.length:Int)))].length)*8) Q7) (
 ag6 ((i64.wrap (n7+1)),(x8.1,(x8.2.1++[x10]),(x8.2.2.1++[n13]),(x8.2.2.2.1++[n17]),(x8.2.2.2.2.1++[n14]),(x8.2.2.2.2.2.1++[(i64.wrap (n7+(r19.length:Int)))]),x8.2.2.2.2.2.2))) none) none) none) none
noncomputable def j107_3 (d:Nat) (x1:t2) (l5:List Int) (ag6:(Int×t0)→Option t0) (n7:Int) (x8:t0) (n9:Int) (x10:t1) (n13:Int) (n14:Int) (b15:Bool):Option t0 :=
 Q1 (g152 d x1 n9) fun r16 =>
 oif (decide ((r16.length:Int) > 0)) (
 oif (Nat.blt 0 r16.length) (
 Q1 (r16[0]?) fun n17 =>
 oif (decide (0≤n17)) (
 oif (Nat.blt (n17.toNat) l5.length) (
 Q1 (l5[n17.toNat]?) fun n18 =>
 j107_2 d x1 ag6 n7 x8 n9 x10 n13 n14 n18 true) none) none) none) (
 j107_2 d x1 ag6 n7 x8 n9 x10 n13 n14 (-1) false)
noncomputable def j107_4 (d:Nat) (x1:t2) (l5:List Int) (ag6:(Int×t0)→Option t0) (n7:Int) (x8:t0) (n9:Int) (x10:t1) (n13:Int) (n16:Int) (n17:Int):Option t0 :=
 j107_3 d x1 l5 ag6 n7 x8 n9 x10 n13 n16 true
noncomputable def j107_5 (d:Nat) (l5:List Int) (r14:List Int) (ag15:t8→Option t0) (n16:Int) (n17:Int) (b19:Bool) (b20:Bool):Option t0 :=
 oif b20 (
 oif (decide (0≤((i64.wrap (n17+1)):Int))) (
 oif (Nat.blt (((i64.wrap (n17+1)):Int).toNat) r14.length) (
 Q1 (r14[((i64.wrap (n17+1)):Int).toNat]?) fun n21 =>
 oif (decide (0≤n21)) (
 oif (Nat.blt (n21.toNat) l5.length) (
 Q1 (l5[n21.toNat]?) fun n22 =>
 ag15 (n22,(i64.wrap (n17+1)))) none) none) none) none) (
 ag15 (n16,(i64.wrap (n17+1))))
noncomputable def l107_2 (d:Nat) (l5:List Int) (n9:Int) (r14:List Int) (kx107_2_0:Int→Int→Option t0) (ag15:t8→Option t0) (s:t8):Option t0 :=
(fun n16 n17 =>
 oif (decide (n17 < (r14.length:Int))) (
 oif (decide (0≤n17)) (
 oif (Nat.blt (n17.toNat) r14.length) (
 Q1 (r14[n17.toNat]?) fun n18 =>
 oif (n18==n9) (
 j107_5 d l5 r14 ag15 n16 n17 true (decide (((i64.wrap (n17+1)):Int) < (r14.length:Int)))) (
 j107_5 d l5 r14 ag15 n16 n17 false false)) none) none) (
 kx107_2_0 n16 n17)) s.1 s.2
noncomputable def l107_1 (d:Nat) (x1:t2) (r3:List Int) (l5:List Int) (kx107_1_0:ByteArray→Int→(List t1)→(List Int)→(List Int)→(List Int)→(List Int)→(List t4)→(List Int)→Option t0) (ag6:(Int×t0)→Option t0) (s:(Int×t0)):Option t0 :=
(fun n7 (x8:t0) =>
 oif (decide (n7 < (r3.length:Int))) (
 oif (decide (0≤n7)) (
 oif (Nat.blt (n7.toNat) r3.length) (
 Q1 (r3[n7.toNat]?) fun n9 =>
 oif (decide (0≤n9)) (
 Q1 (x1.2.1[n9.toNat]?) fun x10 =>
 oif (Nat.ble ((x8.2.1.length+[x10].length)*64) Q7) (
 oif (decide (0≤n9)) (
 Q1 (x1.2.1[n9.toNat]?) fun x11 =>
 Q1 (g134 d x1 x11.2.1) fun r12 =>
 oif (decide (r12≥0)) (
 oif (decide (0≤r12)) (
 oif (Nat.blt (r12.toNat) l5.length) (
 Q1 (l5[r12.toNat]?) fun n13 =>
 Q1 (g152 d x1 r12) fun r14 =>
 Qa (l107_2 d l5 n9 r14 (j107_4 d x1 l5 ag6 n7 x8 n9 x10 n13)) Qf ((-1),0)) none) none) (
 j107_3 d x1 l5 ag6 n7 x8 n9 x10 (-1) (-1) false)) none) none) none) none) none) (
 kx107_1_0 x8.1 x8.2.2.2.2.2.2.2.2 x8.2.1 x8.2.2.1 x8.2.2.2.1 x8.2.2.2.2.1 x8.2.2.2.2.2.1 x8.2.2.2.2.2.2.1 x8.2.2.2.2.2.2.2.1)) s.1 s.2
noncomputable def j107_6 (d:Nat) (x1:t2) (r3:List Int) (l5:List Int):Option t0 :=
 oif (Nat.ble ((([]:List t4).length+x1.2.2.1.length)*40) Q7) (
 Qa (l107_1 d x1 r3 l5 (j107_1 d x1 l5)) Qf (0,(x1.1,[],[],[],[],[],(([]:List t4)++x1.2.2.1),[],(-1)))) none
noncomputable def l107_0 (d:Nat) (r3:List Int) (kx107_0_0:(List Int)→Option t0) (ag4:t13→Option t0) (s:t13):Option t0 :=
(fun n5 (l6:List Int) =>
 oif (decide (n5 < (r3.length:Int))) (
 oif (decide (0≤n5)) (
 oif (Nat.blt (n5.toNat) r3.length) (
 Q1 (r3[n5.toNat]?) fun n7 =>
 oif (decide (0≤n7)) (
 oif (Nat.blt (n7.toNat) l6.length) (
 Q1 (l6[n7.toNat]?) fun n8 =>
 ag4 ((i64.wrap (n5+1)),(l6.set (n7.toNat) n5))) none) none) none) none) (
 kx107_0_0 l6)) s.1 s.2
theorem e107 (d:Nat) (x1:t2):g107 (d+1) x1 =
 Q1 (g151 d x1) fun r2 =>
 Q1 (g150 d x1 r2) fun r3 =>
 oif (decide (0≤(r3.length:Int))) (
 oif (decide (0≤(r3.length:Int))) (
 oif (Nat.ble ((r3.length:Int).toNat) ((r3.length:Int).toNat)&&Nat.ble (((r3.length:Int).toNat)*8) Q7) (
 Qa (l107_0 d r3 (j107_6 d x1 r3)) Qf (0,(List.replicate ((r3.length:Int).toNat) (0:Int)))) none) none) none:=by kernel_rfl
noncomputable def j177_0 (d:Nat) (b4:Bool):Option Bool :=
 some true
noncomputable def l177_0 (d:Nat) (l1:List Int) (l2:List Int) (kx177_0_0:Bool→Option Bool) (ag3:t7→Option Bool) (s:t7):Option Bool :=
(fun (b4:Bool) n5 =>
 oif (decide (n5 < (l1.length:Int))) (
 oif (decide (0≤n5)) (
 Q1 (l1[n5.toNat]?) fun n6 =>
 oif (decide (0≤n5)) (
 Q1 (l2[n5.toNat]?) fun n7 =>
 oif (n6 != n7) (
 some false) (
 ag3 (b4,(i64.wrap (n5+1))))) none) none) (
 kx177_0_0 b4)) s.1 s.2
theorem e177 (d:Nat) (l1:List Int) (l2:List Int):g177 (d+1) l1 l2 =
 oif ((l1.length:Int) != (l2.length:Int)) (
 some false) (
 Qa (l177_0 d l1 l2 (j177_0 d)) Qf (false,0)):=by kernel_rfl
noncomputable def j158_0 (d:Nat) (x1:t0) (x2:t0) (b7:Bool):Option Bool :=
 Q1 (g177 d x1.2.2.1 x2.2.2.1) fun r8 =>
 oif r8 (
 Q1 (g177 d x1.2.2.2.1 x2.2.2.2.1) fun r9 =>
 oif r9 (
 Q1 (g177 d x1.2.2.2.2.1 x2.2.2.2.2.1) fun r10 =>
 oif r10 (
 Q1 (g177 d x1.2.2.2.2.2.1 x2.2.2.2.2.2.1) fun r11 =>
 oif r11 (
 Q1 (g177 d x1.2.2.2.2.2.2.2.1 x2.2.2.2.2.2.2.2.1) fun r12 =>
 some r12) (
 some false)) (
 some false)) (
 some false)) (
 some false)
noncomputable def l158_1 (d:Nat) (x1:t0) (x2:t0) (kx158_1_0:Bool→Option Bool) (ag6:t7→Option Bool) (s:t7):Option Bool :=
(fun (b7:Bool) n8 =>
 oif (decide (n8 < (x1.2.2.2.2.2.2.1.length:Int))) (
 oif (decide (0≤n8)) (
 Q1 (x1.2.2.2.2.2.2.1[n8.toNat]?) fun x9 =>
 oif (decide (0≤n8)) (
 Q1 (x2.2.2.2.2.2.2.1[n8.toNat]?) fun x10 =>
 oif (!((x9.1==x10.1)&&((x9.2.1==x10.2.1)&&((x9.2.2.1==x10.2.2.1)&&((x9.2.2.2.1==x10.2.2.2.1)&&((x9.2.2.2.2==x10.2.2.2.2)&&true)))))) (
 some false) (
 ag6 (b7,(i64.wrap (n8+1))))) none) none) (
 kx158_1_0 b7)) s.1 s.2
noncomputable def j158_1 (d:Nat) (x1:t0) (x2:t0) (b5:Bool):Option Bool :=
 Qa (l158_1 d x1 x2 (j158_0 d x1 x2)) Qf (b5,0)
noncomputable def l158_0 (d:Nat) (x1:t0) (x2:t0) (kx158_0_0:Bool→Option Bool) (ag4:t7→Option Bool) (s:t7):Option Bool :=
(fun (b5:Bool) n6 =>
 oif (decide (n6 < (x1.2.1.length:Int))) (
 oif (decide (0≤n6)) (
 Q1 (x1.2.1[n6.toNat]?) fun x7 =>
 oif (decide (0≤n6)) (
 Q1 (x2.2.1[n6.toNat]?) fun x8 =>
 oif (!((x7.1==x8.1)&&((x7.2.1==x8.2.1)&&((x7.2.2.1==x8.2.2.1)&&((x7.2.2.2.1==x8.2.2.2.1)&&((x7.2.2.2.2.1==x8.2.2.2.2.1)&&((x7.2.2.2.2.2.1==x8.2.2.2.2.2.1)&&((x7.2.2.2.2.2.2.1==x8.2.2.2.2.2.2.1)&&((x7.2.2.2.2.2.2.2==x8.2.2.2.2.2.2.2)&&true))))))))) (
 some false) (
 ag4 (b5,(i64.wrap (n6+1))))) none) none) (
 kx158_0_0 b5)) s.1 s.2
noncomputable def j158_2 (d:Nat) (x1:t0) (x2:t0) (b3:Bool):Option Bool :=
 oif b3 (
 some false) (
 Qa (l158_0 d x1 x2 (j158_1 d x1 x2)) Qf (false,0))
theorem e158 (d:Nat) (x1:t0) (x2:t0):g158 (d+1) x1 x2 =
 oif (!(x1.1.toList==x2.1.toList)) (
 j158_2 d x1 x2 true) (
 oif ((x1.2.1.length:Int) != (x2.2.1.length:Int)) (
 j158_2 d x1 x2 true) (
 oif ((x1.2.2.2.2.2.2.1.length:Int) != (x2.2.2.2.2.2.2.1.length:Int)) (
 j158_2 d x1 x2 true) (
 j158_2 d x1 x2 (x1.2.2.2.2.2.2.2.2 != x2.2.2.2.2.2.2.2.2)))):=by kernel_rfl
noncomputable def j118_0 (d:Nat) (x1:t0) (b2:Bool):Option Bool :=
 oif b2 (
 some false) (
 Q1 (g57 d x1) fun r3 =>
 Q1 (g46 d r3) fun r4 =>
 oif r4 (
 Q1 (g107 d r3) fun r5 =>
 Q1 (g158 d x1 r5) fun r6 =>
 some r6) (
 some false))
theorem e118 (d:Nat) (x1:t0):g118 (d+1) x1 =
 oif (decide ((x1.2.1.length:Int) > 24)) (
 j118_0 d x1 true) (
 j118_0 d x1 (decide ((x1.2.2.2.2.2.2.1.length:Int) > 16))):=by kernel_rfl
noncomputable def j119_0 (d:Nat) (b5:Bool):Option Bool :=
 some true
noncomputable def l119_0 (d:Nat) (x1:t0) (x2:t9) (kx119_0_0:Bool→Option Bool) (ag4:t7→Option Bool) (s:t7):Option Bool :=
(fun (b5:Bool) n6 =>
 oif (decide (n6 < (x1.2.1.length:Int))) (
 oif (decide (0≤n6)) (
 Q1 (x1.2.1[n6.toNat]?) fun x7 =>
 oif (decide (0≤n6)) (
 Q1 (x2.1[n6.toNat]?) fun n8 =>
 Q1 (g75 d n8 0 x7.2.2.2.2.1) fun r9 =>
 oif (!r9) (
 some false) (
 oif (decide (0≤n6)) (
 Q1 (x2.2[n6.toNat]?) fun n10 =>
 Q1 (g75 d n10 0 x7.2.2.2.2.2.1) fun r11 =>
 oif (!r11) (
 some false) (
 ag4 (b5,(i64.wrap (n6+1))))) none)) none) none) (
 kx119_0_0 b5)) s.1 s.2
noncomputable def j119_1 (d:Nat) (x1:t0) (x2:t9) (b3:Bool):Option Bool :=
 oif b3 (
 some false) (
 Qa (l119_0 d x1 x2 (j119_0 d)) Qf (false,0))
theorem e119 (d:Nat) (x1:t0) (x2:t9):g119 (d+1) x1 x2 =
 oif ((x2.1.length:Int) != (x1.2.1.length:Int)) (
 j119_1 d x1 x2 true) (
 j119_1 d x1 x2 ((x2.2.length:Int) != (x1.2.1.length:Int))):=by kernel_rfl
theorem e73 (d:Nat) (x1:t0) (x2:t9):g73 (d+1) x1 x2 =
 Q1 (g118 d x1) fun r3 =>
 oif r3 (
 Q1 (g119 d x1 x2) fun r4 =>
 some r4) (
 some false):=by kernel_rfl
theorem e120 (d:Nat) (x1:t0) (n2:Int):g120 (d+1) x1 n2 =
 oif (decide (0≤n2)) (
 Q1 (x1.2.2.2.1[n2.toNat]?) fun n3 =>
 some (decide (n3 < 0))) none:=by kernel_rfl
noncomputable def j74_0 (d:Nat) (l3:List Int):Option (List Int) :=
 some l3
noncomputable def l74_0 (d:Nat) (x1:t0) (kx74_0_0:(List Int)→Option (List Int)) (ag2:t11→Option (List Int)) (s:t11):Option (List Int) :=
(fun (l3:List Int) n4 =>
 oif (decide (n4 < (x1.2.1.length:Int))) (
 Q1 (g120 d x1 n4) fun r5 =>
 oif r5 (
 oif (Nat.ble ((l3.length+[n4].length)*8) Q7) (
 ag2 ((l3++[n4]),(i64.wrap (n4+1)))) none) (
 ag2 (l3,(i64.wrap (n4+1))))) (
 kx74_0_0 l3)) s.1 s.2
theorem e74 (d:Nat) (x1:t0):g74 (d+1) x1 =
 Qa (l74_0 d x1 (j74_0 d)) Qf ([],0):=by kernel_rfl
theorem e178 (d:Nat) (x1:t3) (n2:Int):g178 (d+1) x1 n2 =
 oif (decide (0≤n2)) (
 oif (Nat.blt (n2.toNat) ([x1.2.1,x1.2.2.1,x1.2.2.2.1,x1.2.2.2.2.1].length)) (
 Q1 ([x1.2.1,x1.2.2.1,x1.2.2.2.1,x1.2.2.2.2.1][n2.toNat]?) fun n3 =>
 some n3) none) none:=by kernel_rfl
theorem e159 (d:Nat) (x1:t4) (x2:t3):g159 (d+1) x1 x2 =
 Q1 (g178 d x2 x1.2.1) fun r3 =>
 some (((i64.wrap ((BitVec.ofInt i64.bits r3 &&& BitVec.ofInt i64.bits x1.2.2.1).toNat:Int)):Int)==x1.2.2.2.1):=by kernel_rfl
noncomputable def j121_0 (d:Nat) (n4:Int):Option Int :=
 some (-1)
noncomputable def l121_0 (d:Nat) (l1:List t4) (x2:t3) (kx121_0_0:Int→Option Int) (ag3:t8→Option Int) (s:t8):Option Int :=
(fun n4 n5 =>
 oif (decide (n5 < (l1.length:Int))) (
 oif (decide (0≤n5)) (
 Q1 (l1[n5.toNat]?) fun x6 =>
 Q1 (g159 d x6 x2) fun r7 =>
 oif r7 (
 some n5) (
 ag3 (n4,(i64.wrap (n5+1))))) none) (
 kx121_0_0 n4)) s.1 s.2
theorem e121 (d:Nat) (l1:List t4) (x2:t3):g121 (d+1) l1 x2 =
 Qa (l121_0 d l1 x2 (j121_0 d)) Qf (0,0):=by kernel_rfl
theorem e76 (d:Nat) (x1:t0) (x2:t3):g76 (d+1) x1 x2 =
 Q1 (g121 d x1.2.2.2.2.2.2.1 x2) fun r3 =>
 oif (decide (r3≥0)) (
 oif (decide (0≤r3)) (
 Q1 (x1.2.2.2.2.2.2.2.1[r3.toNat]?) fun n4 =>
 some n4) none) (
 some x1.2.2.2.2.2.2.2.2):=by kernel_rfl
noncomputable def j77_0 (d:Nat) (b4:Bool):Option Bool :=
 some false
noncomputable def l77_0 (d:Nat) (l1:List Int) (n2:Int) (kx77_0_0:Bool→Option Bool) (ag3:t7→Option Bool) (s:t7):Option Bool :=
(fun (b4:Bool) n5 =>
 oif (decide (n5 < (l1.length:Int))) (
 oif (decide (0≤n5)) (
 Q1 (l1[n5.toNat]?) fun n6 =>
 oif (n6==n2) (
 some true) (
 ag3 (b4,(i64.wrap (n5+1))))) none) (
 kx77_0_0 b4)) s.1 s.2
theorem e77 (d:Nat) (l1:List Int) (n2:Int):g77 (d+1) l1 n2 =
 Qa (l77_0 d l1 n2 (j77_0 d)) Qf (false,0):=by kernel_rfl
noncomputable def j33_0 (d:Nat) (b6:Bool):Option Bool :=
 some true
noncomputable def j33_1 (d:Nat) (ag5:(Bool×(List Int)×Int)→Option Bool) (n8:Int) (b13:Bool) (n14:Int) (l15:List Int):Option Bool :=
 ag5 (b13,l15,(i64.wrap (n8+1)))
noncomputable def l33_1 (d:Nat) (x1:t5) (r3:List Int) (n8:Int) (l9:List t3) (kx33_1_0:Bool→Int→(List Int)→Option Bool) (ag12:(Bool×(List Int)×Int)→Option Bool) (s:(Bool×(List Int)×Int)):Option Bool :=
(fun (b13:Bool) (l14:List Int) n15 =>
 oif (decide (n15 < (l9.length:Int))) (
 oif (decide (0≤n15)) (
 Q1 (l9[n15.toNat]?) fun x16 =>
 Q1 (g60 d x16) fun r17 =>
 oif (!r17) (
 some false) (
 Q1 (g76 d x1.1 x16) fun r18 =>
 oif (decide (0≤n8)) (
 oif (Nat.blt (n8.toNat) r3.length) (
 Q1 (r3[n8.toNat]?) fun n19 =>
 oif (r18 != n19) (
 some false) (
 Q1 (g77 d l14 x16.1) fun r20 =>
 oif r20 (
 some false) (
 oif (Nat.ble ((l14.length+[x16.1].length)*8) Q7) (
 ag12 (b13,(l14++[x16.1]),(i64.wrap (n15+1)))) none))) none) none)) none) (
 kx33_1_0 b13 n15 l14)) s.1 s.2.1 s.2.2
noncomputable def l33_0 (d:Nat) (x1:t5) (r3:List Int) (kx33_0_0:Bool→Option Bool) (ag5:(Bool×(List Int)×Int)→Option Bool) (s:(Bool×(List Int)×Int)):Option Bool :=
(fun (b6:Bool) (l7:List Int) n8 =>
 oif (decide (n8 < (x1.2.2.1.length:Int))) (
 oif (decide (0≤n8)) (
 Q1 (x1.2.2.1[n8.toNat]?) fun l9 =>
 oif (decide (0≤n8)) (
 oif (Nat.blt (n8.toNat) r3.length) (
 Q1 (r3[n8.toNat]?) fun n10 =>
 oif (decide (0≤n10)) (
 Q1 (x1.1.2.1[n10.toNat]?) fun x11 =>
 oif (decide ((l9.length:Int) > x11.2.2.2.2.2.2.2)) (
 some false) (
 Qa (l33_1 d x1 r3 n8 l9 (j33_1 d ag5 n8)) Qf (b6,l7,0))) none) none) none) none) (
 kx33_0_0 b6)) s.1 s.2.1 s.2.2
noncomputable def j33_2 (d:Nat) (x1:t5) (r3:List Int) (b4:Bool):Option Bool :=
 oif b4 (
 some false) (
 Qa (l33_0 d x1 r3 (j33_0 d)) Qf (false,[],0))
theorem e33 (d:Nat) (x1:t5):g33 (d+1) x1 =
 Q1 (g73 d x1.1 x1.2.1) fun r2 =>
 oif (!r2) (
 some false) (
 Q1 (g74 d x1.1) fun r3 =>
 oif ((x1.2.2.1.length:Int) != (r3.length:Int)) (
 j33_2 d x1 r3 true) (
 Q1 (g75 d x1.2.2.2.1 (-1) (i64.wrap ((r3.length:Int) - 1))) fun r4 =>
 oif (!r4) (
 j33_2 d x1 r3 true) (
 Q1 (g75 d x1.2.2.2.2 0 1000000) fun r5 =>
 j33_2 d x1 r3 (!r5)))):=by kernel_rfl
noncomputable def j8_0 (d:Nat) (l4:List Int):Option t10 :=
 some (l4,true)
noncomputable def l8_0 (d:Nat) (x1:t5) (kx8_0_0:(List Int)→Option t10) (ag3:t11→Option t10) (s:t11):Option t10 :=
(fun (l4:List Int) n5 =>
 oif (decide (n5 < (x1.2.2.1.length:Int))) (
 oif (decide (0≤n5)) (
 Q1 (x1.2.2.1[n5.toNat]?) fun l6 =>
 oif (Nat.ble ((l4.length+[(l6.length:Int)].length)*8) Q7) (
 ag3 ((l4++[(l6.length:Int)]),(i64.wrap (n5+1)))) none) none) (
 kx8_0_0 l4)) s.1 s.2
theorem e8 (d:Nat) (x1:t5):g8 (d+1) x1 =
 Q1 (g33 d x1) fun r2 =>
 oif (!r2) (
 some ([],false)) (
 Qa (l8_0 d x1 (j8_0 d)) Qf ([],0)):=by kernel_rfl
theorem e92 (d:Nat) (x1:t1):g92 (d+1) x1 =
 some x1:=by kernel_rfl
noncomputable def j48_0 (d:Nat) (l3:List t1):Option (List t1) :=
 some l3
noncomputable def l48_0 (d:Nat) (l1:List t1) (kx48_0_0:(List t1)→Option (List t1)) (ag2:t12→Option (List t1)) (s:t12):Option (List t1) :=
(fun n3 (l4:List t1) =>
 oif (decide (n3 < (l1.length:Int))) (
 oif (decide (0≤n3)) (
 Q1 (l1[n3.toNat]?) fun x5 =>
 Q1 (g92 d x5) fun r6 =>
 oif (decide (0≤n3)) (
 oif (Nat.blt (n3.toNat) l4.length) (
 Q1 (l4[n3.toNat]?) fun x7 =>
 ag2 ((i64.wrap (n3+1)),(l4.set (n3.toNat) r6))) none) none) none) (
 kx48_0_0 l4)) s.1 s.2
theorem e48 (d:Nat) (l1:List t1):g48 (d+1) l1 =
 oif (decide (0≤(l1.length:Int))) (
 oif (decide (0≤(l1.length:Int))) (
 oif (Nat.ble ((l1.length:Int).toNat) ((l1.length:Int).toNat)&&Nat.ble (((l1.length:Int).toNat)*64) Q7) (
 Qa (l48_0 d l1 (j48_0 d)) Qf (0,(List.replicate ((l1.length:Int).toNat) ((0,0,0,0,0,0,0,0):t1)))) none) none) none:=by kernel_rfl
theorem e93 (d:Nat) (x1:t4):g93 (d+1) x1 =
 some x1:=by kernel_rfl
noncomputable def j49_0 (d:Nat) (l3:List t4):Option (List t4) :=
 some l3
noncomputable def l49_0 (d:Nat) (l1:List t4) (kx49_0_0:(List t4)→Option (List t4)) (ag2:(Int×(List t4))→Option (List t4)) (s:(Int×(List t4))):Option (List t4) :=
(fun n3 (l4:List t4) =>
 oif (decide (n3 < (l1.length:Int))) (
 oif (decide (0≤n3)) (
 Q1 (l1[n3.toNat]?) fun x5 =>
 Q1 (g93 d x5) fun r6 =>
 oif (decide (0≤n3)) (
 oif (Nat.blt (n3.toNat) l4.length) (
 Q1 (l4[n3.toNat]?) fun x7 =>
 ag2 ((i64.wrap (n3+1)),(l4.set (n3.toNat) r6))) none) none) none) (
 kx49_0_0 l4)) s.1 s.2
theorem e49 (d:Nat) (l1:List t4):g49 (d+1) l1 =
 oif (decide (0≤(l1.length:Int))) (
 oif (decide (0≤(l1.length:Int))) (
 oif (Nat.ble ((l1.length:Int).toNat) ((l1.length:Int).toNat)&&Nat.ble (((l1.length:Int).toNat)*40) Q7) (
 Qa (l49_0 d l1 (j49_0 d)) Qf (0,(List.replicate ((l1.length:Int).toNat) ((0,0,0,0,0):t4)))) none) none) none:=by kernel_rfl
noncomputable def j78_0 (d:Nat) (l3:List Int):Option (List Int) :=
 some l3
noncomputable def l78_0 (d:Nat) (l1:List Int) (kx78_0_0:(List Int)→Option (List Int)) (ag2:t13→Option (List Int)) (s:t13):Option (List Int) :=
(fun n3 (l4:List Int) =>
 oif (decide (n3 < (l1.length:Int))) (
 oif (decide (0≤n3)) (
 Q1 (l1[n3.toNat]?) fun n5 =>
 oif (decide (0≤n3)) (
 oif (Nat.blt (n3.toNat) l4.length) (
 Q1 (l4[n3.toNat]?) fun n6 =>
 ag2 ((i64.wrap (n3+1)),(l4.set (n3.toNat) n5))) none) none) none) (
 kx78_0_0 l4)) s.1 s.2
theorem e78 (d:Nat) (l1:List Int):g78 (d+1) l1 =
 oif (decide (0≤(l1.length:Int))) (
 oif (decide (0≤(l1.length:Int))) (
 oif (Nat.ble ((l1.length:Int).toNat) ((l1.length:Int).toNat)&&Nat.ble (((l1.length:Int).toNat)*8) Q7) (
 Qa (l78_0 d l1 (j78_0 d)) Qf (0,(List.replicate ((l1.length:Int).toNat) (0:Int)))) none) none) none:=by kernel_rfl
theorem e34 (d:Nat) (x1:t0):g34 (d+1) x1 =
 Q1 (g48 d x1.2.1) fun r2 =>
 Q1 (g78 d x1.2.2.1) fun r3 =>
 Q1 (g78 d x1.2.2.2.1) fun r4 =>
 Q1 (g78 d x1.2.2.2.2.1) fun r5 =>
 Q1 (g78 d x1.2.2.2.2.2.1) fun r6 =>
 Q1 (g49 d x1.2.2.2.2.2.2.1) fun r7 =>
 Q1 (g78 d x1.2.2.2.2.2.2.2.1) fun r8 =>
 some (x1.1,r2,r3,r4,r5,r6,r7,r8,x1.2.2.2.2.2.2.2.2):=by kernel_rfl
theorem e35 (d:Nat) (x1:t9):g35 (d+1) x1 =
 Q1 (g78 d x1.1) fun r2 =>
 Q1 (g78 d x1.2) fun r3 =>
 some (r2,r3):=by kernel_rfl
theorem e26 (d:Nat) (x1:t3):g26 (d+1) x1 =
 some x1:=by kernel_rfl
noncomputable def j79_0 (d:Nat) (l3:List t3):Option (List t3) :=
 some l3
noncomputable def l79_0 (d:Nat) (l1:List t3) (kx79_0_0:(List t3)→Option (List t3)) (ag2:(Int×(List t3))→Option (List t3)) (s:(Int×(List t3))):Option (List t3) :=
(fun n3 (l4:List t3) =>
 oif (decide (n3 < (l1.length:Int))) (
 oif (decide (0≤n3)) (
 Q1 (l1[n3.toNat]?) fun x5 =>
 Q1 (g26 d x5) fun r6 =>
 oif (decide (0≤n3)) (
 oif (Nat.blt (n3.toNat) l4.length) (
 Q1 (l4[n3.toNat]?) fun x7 =>
 ag2 ((i64.wrap (n3+1)),(l4.set (n3.toNat) r6))) none) none) none) (
 kx79_0_0 l4)) s.1 s.2
theorem e79 (d:Nat) (l1:List t3):g79 (d+1) l1 =
 oif (decide (0≤(l1.length:Int))) (
 oif (decide (0≤(l1.length:Int))) (
 oif (Nat.ble ((l1.length:Int).toNat) ((l1.length:Int).toNat)&&Nat.ble (((l1.length:Int).toNat)*48) Q7) (
 Qa (l79_0 d l1 (j79_0 d)) Qf (0,(List.replicate ((l1.length:Int).toNat) ((0,0,0,0,0,0):t3)))) none) none) none:=by kernel_rfl
noncomputable def j36_0 (d:Nat) (l3:List (List t3)):Option (List (List t3)) :=
 some l3
noncomputable def l36_0 (d:Nat) (l1:List (List t3)) (kx36_0_0:(List (List t3))→Option (List (List t3))) (ag2:(Int×(List (List t3)))→Option (List (List t3))) (s:(Int×(List (List t3)))):Option (List (List t3)) :=
(fun n3 (l4:List (List t3)) =>
 oif (decide (n3 < (l1.length:Int))) (
 oif (decide (0≤n3)) (
 Q1 (l1[n3.toNat]?) fun l5 =>
 Q1 (g79 d l5) fun r6 =>
 oif (decide (0≤n3)) (
 oif (Nat.blt (n3.toNat) l4.length) (
 Q1 (l4[n3.toNat]?) fun l7 =>
 ag2 ((i64.wrap (n3+1)),(l4.set (n3.toNat) r6))) none) none) none) (
 kx36_0_0 l4)) s.1 s.2
theorem e36 (d:Nat) (l1:List (List t3)):g36 (d+1) l1 =
 oif (decide (0≤(l1.length:Int))) (
 oif (decide (0≤(l1.length:Int))) (
 oif (Nat.ble ((l1.length:Int).toNat) ((l1.length:Int).toNat)&&Nat.ble (((l1.length:Int).toNat)*24) Q7) (
 Qa (l36_0 d l1 (j36_0 d)) Qf (0,(List.replicate ((l1.length:Int).toNat) ([]:List t3)))) none) none) none:=by kernel_rfl
theorem e9 (d:Nat) (x1:t5):g9 (d+1) x1 =
 Q1 (g34 d x1.1) fun r2 =>
 Q1 (g35 d x1.2.1) fun r3 =>
 Q1 (g36 d x1.2.2.1) fun r4 =>
 some (r2,r3,r4,x1.2.2.2):=by kernel_rfl
theorem Qzy (d:Nat) (x1:t3):g109 (d+1) x1 =
 some (x1.2.1,x1.2.2.1,x1.2.2.2.1,x1.2.2.2.2.1):=by kernel_rfl
noncomputable def j64_0 (d:Nat) (x1:t3) (b4:Bool):Option Bool :=
 oif (decide (x1.1≥1)) (
 oif (decide (x1.1≤100000)) (
 oif (decide (x1.2.2.2.2.2≥1)) (
 some (decide (x1.2.2.2.2.2≤1500))) (
 some false)) (
 some false)) (
 some false)
noncomputable def l64_0 (d:Nat) (r2:(Int×Int×Int×Int)) (kx64_0_0:Bool→Option Bool) (ag3:t7→Option Bool) (s:t7):Option Bool :=
(fun (b4:Bool) n5 =>
 oif (decide (n5 < 4)) (
 oif (decide (0≤n5)) (
 Q1 (([r2.1,r2.2.1,r2.2.2.1,r2.2.2.2]:List Int)[n5.toNat]?) fun n6 =>
 oif (decide (n6 < 0)) (
 some false) (
 oif (decide (n6 > 65535)) (
 some false) (
 ag3 (b4,(i64.wrap (n5+1)))))) none) (
 kx64_0_0 b4)) s.1 s.2
theorem e64 (d:Nat) (x1:t3):g64 (d+1) x1 =
 Q1 (g109 d x1) fun r2 =>
 Qa (l64_0 d r2 (j64_0 d x1)) Qf (false,0):=by kernel_rfl
theorem e165 (d:Nat) (n1:Int):g165 (d+1) n1 =
 oif (decide (n1≥97)) (
 some (decide (n1≤122))) (
 some false):=by kernel_rfl
noncomputable def j166_0 (d:Nat) (b3:Bool):Option Bool :=
 some false
noncomputable def l166_0 (d:Nat) (s1:ByteArray) (kx166_0_0:Bool→Option Bool) (ag2:t7→Option Bool) (s:t7):Option Bool :=
(fun (b3:Bool) n4 =>
 oif (decide (n4 < 14)) (
 oif (decide (0≤n4)) (
 Q1 (([(⟨#[113,100,105,115,99]⟩:ByteArray),(⟨#[100,101,102,97,117,108,116]⟩:ByteArray),(⟨#[99,108,97,115,115]⟩:ByteArray),(⟨#[114,97,116,101]⟩:ByteArray),(⟨#[99,101,105,108]⟩:ByteArray),(⟨#[98,117,114,115,116]⟩:ByteArray),(⟨#[99,98,117,114,115,116]⟩:ByteArray),(⟨#[112,114,105,111]⟩:ByteArray),(⟨#[108,105,109,105,116]⟩:ByteArray),(⟨#[102,105,108,116,101,114]⟩:ByteArray),(⟨#[115,111,117,114,99,101]⟩:ByteArray),(⟨#[100,101,115,116]⟩:ByteArray),(⟨#[112,111,114,116]⟩:ByteArray),(⟨#[109,97,114,107]⟩:ByteArray)]:List ByteArray)[n4.toNat]?) fun s5 =>
 oif (s5.toList==s1.toList) (
 some true) (
 ag2 (b3,(i64.wrap (n4+1))))) none) (
 kx166_0_0 b3)) s.1 s.2
theorem e166 (d:Nat) (s1:ByteArray):g166 (d+1) s1 =
 Qa (l166_0 d s1 (j166_0 d)) Qf (false,0):=by kernel_rfl
noncomputable def j135_0 (d:Nat) (s1:ByteArray) (b4:Bool):Option Bool :=
 Q1 (g166 d s1) fun r5 =>
 some (!r5)
noncomputable def l135_0 (d:Nat) (s1:ByteArray) (kx135_0_0:Bool→Option Bool) (ag3:t7→Option Bool) (s:t7):Option Bool :=
(fun (b4:Bool) n5 =>
 oif (decide (n5 < (s1.size:Int))) (
 oif (decide (0≤n5)) (
 Q1 (s1.data.toList[n5.toNat]?) fun c6 =>
 Q1 (g165 d (c6.toNat:Int)) fun r7 =>
 oif (!r7) (
 some false) (
 ag3 (b4,(i64.wrap (n5+1))))) none) (
 kx135_0_0 b4)) s.1 s.2
noncomputable def j135_1 (d:Nat) (s1:ByteArray) (b2:Bool):Option Bool :=
 oif b2 (
 some false) (
 Qa (l135_0 d s1 (j135_0 d s1)) Qf (false,0))
theorem e135 (d:Nat) (s1:ByteArray):g135 (d+1) s1 =
 oif (decide (((s1.size:Int):Int) < 1)) (
 j135_1 d s1 true) (
 j135_1 d s1 (decide (((s1.size:Int):Int) > 8))):=by kernel_rfl
theorem e167 (d:Nat) (n1:Int):g167 (d+1) n1 =
 oif (decide (n1≥1)) (
 some (decide (n1≤999))) (
 some false):=by kernel_rfl
noncomputable def j136_0 (d:Nat) (x1:t2) (b3:Bool):Option Bool :=
 oif (decide ((x1.2.1.length:Int)≥1)) (
 some (decide ((x1.2.1.length:Int)≤24))) (
 some false)
noncomputable def l136_0 (d:Nat) (x1:t2) (kx136_0_0:Bool→Option Bool) (ag2:t7→Option Bool) (s:t7):Option Bool :=
(fun (b3:Bool) n4 =>
 oif (decide (n4 < (x1.2.1.length:Int))) (
 oif (decide (0≤n4)) (
 Q1 (x1.2.1[n4.toNat]?) fun x5 =>
 Q1 (g167 d x5.1) fun r6 =>
 oif (!r6) (
 some false) (
 oif (decide (n4 > 0)) (
 oif (decide (0≤((i64.wrap (n4 - 1)):Int))) (
 Q1 (x1.2.1[((i64.wrap (n4 - 1)):Int).toNat]?) fun x7 =>
 oif (decide (x5.1≤x7.1)) (
 some false) (
 ag2 (b3,(i64.wrap (n4+1))))) none) (
 ag2 (b3,(i64.wrap (n4+1)))))) none) (
 kx136_0_0 b3)) s.1 s.2
theorem e136 (d:Nat) (x1:t2):g136 (d+1) x1 =
 Qa (l136_0 d x1 (j136_0 d x1)) Qf (false,0):=by kernel_rfl
noncomputable def j52i100_0 (d:Nat) (n4:Int):Option Int :=
 some (-1)
noncomputable def l52i100_0 (d:Nat) (x1:t2) (n2:Int) (kx52i100_0_0:Int→Option Int) (ag3:t8→Option Int) (s:t8):Option Int :=
(fun n4 n5 =>
 oif (decide (n5 < (x1.2.1.length:Int))) (
 oif (decide (0≤n5)) (
 Q1 (x1.2.1[n5.toNat]?) fun x6 =>
 oif (x6.1==n2) (
 some n5) (
 ag3 (n4,(i64.wrap (n5+1))))) none) (
 kx52i100_0_0 n4)) s.1 s.2
theorem e52 (d:Nat) (x1:t2) (n2:Int):g52 (d+3) x1 n2 =
 Qa (l52i100_0 d x1 n2 (j52i100_0 d)) Qf (0,0):=by kernel_rfl
noncomputable def j168_0 (d:Nat) (l3:List Int):Option (List Int) :=
 some l3
noncomputable def j168_1 (d:Nat) (ag2:t11→Option (List Int)) (l3:List Int) (n4:Int) (b6:Bool) (b7:Bool):Option (List Int) :=
 oif b7 (
 oif (Nat.ble ((l3.length+[n4].length)*8) Q7) (
 ag2 ((l3++[n4]),(i64.wrap (n4+1)))) none) (
 ag2 (l3,(i64.wrap (n4+1))))
noncomputable def l168_0 (d:Nat) (x1:t2) (kx168_0_0:(List Int)→Option (List Int)) (ag2:t11→Option (List Int)) (s:t11):Option (List Int) :=
(fun (l3:List Int) n4 =>
 oif (decide (n4 < (x1.2.1.length:Int))) (
 oif (decide (0≤n4)) (
 Q1 (x1.2.1[n4.toNat]?) fun x5 =>
 oif (x5.2.1 != 0) (
 Q1 (g52 d x1 x5.2.1) fun r6 =>
 j168_1 d ag2 l3 n4 true (decide (r6 < 0))) (
 j168_1 d ag2 l3 n4 false false)) none) (
 kx168_0_0 l3)) s.1 s.2
theorem e168 (d:Nat) (x1:t2):g168 (d+1) x1 =
 Qa (l168_0 d x1 (j168_0 d)) Qf (([]:List Int),0):=by kernel_rfl
noncomputable def j137_0 (d:Nat) (x1:t2) (n3:Int):Option Bool :=
 oif (n3==1) (
 Q1 (g168 d x1) fun r4 =>
 some ((r4.length:Int)==0)) (
 some false)
noncomputable def l137_0 (d:Nat) (x1:t2) (kx137_0_0:Int→Option Bool) (ag2:t8→Option Bool) (s:t8):Option Bool :=
(fun n3 n4 =>
 oif (decide (n4 < (x1.2.1.length:Int))) (
 oif (decide (0≤n4)) (
 Q1 (x1.2.1[n4.toNat]?) fun x5 =>
 oif (x5.2.1==0) (
 ag2 ((i64.wrap (n3+1)),(i64.wrap (n4+1)))) (
 ag2 (n3,(i64.wrap (n4+1))))) none) (
 kx137_0_0 n3)) s.1 s.2
theorem e137 (d:Nat) (x1:t2):g137 (d+1) x1 =
 Qa (l137_0 d x1 (j137_0 d x1)) Qf (0,0):=by kernel_rfl
noncomputable def j116_0 (d:Nat) (n4:Int):Option Int :=
 some (-1)
noncomputable def l116_0 (d:Nat) (l1:List Int) (n2:Int) (kx116_0_0:Int→Option Int) (ag3:t8→Option Int) (s:t8):Option Int :=
(fun n4 n5 =>
 oif (decide (n5 < (l1.length:Int))) (
 oif (decide (0≤n5)) (
 Q1 (l1[n5.toNat]?) fun n6 =>
 oif (n2==n6) (
 some n5) (
 ag3 (n4,(i64.wrap (n5+1))))) none) (
 kx116_0_0 n4)) s.1 s.2
theorem e116 (d:Nat) (l1:List Int) (n2:Int):g116 (d+1) l1 n2 =
 Qa (l116_0 d l1 n2 (j116_0 d)) Qf (0,0):=by kernel_rfl
theorem e185 (d:Nat) (l1:List Int) (n2:Int):g185 (d+1) l1 n2 =
 Q1 (g116 d l1 n2) fun r3 =>
 some (decide (r3≥0)):=by kernel_rfl
noncomputable def j169_0 (d:Nat) (b4:Bool) (l5:List Int) (l6:List Int):Option t10 :=
 some (l6,true)
noncomputable def l169_0 (d:Nat) (x1:t2) (kx169_0_0:Bool→(List Int)→(List Int)→Option t10) (ag3:(Int×(List Int)×Bool×(List Int))→Option t10) (s:(Int×(List Int)×Bool×(List Int))):Option t10 :=
(fun n4 (l5:List Int) (b6:Bool) (l7:List Int) =>
 oif (decide (n4≥0)) (
 Q1 (g185 d l7 n4) fun r8 =>
 oif r8 (
 some (l7,false)) (
 oif (Nat.ble ((l7.length+[n4].length)*8) Q7) (
 oif (decide (0≤n4)) (
 Q1 (x1.2.1[n4.toNat]?) fun x9 =>
 Q1 (g52 d x1 x9.2.1) fun r10 =>
 ag3 (r10,l5,b6,(l7++[n4]))) none) none)) (
 kx169_0_0 b6 l5 l7)) s.1 s.2.1 s.2.2.1 s.2.2.2
theorem e169 (d:Nat) (x1:t2) (n2:Int):g169 (d+1) x1 n2 =
 Qa (l169_0 d x1 (j169_0 d)) Qf (n2,[],false,([]:List Int)):=by kernel_rfl
noncomputable def j138_0 (d:Nat) (b3:Bool):Option Bool :=
 some true
noncomputable def l138_0 (d:Nat) (x1:t2) (kx138_0_0:Bool→Option Bool) (ag2:t7→Option Bool) (s:t7):Option Bool :=
(fun (b3:Bool) n4 =>
 oif (decide (n4 < (x1.2.1.length:Int))) (
 Q1 (g169 d x1 n4) fun r5 =>
 oif (!r5.2) (
 some false) (
 oif (decide ((r5.1.length:Int) > 8)) (
 some false) (
 oif (decide (0≤((i64.wrap ((r5.1.length:Int) - 1)):Int))) (
 oif (Nat.blt (((i64.wrap ((r5.1.length:Int) - 1)):Int).toNat) r5.1.length) (
 Q1 (r5.1[((i64.wrap ((r5.1.length:Int) - 1)):Int).toNat]?) fun n6 =>
 oif (decide (0≤n6)) (
 Q1 (x1.2.1[n6.toNat]?) fun x7 =>
 oif (x7.2.1 != 0) (
 some false) (
 ag2 (b3,(i64.wrap (n4+1))))) none) none) none))) (
 kx138_0_0 b3)) s.1 s.2
theorem e138 (d:Nat) (x1:t2):g138 (d+1) x1 =
 Qa (l138_0 d x1 (j138_0 d)) Qf (false,0):=by kernel_rfl
theorem e141 (d:Nat) (x1:t1):g141 (d+1) x1 =
 oif (decide (x1.2.2.1≥1)) (
 oif (decide (x1.2.2.1≤100000)) (
 oif (decide (x1.2.2.2.1≥x1.2.2.1)) (
 some (decide (x1.2.2.2.1≤100000))) (
 some false)) (
 some false)) (
 some false):=by kernel_rfl
noncomputable def j142i139i100_0 (d:Nat) (n3:Int):Option Bool :=
 some (!(decide (((-1):Int)≥0)))
noncomputable def l142i139i100_0 (d:Nat) (x1:t2) (kx142i139i100_0_0:Int→Option Bool) (ag2:t8→Option Bool) (s:t8):Option Bool :=
(fun n3 n4 =>
 oif (decide (n4 < (x1.2.1.length:Int))) (
 oif (decide (0≤n4)) (
 Q1 (x1.2.1[n4.toNat]?) fun x5 =>
 oif (decide (x5.2.2.1 < 0)) (
 some (!(decide (n4≥0)))) (
 oif (decide (x5.2.2.1 > 1000000000)) (
 some (!(decide (n4≥0)))) (
 ag2 (n3,(i64.wrap (n4+1)))))) none) (
 kx142i139i100_0_0 n3)) s.1 s.2
theorem e142 (d:Nat) (x1:t2):g142 (d+4) x1 =
 Qa (l142i139i100_0 d x1 (j142i139i100_0 d)) Qf (0,0):=by kernel_rfl
noncomputable def j186_0 (d:Nat) (l4:List Int):Option (List Int) :=
 some l4
noncomputable def l186_0 (d:Nat) (x1:t2) (n2:Int) (kx186_0_0:(List Int)→Option (List Int)) (ag3:t11→Option (List Int)) (s:t11):Option (List Int) :=
(fun (l4:List Int) n5 =>
 oif (decide (n5 < (x1.2.1.length:Int))) (
 oif (decide (0≤n5)) (
 Q1 (x1.2.1[n5.toNat]?) fun x6 =>
 oif (decide (0≤n2)) (
 Q1 (x1.2.1[n2.toNat]?) fun x7 =>
 oif (x6.2.1==x7.1) (
 oif (Nat.ble ((l4.length+[n5].length)*8) Q7) (
 ag3 ((l4++[n5]),(i64.wrap (n5+1)))) none) (
 ag3 (l4,(i64.wrap (n5+1))))) none) none) (
 kx186_0_0 l4)) s.1 s.2
theorem e186 (d:Nat) (x1:t2) (n2:Int):g186 (d+1) x1 n2 =
 Qa (l186_0 d x1 n2 (j186_0 d)) Qf (([]:List Int),0):=by kernel_rfl
noncomputable def j171_0 (d:Nat) (n5:Int):Option Int :=
 some n5
noncomputable def l171_0 (d:Nat) (x1:t2) (r3:List Int) (kx171_0_0:Int→Option Int) (ag4:t8→Option Int) (s:t8):Option Int :=
(fun n5 n6 =>
 oif (decide (n6 < (r3.length:Int))) (
 oif (decide (0≤n6)) (
 oif (Nat.blt (n6.toNat) r3.length) (
 Q1 (r3[n6.toNat]?) fun n7 =>
 oif (decide (0≤n7)) (
 Q1 (x1.2.1[n7.toNat]?) fun x8 =>
 ag4 ((i64.wrap (n5+x8.2.2.1)),(i64.wrap (n6+1)))) none) none) none) (
 kx171_0_0 n5)) s.1 s.2
theorem e171 (d:Nat) (x1:t2) (n2:Int):g171 (d+1) x1 n2 =
 Q1 (g186 d x1 n2) fun r3 =>
 Qa (l171_0 d x1 r3 (j171_0 d)) Qf (0,0):=by kernel_rfl
noncomputable def j143_0 (d:Nat) (l3:List Int):Option (List Int) :=
 some l3
noncomputable def l143_0 (d:Nat) (x1:t2) (kx143_0_0:(List Int)→Option (List Int)) (ag2:t11→Option (List Int)) (s:t11):Option (List Int) :=
(fun (l3:List Int) n4 =>
 oif (decide (n4 < (x1.2.1.length:Int))) (
 oif (decide (0≤n4)) (
 Q1 (x1.2.1[n4.toNat]?) fun x5 =>
 Q1 (g171 d x1 n4) fun r6 =>
 oif (decide (r6 > x5.2.2.1)) (
 oif (Nat.ble ((l3.length+[n4].length)*8) Q7) (
 ag2 ((l3++[n4]),(i64.wrap (n4+1)))) none) (
 ag2 (l3,(i64.wrap (n4+1))))) none) (
 kx143_0_0 l3)) s.1 s.2
theorem e143 (d:Nat) (x1:t2):g143 (d+1) x1 =
 Qa (l143_0 d x1 (j143_0 d)) Qf (([]:List Int),0):=by kernel_rfl
theorem e145 (d:Nat) (x1:t1):g145 (d+1) x1 =
 oif (decide (x1.2.2.2.2.1≥1500)) (
 oif (decide (x1.2.2.2.2.1≤1000000)) (
 oif (decide (x1.2.2.2.2.2.1≥1500)) (
 oif (decide (x1.2.2.2.2.2.1≤1000000)) (
 oif (decide (x1.2.2.2.2.2.2.1≥0)) (
 some (decide (x1.2.2.2.2.2.2.1≤7))) (
 some false)) (
 some false)) (
 some false)) (
 some false)) (
 some false):=by kernel_rfl
noncomputable def j172i139i100_0 (d:Nat) (n4:Int):Option Bool :=
 some (!(decide (((-1):Int)≥0)))
noncomputable def l172i139i100_0 (d:Nat) (x1:t2) (n2:Int) (kx172i139i100_0_0:Int→Option Bool) (ag3:t8→Option Bool) (s:t8):Option Bool :=
(fun n4 n5 =>
 oif (decide (n5 < (x1.2.1.length:Int))) (
 oif (decide (0≤n5)) (
 Q1 (x1.2.1[n5.toNat]?) fun x6 =>
 oif (decide (0≤n2)) (
 Q1 (x1.2.1[n2.toNat]?) fun x7 =>
 oif (x6.2.1==x7.1) (
 some (!(decide (n5≥0)))) (
 ag3 (n4,(i64.wrap (n5+1))))) none) none) (
 kx172i139i100_0_0 n4)) s.1 s.2
theorem e172 (d:Nat) (x1:t2) (n2:Int):g172 (d+4) x1 n2 =
 Qa (l172i139i100_0 d x1 n2 (j172i139i100_0 d)) Qf (0,0):=by kernel_rfl
theorem e146 (d:Nat) (x1:t2) (n2:Int):g146 (d+1) x1 n2 =
 oif (decide (0≤n2)) (
 Q1 (x1.2.1[n2.toNat]?) fun x3 =>
 Q1 (g172 d x1 n2) fun r4 =>
 oif r4 (
 oif (decide (x3.2.2.2.2.2.2.2≥1)) (
 some (decide (x3.2.2.2.2.2.2.2≤60))) (
 some false)) (
 some (x3.2.2.2.2.2.2.2==0))) none:=by kernel_rfl
theorem e148 (d:Nat) (x1:t2) (n2:Int):g148 (d+1) x1 n2 =
 Q1 (g52 d x1 n2) fun r3 =>
 oif (decide (r3≥0)) (
 Q1 (g172 d x1 r3) fun r4 =>
 some r4) (
 some false):=by kernel_rfl
theorem e173 (d:Nat) (x1:t4):g173 (d+1) x1 =
 oif (decide (x1.1≥1)) (
 oif (decide (x1.1≤99)) (
 oif (decide (x1.2.1≥0)) (
 oif (decide (x1.2.1≤3)) (
 oif (decide (x1.2.2.1≥0)) (
 oif (decide (x1.2.2.1≤65535)) (
 oif (decide (x1.2.2.2.1≥0)) (
 oif (decide (x1.2.2.2.1≤65535)) (
 some (((i64.wrap ((BitVec.ofInt i64.bits x1.2.2.2.1 &&& ~~~BitVec.ofInt i64.bits x1.2.2.1).toNat:Int)):Int)==0)) (
 some false)) (
 some false)) (
 some false)) (
 some false)) (
 some false)) (
 some false)) (
 some false)) (
 some false):=by kernel_rfl
noncomputable def j147_0 (d:Nat) (x1:t2) (b3:Bool):Option Bool :=
 some (decide ((x1.2.2.1.length:Int)≤16))
noncomputable def j147_1 (d:Nat) (ag2:t7→Option Bool) (b3:Bool) (n4:Int) (b6:Bool) (b7:Bool) (b8:Bool) (b9:Bool) (b10:Bool) (b11:Bool):Option Bool :=
 oif b11 (
 some false) (
 ag2 (b3,(i64.wrap (n4+1))))
noncomputable def l147_0 (d:Nat) (x1:t2) (kx147_0_0:Bool→Option Bool) (ag2:t7→Option Bool) (s:t7):Option Bool :=
(fun (b3:Bool) n4 =>
 oif (decide (n4 < (x1.2.2.1.length:Int))) (
 oif (decide (0≤n4)) (
 Q1 (x1.2.2.1[n4.toNat]?) fun x5 =>
 Q1 (g173 d x5) fun r6 =>
 oif (!r6) (
 j147_1 d ag2 b3 n4 r6 (!r6) true true true true) (
 oif (decide (n4 > 0)) (
 oif (decide (0≤((i64.wrap (n4 - 1)):Int))) (
 Q1 (x1.2.2.1[((i64.wrap (n4 - 1)):Int).toNat]?) fun x7 =>
 oif (decide (x5.1≤x7.1)) (
 j147_1 d ag2 b3 n4 r6 (!r6) false (decide (x5.1≤x7.1)) true true) (
 Q1 (g148 d x1 x5.2.2.2.2) fun r8 =>
 j147_1 d ag2 b3 n4 r6 (!r6) false (decide (x5.1≤x7.1)) false (!r8))) none) (
 Q1 (g148 d x1 x5.2.2.2.2) fun r9 =>
 j147_1 d ag2 b3 n4 r6 (!r6) false false false (!r9)))) none) (
 kx147_0_0 b3)) s.1 s.2
theorem e147 (d:Nat) (x1:t2):g147 (d+1) x1 =
 Qa (l147_0 d x1 (j147_0 d x1)) Qf (false,0):=by kernel_rfl
noncomputable def j94i139i100_0 (d:Nat) (n8:Int):Option Bool :=
 some (!(decide (((-1):Int)≥0)))
noncomputable def l94i139i100_0 (d:Nat) (x1:t2) (kx94i139i100_0_0:Int→Option Bool) (ag7:t8→Option Bool) (s:t8):Option Bool :=
(fun n8 n9 =>
 oif (decide (n9 < (x1.2.1.length:Int))) (
 oif (decide (0≤n9)) (
 Q1 (x1.2.1[n9.toNat]?) fun x10 =>
 Q1 (g141 d x10) fun r11 =>
 oif (!r11) (
 some (!(decide (n9≥0)))) (
 ag7 (n8,(i64.wrap (n9+1))))) none) (
 kx94i139i100_0_0 n8)) s.1 s.2
noncomputable def j94i139i100_1 (d:Nat) (n15:Int):Option Bool :=
 some (!(decide (((-1):Int)≥0)))
noncomputable def l94i139i100_0x (d:Nat) (x1:t2) (kx94i139i100_0_0:Int→Option Bool) (ag14:t8→Option Bool) (s:t8):Option Bool :=
(fun n15 n16 =>
 oif (decide (n16 < (x1.2.1.length:Int))) (
 oif (decide (0≤n16)) (
 Q1 (x1.2.1[n16.toNat]?) fun x17 =>
 Q1 (g145 d x17) fun r18 =>
 oif (!r18) (
 some (!(decide (n16≥0)))) (
 ag14 (n15,(i64.wrap (n16+1))))) none) (
 kx94i139i100_0_0 n15)) s.1 s.2
noncomputable def j94_0 (d:Nat) (b20:Bool):Option Bool :=
 some true
noncomputable def l94_0 (d:Nat) (x1:t2) (kx94_0_0:Bool→Option Bool) (ag19:t7→Option Bool) (s:t7):Option Bool :=
(fun (b20:Bool) n21 =>
 oif (decide (n21 < (x1.2.1.length:Int))) (
 Q1 (g146 (d+3) x1 n21) fun r22 =>
 oif (!r22) (
 some false) (
 ag19 (b20,(i64.wrap (n21+1))))) (
 kx94_0_0 b20)) s.1 s.2
theorem e94 (d:Nat) (x1:t2) (n2:Int):g94 (d+4) x1 n2 =
 oif (n2==1) (
 Q1 (g135 (d+3) x1.1) fun r3 =>
 some r3) (
 oif (n2==2) (
 Q1 (g136 (d+3) x1) fun r4 =>
 some r4) (
 oif (n2==3) (
 Q1 (g137 (d+3) x1) fun r5 =>
 some r5) (
 oif (n2==4) (
 Q1 (g138 (d+3) x1) fun r6 =>
 some r6) (
 oif (n2==5) (
 Qa (l94i139i100_0 d x1 (j94i139i100_0 d)) Qf (0,0)) (
 oif (n2==6) (
 Q1 (g142 (d+3) x1) fun r12 =>
 oif r12 (
 Q1 (g143 (d+3) x1) fun r13 =>
 some ((r13.length:Int)==0)) (
 some false)) (
 oif (n2==7) (
 Qa (l94i139i100_0x d x1 (j94i139i100_1 d)) Qf (0,0)) (
 oif (n2==8) (
 Qa (l94_0 d x1 (j94_0 d)) Qf (false,0)) (
 oif (n2==9) (
 Q1 (g147 (d+3) x1) fun r23 =>
 some r23) (
 oif (x1.2.2.2==0) (
 some true) (
 Q1 (g148 (d+3) x1 x1.2.2.2) fun r24 =>
 some r24)))))))))):=by kernel_rfl
noncomputable def j50_0 (d:Nat) (b4:Bool):Option Bool :=
 some true
noncomputable def l50_0 (d:Nat) (x1:t2) (kx50_0_0:Bool→Option Bool) (ag3:t7→Option Bool) (s:t7):Option Bool :=
(fun (b4:Bool) n5 =>
 oif (decide (n5≤10)) (
 Q1 (g94 d x1 n5) fun r6 =>
 oif (!r6) (
 some false) (
 ag3 (b4,(i64.wrap (n5+1))))) (
 kx50_0_0 b4)) s.1 s.2
noncomputable def j50_1 (d:Nat) (x1:t2) (b2:Bool):Option Bool :=
 oif b2 (
 some false) (
 Qa (l50_0 d x1 (j50_0 d)) Qf (false,1))
theorem e50 (d:Nat) (x1:t2):g50 (d+1) x1 =
 oif (decide ((x1.2.1.length:Int) > 24)) (
 j50_1 d x1 true) (
 j50_1 d x1 (decide ((x1.2.2.1.length:Int) > 16))):=by kernel_rfl
theorem e95 (d:Nat) (l1:List t1):g95 (d+1) l1 =
 Qwo l1.length (
 some []) (
 oif (Nat.ble ((([]:List t1).length+l1.length)*64) Q7) (
 some (([]:List t1)++l1)) none):=by kernel_rfl
theorem e96 (d:Nat) (l1:List t4):g96 (d+1) l1 =
 Qwo l1.length (
 some []) (
 oif (Nat.ble ((([]:List t4).length+l1.length)*40) Q7) (
 some (([]:List t4)++l1)) none):=by kernel_rfl
theorem e99 (d:Nat) (n1:Int) (n2:Int):g99 (d+1) n1 n2 =
 oif (decide (n1 < n2)) (
 some (-1)) (
 oif (decide (n1 > n2)) (
 some 1) (
 some 0)):=by kernel_rfl
noncomputable def j174_0 (d:Nat) (l6:List t1):Option (List t1) :=
 some l6
noncomputable def j174_1 (d:Nat) (ag5:t12→Option (List t1)) (n6:Int) (n9:Int) (n10:Int) (b11:Bool) (b12:Bool) (l13:List t1):Option (List t1) :=
 ag5 ((i64.wrap (n6+1)),l13)
noncomputable def j174_2 (d:Nat) (kx174_1_0:Int→Int→Bool→Bool→(List t1)→Option (List t1)) (n2:Int) (ag8:t12→Option (List t1)) (n9:Int) (l10:List t1) (b11:Bool) (b12:Bool):Option (List t1) :=
 oif b12 (
 oif (decide (0≤((i64.wrap (n9 - 1)):Int))) (
 oif (Nat.blt (((i64.wrap (n9 - 1)):Int).toNat) l10.length) (
 Q1 (l10[((i64.wrap (n9 - 1)):Int).toNat]?) fun x13 =>
 oif (decide (0≤n9)) (
 oif (Nat.blt (n9.toNat) l10.length) (
 Q1 (l10[n9.toNat]?) fun x14 =>
 oif (decide (0≤n9)) (
 oif (Nat.blt (n9.toNat) l10.length) (
 Q1 (l10[n9.toNat]?) fun x15 =>
 oif (decide (0≤((i64.wrap (n9 - 1)):Int))) (
 oif (Nat.blt (((i64.wrap (n9 - 1)):Int).toNat) ((l10.set (n9.toNat) x13).length)) (
 Q1 ((l10.set (n9.toNat) x13)[((i64.wrap (n9 - 1)):Int).toNat]?) fun x16 =>
 ag8 ((i64.wrap (n9 - 1)),((l10.set (n9.toNat) x13).set (((i64.wrap (n9 - 1)):Int).toNat) x14))) none) none) none) none) none) none) none) none) (
 kx174_1_0 n9 n9 (decide (n9 > n2)) b11 l10)
noncomputable def l174_1 (d:Nat) (n2:Int) (kx174_1_0:Int→Int→Bool→Bool→(List t1)→Option (List t1)) (ag8:t12→Option (List t1)) (s:t12):Option (List t1) :=
(fun n9 (l10:List t1) =>
 oif (decide (n9 > n2)) (
 oif (decide (0≤n9)) (
 oif (Nat.blt (n9.toNat) l10.length) (
 Q1 (l10[n9.toNat]?) fun x11 =>
 oif (decide (0≤((i64.wrap (n9 - 1)):Int))) (
 oif (Nat.blt (((i64.wrap (n9 - 1)):Int).toNat) l10.length) (
 Q1 (l10[((i64.wrap (n9 - 1)):Int).toNat]?) fun x12 =>
 Q1 (g99 d x11.1 x12.1) fun r13 =>
 j174_2 d kx174_1_0 n2 ag8 n9 l10 true (decide (r13 < 0))) none) none) none) none) (
 j174_2 d kx174_1_0 n2 ag8 n9 l10 false false)) s.1 s.2
noncomputable def l174_0 (d:Nat) (n2:Int) (n3:Int) (kx174_0_0:(List t1)→Option (List t1)) (ag5:t12→Option (List t1)) (s:t12):Option (List t1) :=
(fun n6 (l7:List t1) =>
 oif (decide (n6 < n3)) (
 Qa (l174_1 d n2 (j174_1 d ag5 n6)) Qf (n6,l7)) (
 kx174_0_0 l7)) s.1 s.2
theorem e174 (d:Nat) (l1:List t1) (n2:Int) (n3:Int) (b4:Bool):g174 (d+2) l1 n2 n3 b4 =
 Qa (l174_0 d n2 n3 (j174_0 d)) Qf ((i64.wrap (n2+1)),l1):=by kernel_rfl
noncomputable def j198_0 (d:Nat) (l7:List t1):Option (List t1) :=
 some l7
noncomputable def l198_0 (d:Nat) (n2:Int) (n3:Int) (n4:Int) (kx198_0_0:(List t1)→Option (List t1)) (ag6:t12→Option (List t1)) (s:t12):Option (List t1) :=
(fun n7 (l8:List t1) =>
 oif (decide (n7 < n4)) (
 oif (decide (0≤((i64.wrap (n3+n7)):Int))) (
 oif (Nat.blt (((i64.wrap (n3+n7)):Int).toNat) l8.length) (
 Q1 (l8[((i64.wrap (n3+n7)):Int).toNat]?) fun x9 =>
 oif (decide (0≤((i64.wrap (n2+n7)):Int))) (
 oif (Nat.blt (((i64.wrap (n2+n7)):Int).toNat) l8.length) (
 Q1 (l8[((i64.wrap (n2+n7)):Int).toNat]?) fun x10 =>
 oif (decide (0≤((i64.wrap (n2+n7)):Int))) (
 oif (Nat.blt (((i64.wrap (n2+n7)):Int).toNat) l8.length) (
 Q1 (l8[((i64.wrap (n2+n7)):Int).toNat]?) fun x11 =>
 oif (decide (0≤((i64.wrap (n3+n7)):Int))) (
 oif (Nat.blt (((i64.wrap (n3+n7)):Int).toNat) ((l8.set (((i64.wrap (n2+n7)):Int).toNat) x9).length)) (
 Q1 ((l8.set (((i64.wrap (n2+n7)):Int).toNat) x9)[((i64.wrap (n3+n7)):Int).toNat]?) fun x12 =>
 ag6 ((i64.wrap (n7+1)),((l8.set (((i64.wrap (n2+n7)):Int).toNat) x9).set (((i64.wrap (n3+n7)):Int).toNat) x10))) none) none) none) none) none) none) none) none) (
 kx198_0_0 l8)) s.1 s.2
theorem e198 (d:Nat) (l1:List t1) (n2:Int) (n3:Int) (n4:Int) (b5:Bool):g198 (d+1) l1 n2 n3 n4 b5 =
 Qa (l198_0 d n2 n3 n4 (j198_0 d)) Qf (0,l1):=by kernel_rfl
noncomputable def j188_0 (d:Nat) (n3:Int) (n7:Int) (l8:List t1):Option (List t1) :=
 Q1 (g198 d l8 (i64.wrap (n3 - n7)) n3 n7 false) fun r9 =>
 some r9
noncomputable def l188_0 (d:Nat) (n3:Int) (kx188_0_0:Int→(List t1)→Option (List t1)) (ag6:(Int×Int×(List t1))→Option (List t1)) (s:(Int×Int×(List t1))):Option (List t1) :=
(fun n7 n8 (l9:List t1) =>
 oif (n7 != n8) (
 oif (decide (n7 > n8)) (
 Q1 (g198 d l9 (i64.wrap (n3 - n7)) n3 n8 false) fun r10 =>
 ag6 ((i64.wrap (n7 - n8)),n8,r10)) (
 Q1 (g198 d l9 (i64.wrap (n3 - n7)) (i64.wrap ((i64.wrap (n3+n8)) - n7)) n7 false) fun r11 =>
 ag6 (n7,(i64.wrap (n8 - n7)),r11))) (
 kx188_0_0 n7 l9)) s.1 s.2.1 s.2.2
theorem e188 (d:Nat) (l1:List t1) (n2:Int) (n3:Int) (n4:Int) (b5:Bool):g188 (d+1) l1 n2 n3 n4 b5 =
 Qa (l188_0 d n3 (j188_0 d n3)) Qf ((i64.wrap (n3 - n2)),(i64.wrap (n4 - n3)),l1):=by kernel_rfl
noncomputable def j175_0 (d:Nat) (l9:List t1):Option (List t1) :=
 some l9
noncomputable def l175_1 (d:Nat) (n7:Int) (kx175_1_0:(List t1)→Option (List t1)) (ag8:t12→Option (List t1)) (s:t12):Option (List t1) :=
(fun n9 (l10:List t1) =>
 oif (decide (n9 < (i64.wrap (n7 - 1)))) (
 oif (decide (0≤((i64.wrap (n9+1)):Int))) (
 oif (Nat.blt (((i64.wrap (n9+1)):Int).toNat) l10.length) (
 Q1 (l10[((i64.wrap (n9+1)):Int).toNat]?) fun x11 =>
 oif (decide (0≤n9)) (
 oif (Nat.blt (n9.toNat) l10.length) (
 Q1 (l10[n9.toNat]?) fun x12 =>
 oif (decide (0≤n9)) (
 oif (Nat.blt (n9.toNat) l10.length) (
 Q1 (l10[n9.toNat]?) fun x13 =>
 oif (decide (0≤((i64.wrap (n9+1)):Int))) (
 oif (Nat.blt (((i64.wrap (n9+1)):Int).toNat) ((l10.set (n9.toNat) x11).length)) (
 Q1 ((l10.set (n9.toNat) x11)[((i64.wrap (n9+1)):Int).toNat]?) fun x14 =>
 ag8 ((i64.wrap (n9+1)),((l10.set (n9.toNat) x11).set (((i64.wrap (n9+1)):Int).toNat) x12))) none) none) none) none) none) none) none) none) (
 kx175_1_0 l10)) s.1 s.2
noncomputable def j175_1 (d:Nat) (l1:List t1) (n2:Int) (n7:Int):Option (List t1) :=
 Qa (l175_1 d n7 (j175_0 d)) Qf (n2,l1)
noncomputable def l175_0 (d:Nat) (l1:List t1) (n2:Int) (kx175_0_0:Int→Option (List t1)) (ag6:t8→Option (List t1)) (s:t8):Option (List t1) :=
(fun n7 n8 =>
 oif (decide (n7 < n8)) (
 oif (decide (0≤((i64.wrap ((u64.wrap (i64.wrap (n7+n8))).fdiv (2 ^ (min (1:Int).toNat u64.bits)))):Int))) (
 oif (Nat.blt (((i64.wrap ((u64.wrap (i64.wrap (n7+n8))).fdiv (2 ^ (min (1:Int).toNat u64.bits)))):Int).toNat) l1.length) (
 Q1 (l1[((i64.wrap ((u64.wrap (i64.wrap (n7+n8))).fdiv (2 ^ (min (1:Int).toNat u64.bits)))):Int).toNat]?) fun x9 =>
 oif (decide (0≤n2)) (
 oif (Nat.blt (n2.toNat) l1.length) (
 Q1 (l1[n2.toNat]?) fun x10 =>
 Q1 (g99 d x9.1 x10.1) fun r11 =>
 oif (decide (r11 < 0)) (
 ag6 ((i64.wrap ((i64.wrap ((u64.wrap (i64.wrap (n7+n8))).fdiv (2 ^ (min (1:Int).toNat u64.bits))))+1)),n8)) (
 ag6 (n7,(i64.wrap ((u64.wrap (i64.wrap (n7+n8))).fdiv (2 ^ (min (1:Int).toNat u64.bits))))))) none) none) none) none) (
 kx175_0_0 n7)) s.1 s.2
noncomputable def j175_2 (d:Nat) (l18:List t1):Option (List t1) :=
 some l18
noncomputable def l175_3 (d:Nat) (n16:Int) (kx175_3_0:(List t1)→Option (List t1)) (ag17:t12→Option (List t1)) (s:t12):Option (List t1) :=
(fun n18 (l19:List t1) =>
 oif (decide (n18 > n16)) (
 oif (decide (0≤((i64.wrap (n18 - 1)):Int))) (
 oif (Nat.blt (((i64.wrap (n18 - 1)):Int).toNat) l19.length) (
 Q1 (l19[((i64.wrap (n18 - 1)):Int).toNat]?) fun x20 =>
 oif (decide (0≤n18)) (
 oif (Nat.blt (n18.toNat) l19.length) (
 Q1 (l19[n18.toNat]?) fun x21 =>
 oif (decide (0≤n18)) (
 oif (Nat.blt (n18.toNat) l19.length) (
 Q1 (l19[n18.toNat]?) fun x22 =>
 oif (decide (0≤((i64.wrap (n18 - 1)):Int))) (
 oif (Nat.blt (((i64.wrap (n18 - 1)):Int).toNat) ((l19.set (n18.toNat) x20).length)) (
 Q1 ((l19.set (n18.toNat) x20)[((i64.wrap (n18 - 1)):Int).toNat]?) fun x23 =>
 ag17 ((i64.wrap (n18 - 1)),((l19.set (n18.toNat) x20).set (((i64.wrap (n18 - 1)):Int).toNat) x21))) none) none) none) none) none) none) none) none) (
 kx175_3_0 l19)) s.1 s.2
noncomputable def j175_3 (d:Nat) (l1:List t1) (n3:Int) (n16:Int):Option (List t1) :=
 Qa (l175_3 d n16 (j175_2 d)) Qf (n3,l1)
noncomputable def l175_2 (d:Nat) (l1:List t1) (n3:Int) (kx175_2_0:Int→Option (List t1)) (ag15:t8→Option (List t1)) (s:t8):Option (List t1) :=
(fun n16 n17 =>
 oif (decide (n16 < n17)) (
 oif (decide (0≤n3)) (
 oif (Nat.blt (n3.toNat) l1.length) (
 Q1 (l1[n3.toNat]?) fun x18 =>
 oif (decide (0≤((i64.wrap ((u64.wrap (i64.wrap (n16+n17))).fdiv (2 ^ (min (1:Int).toNat u64.bits)))):Int))) (
 oif (Nat.blt (((i64.wrap ((u64.wrap (i64.wrap (n16+n17))).fdiv (2 ^ (min (1:Int).toNat u64.bits)))):Int).toNat) l1.length) (
 Q1 (l1[((i64.wrap ((u64.wrap (i64.wrap (n16+n17))).fdiv (2 ^ (min (1:Int).toNat u64.bits)))):Int).toNat]?) fun x19 =>
 Q1 (g99 d x18.1 x19.1) fun r20 =>
 oif (!(decide (r20 < 0))) (
 ag15 ((i64.wrap ((i64.wrap ((u64.wrap (i64.wrap (n16+n17))).fdiv (2 ^ (min (1:Int).toNat u64.bits))))+1)),n17)) (
 ag15 (n16,(i64.wrap ((u64.wrap (i64.wrap (n16+n17))).fdiv (2 ^ (min (1:Int).toNat u64.bits))))))) none) none) none) none) (
 kx175_2_0 n16)) s.1 s.2
noncomputable def j175_4 (d:Nat) (n2:Int) (n3:Int) (n4:Int) (n27:Int) (l31:List t1) (b32:Bool):Option (List t1) :=
 oif b32 (
 Q1 (g175 (d+1) l31 (i64.wrap ((u64.wrap (i64.wrap (n2+n4))).fdiv (2 ^ (min (1:Int).toNat u64.bits)))) (i64.wrap ((i64.wrap ((i64.wrap ((u64.wrap (i64.wrap (n2+n4))).fdiv (2 ^ (min (1:Int).toNat u64.bits))))+n3)) - n27)) n4 false) fun r33 =>
 some r33) (
 some l31)
noncomputable def j175_5 (d:Nat) (n2:Int) (n3:Int) (n4:Int) (n27:Int) (l31:List t1):Option (List t1) :=
 oif (decide (((i64.wrap ((u64.wrap (i64.wrap (n2+n4))).fdiv (2 ^ (min (1:Int).toNat u64.bits)))):Int) < (i64.wrap ((i64.wrap ((i64.wrap ((u64.wrap (i64.wrap (n2+n4))).fdiv (2 ^ (min (1:Int).toNat u64.bits))))+n3)) - n27)))) (
 j175_4 d n2 n3 n4 n27 l31 (decide (((i64.wrap ((i64.wrap ((i64.wrap ((u64.wrap (i64.wrap (n2+n4))).fdiv (2 ^ (min (1:Int).toNat u64.bits))))+n3)) - n27)):Int) < n4))) (
 j175_4 d n2 n3 n4 n27 l31 false)
noncomputable def j175_6 (d:Nat) (n2:Int) (n3:Int) (n4:Int) (n27:Int) (l29:List t1) (b30:Bool):Option (List t1) :=
 oif b30 (
 Q1 (g175 (d+1) l29 n2 n27 (i64.wrap ((u64.wrap (i64.wrap (n2+n4))).fdiv (2 ^ (min (1:Int).toNat u64.bits)))) false) fun r31 =>
 j175_5 d n2 n3 n4 n27 r31) (
 j175_5 d n2 n3 n4 n27 l29)
noncomputable def j175_7 (d:Nat) (n2:Int) (n3:Int) (n4:Int) (n27:Int) (l29:List t1):Option (List t1) :=
 oif (decide (n2 < n27)) (
 j175_6 d n2 n3 n4 n27 l29 (decide (n27 < (i64.wrap ((u64.wrap (i64.wrap (n2+n4))).fdiv (2 ^ (min (1:Int).toNat u64.bits))))))) (
 j175_6 d n2 n3 n4 n27 l29 false)
noncomputable def j175_8 (d:Nat) (l1:List t1) (n2:Int) (n3:Int) (n4:Int) (n27:Int) (b28:Bool):Option (List t1) :=
 oif b28 (
 Q1 (g188 (d+1) l1 n27 n3 (i64.wrap ((i64.wrap ((i64.wrap ((u64.wrap (i64.wrap (n2+n4))).fdiv (2 ^ (min (1:Int).toNat u64.bits))))+n3)) - n27)) false) fun r29 =>
 j175_7 d n2 n3 n4 n27 r29) (
 j175_7 d n2 n3 n4 n27 l1)
noncomputable def j175_9 (d:Nat) (l1:List t1) (n2:Int) (n3:Int) (n4:Int) (n27:Int):Option (List t1) :=
 oif (decide (n27 < n3)) (
 j175_8 d l1 n2 n3 n4 n27 (decide (n3 < (i64.wrap ((i64.wrap ((i64.wrap ((u64.wrap (i64.wrap (n2+n4))).fdiv (2 ^ (min (1:Int).toNat u64.bits))))+n3)) - n27))))) (
 j175_8 d l1 n2 n3 n4 n27 false)
noncomputable def l175_4 (d:Nat) (l1:List t1) (n2:Int) (n3:Int) (n4:Int) (kx175_4_0:Int→Option (List t1)) (ag26:t8→Option (List t1)) (s:t8):Option (List t1) :=
(fun n27 n28 =>
 oif (decide (n27 < n28)) (
 oif (decide (0≤((i64.wrap ((i64.wrap ((i64.wrap ((i64.wrap ((u64.wrap (i64.wrap (n2+n4))).fdiv (2 ^ (min (1:Int).toNat u64.bits))))+n3)) - 1)) - (i64.wrap ((u64.wrap (i64.wrap (n27+n28))).fdiv (2 ^ (min (1:Int).toNat u64.bits)))))):Int))) (
 oif (Nat.blt (((i64.wrap ((i64.wrap ((i64.wrap ((i64.wrap ((u64.wrap (i64.wrap (n2+n4))).fdiv (2 ^ (min (1:Int).toNat u64.bits))))+n3)) - 1)) - (i64.wrap ((u64.wrap (i64.wrap (n27+n28))).fdiv (2 ^ (min (1:Int).toNat u64.bits)))))):Int).toNat) l1.length) (
 Q1 (l1[((i64.wrap ((i64.wrap ((i64.wrap ((i64.wrap ((u64.wrap (i64.wrap (n2+n4))).fdiv (2 ^ (min (1:Int).toNat u64.bits))))+n3)) - 1)) - (i64.wrap ((u64.wrap (i64.wrap (n27+n28))).fdiv (2 ^ (min (1:Int).toNat u64.bits)))))):Int).toNat]?) fun x29 =>
 oif (decide (0≤((i64.wrap ((u64.wrap (i64.wrap (n27+n28))).fdiv (2 ^ (min (1:Int).toNat u64.bits)))):Int))) (
 oif (Nat.blt (((i64.wrap ((u64.wrap (i64.wrap (n27+n28))).fdiv (2 ^ (min (1:Int).toNat u64.bits)))):Int).toNat) l1.length) (
 Q1 (l1[((i64.wrap ((u64.wrap (i64.wrap (n27+n28))).fdiv (2 ^ (min (1:Int).toNat u64.bits)))):Int).toNat]?) fun x30 =>
 Q1 (g99 d x29.1 x30.1) fun r31 =>
 oif (!(decide (r31 < 0))) (
 ag26 ((i64.wrap ((i64.wrap ((u64.wrap (i64.wrap (n27+n28))).fdiv (2 ^ (min (1:Int).toNat u64.bits))))+1)),n28)) (
 ag26 (n27,(i64.wrap ((u64.wrap (i64.wrap (n27+n28))).fdiv (2 ^ (min (1:Int).toNat u64.bits))))))) none) none) none) none) (
 kx175_4_0 n27)) s.1 s.2
noncomputable def j175_10 (d:Nat) (l1:List t1) (n2:Int) (n3:Int) (n4:Int) (n24:Int) (n25:Int):Option (List t1) :=
 Qa (l175_4 d l1 n2 n3 n4 (j175_9 d l1 n2 n3 n4)) Qf (n24,n25)
theorem e175 (d:Nat) (l1:List t1) (n2:Int) (n3:Int) (n4:Int) (b5:Bool):g175 (d+2) l1 n2 n3 n4 b5 =
 oif (((i64.wrap (n3 - n2)):Int)==1) (
 Qa (l175_0 d l1 n2 (j175_1 d l1 n2)) Qf (n3,n4)) (
 oif (((i64.wrap (n4 - n3)):Int)==1) (
 Qa (l175_2 d l1 n3 (j175_3 d l1 n3)) Qf (n2,n3)) (
 oif (decide (n3 > (i64.wrap ((u64.wrap (i64.wrap (n2+n4))).fdiv (2 ^ (min (1:Int).toNat u64.bits)))))) (
 j175_10 d l1 n2 n3 n4 (i64.wrap ((i64.wrap ((i64.wrap ((u64.wrap (i64.wrap (n2+n4))).fdiv (2 ^ (min (1:Int).toNat u64.bits))))+n3)) - n4)) (i64.wrap ((u64.wrap (i64.wrap (n2+n4))).fdiv (2 ^ (min (1:Int).toNat u64.bits))))) (
 j175_10 d l1 n2 n3 n4 n2 n3))):=by kernel_rfl
noncomputable def j149_0 (d:Nat) (l10:List t1):Option (List t1) :=
 some l10
noncomputable def j149_1 (d:Nat) (n2:Int) (ag9:(Int×Int×Int×(List t1))→Option (List t1)) (n10:Int) (n15:Int) (n16:Int) (n17:Int) (l18:List t1):Option (List t1) :=
 oif (decide (((i64.wrap (n15+n10)):Int) < n2)) (
 Q1 (g175 d l18 n15 (i64.wrap (n15+n10)) n2 false) fun r19 =>
 ag9 ((i64.wrap (n10*2)),n15,n16,r19)) (
 ag9 ((i64.wrap (n10*2)),n15,n16,l18))
noncomputable def l149_2 (d:Nat) (n2:Int) (n10:Int) (kx149_2_0:Int→Int→Int→(List t1)→Option (List t1)) (ag14:(Int×Int×(List t1))→Option (List t1)) (s:(Int×Int×(List t1))):Option (List t1) :=
(fun n15 n16 (l17:List t1) =>
 oif (decide (n16≤n2)) (
 Q1 (g175 d l17 n15 (i64.wrap (n15+n10)) n16 false) fun r18 =>
 ag14 (n16,(i64.wrap (n16+(i64.wrap ((2:Int)*n10)))),r18)) (
 kx149_2_0 n15 n16 n16 l17)) s.1 s.2.1 s.2.2
noncomputable def l149_1 (d:Nat) (n2:Int) (kx149_1_0:(List t1)→Option (List t1)) (ag9:(Int×Int×Int×(List t1))→Option (List t1)) (s:(Int×Int×Int×(List t1))):Option (List t1) :=
(fun n10 n11 n12 (l13:List t1) =>
 oif (decide (n10 < n2)) (
 Qa (l149_2 d n2 n10 (j149_1 d n2 ag9 n10)) Qf (0,(i64.wrap ((2:Int)*n10)),l13)) (
 kx149_1_0 l13)) s.1 s.2.1 s.2.2.1 s.2.2.2
noncomputable def j149_2 (d:Nat) (n2:Int) (n5:Int) (n6:Int) (l7:List t1):Option (List t1) :=
 Q1 (g174 d l7 n5 n2 false) fun r8 =>
 Qa (l149_1 d n2 (j149_0 d)) Qf (20,n5,n6,r8)
noncomputable def l149_0 (d:Nat) (n2:Int) (kx149_0_0:Int→Int→(List t1)→Option (List t1)) (ag4:(Int×Int×(List t1))→Option (List t1)) (s:(Int×Int×(List t1))):Option (List t1) :=
(fun n5 n6 (l7:List t1) =>
 oif (decide (n6≤n2)) (
 Q1 (g174 d l7 n5 n6 false) fun r8 =>
 ag4 (n6,(i64.wrap (n6+20)),r8)) (
 kx149_0_0 n5 n6 l7)) s.1 s.2.1 s.2.2
theorem e149 (d:Nat) (l1:List t1) (n2:Int) (b3:Bool):g149 (d+1) l1 n2 b3 =
 Qa (l149_0 d n2 (j149_2 d n2)) Qf (0,20,l1):=by kernel_rfl
theorem e97 (d:Nat) (l1:List t1) (b2:Bool):g97 (d+1) l1 b2 =
 Q1 (g149 d l1 (l1.length:Int) false) fun r3 =>
 some r3:=by kernel_rfl
noncomputable def j51_0 (d:Nat) (x1:t0) (r2:List t1) (r3:List t4) (b4:Bool):Option t2 :=
 oif b4 (
 oif (decide (0≤x1.2.2.2.2.2.2.2.2)) (
 Q1 (x1.2.1[x1.2.2.2.2.2.2.2.2.toNat]?) fun x5 =>
 Q1 (g97 d r2 false) fun r6 =>
 some (x1.1,r6,r3,x5.1)) none) (
 Q1 (g97 d r2 false) fun r7 =>
 some (x1.1,r7,r3,0))
theorem e51 (d:Nat) (x1:t0):g51 (d+1) x1 =
 Q1 (g95 d x1.2.1) fun r2 =>
 Q1 (g96 d x1.2.2.2.2.2.2.1) fun r3 =>
 oif (decide (x1.2.2.2.2.2.2.2.2≥0)) (
 j51_0 d x1 r2 r3 (decide (x1.2.2.2.2.2.2.2.2 < (x1.2.1.length:Int)))) (
 j51_0 d x1 r2 r3 false):=by kernel_rfl
theorem e197 (d:Nat) (n1:Int) (n2:Int):g197 (d+1) n1 n2 =
 some ((u64.wrap ((u64.wrap ((u64.wrap ((n1.fdiv (2 ^ (min (32:Int).toNat u64.bits)))*(n2.fdiv (2 ^ (min (32:Int).toNat u64.bits)))))+((u64.wrap ((u64.wrap ((n1.fdiv (2 ^ (min (32:Int).toNat u64.bits)))*(u64.wrap ((BitVec.ofInt u64.bits n2 &&& BitVec.ofInt u64.bits 4294967295).toNat:Int))))+((u64.wrap ((u64.wrap ((BitVec.ofInt u64.bits n1 &&& BitVec.ofInt u64.bits 4294967295).toNat:Int))*(u64.wrap ((BitVec.ofInt u64.bits n2 &&& BitVec.ofInt u64.bits 4294967295).toNat:Int)))).fdiv (2 ^ (min (32:Int).toNat u64.bits))))).fdiv (2 ^ (min (32:Int).toNat u64.bits)))))+((u64.wrap ((u64.wrap ((BitVec.ofInt u64.bits (u64.wrap ((u64.wrap ((n1.fdiv (2 ^ (min (32:Int).toNat u64.bits)))*(u64.wrap ((BitVec.ofInt u64.bits n2 &&& BitVec.ofInt u64.bits 4294967295).toNat:Int))))+((u64.wrap ((u64.wrap ((BitVec.ofInt u64.bits n1 &&& BitVec.ofInt u64.bits 4294967295).toNat:Int))*(u64.wrap ((BitVec.ofInt u64.bits n2 &&& BitVec.ofInt u64.bits 4294967295).toNat:Int)))).fdiv (2 ^ (min (32:Int).toNat u64.bits))))) &&& BitVec.ofInt u64.bits 4294967295).toNat:Int))+(u64.wrap ((u64.wrap ((BitVec.ofInt u64.bits n1 &&& BitVec.ofInt u64.bits 4294967295).toNat:Int))*(n2.fdiv (2 ^ (min (32:Int).toNat u64.bits))))))).fdiv (2 ^ (min (32:Int).toNat u64.bits))))),(u64.wrap (n1*n2))):=by kernel_rfl
theorem e184 (d:Nat) (n1:Int) (n2:Int):g184 (d+1) n1 n2 =
 Q1 (g197 d n1 n2) fun r3 =>
 some (r3.1,r3.2):=by kernel_rfl
noncomputable def j161_0 (d:Nat) (l6:List Int):Option (List Int) :=
 some l6
noncomputable def l161_0 (d:Nat) (kx161_0_0:(List Int)→Option (List Int)) (ag5:t13→Option (List Int)) (s:t13):Option (List Int) :=
(fun n6 (l7:List Int) =>
 oif (decide (n6 < (l7.length:Int))) (
 oif (decide (0≤n6)) (
 oif (Nat.ble (n6.toNat) l7.length) (
 oif (decide (0≤n6)) (
 oif (Nat.ble (n6.toNat) l7.length) (
 ag5 ((i64.wrap (n6+((min (l7.take (n6.toNat)).length (l7.length - (0+n6.toNat)):Nat):Int))),(cpy l7 (0+n6.toNat) (l7.length - (0+n6.toNat)) (l7.take (n6.toNat))))) none) none) none) none) (
 kx161_0_0 l7)) s.1 s.2
noncomputable def j161_1 (d:Nat) (l1:List Int) (r3:t8) (b4:Bool):Option (List Int) :=
 oif b4 (
 none) (
 oif (decide (0≤((i64.wrap r3.2):Int))) (
 oif (decide (0≤((i64.wrap r3.2):Int))) (
 oif (Nat.ble (((i64.wrap r3.2):Int).toNat) (((i64.wrap r3.2):Int).toNat)&&Nat.ble ((((i64.wrap r3.2):Int).toNat)*8) Q7) (
 Qa (l161_0 d (j161_0 d)) Qf (((min l1.length ((List.replicate (((i64.wrap r3.2):Int).toNat) (0:Int)).length):Nat):Int),(cpy (List.replicate (((i64.wrap r3.2):Int).toNat) (0:Int)) 0 ((List.replicate (((i64.wrap r3.2):Int).toNat) (0:Int)).length) l1))) none) none) none)
theorem e161 (d:Nat) (l1:List Int) (n2:Int):g161 (d+1) l1 n2 =
 oif (decide (n2 < 0)) (
 none) (
 Q1 (g184 d (u64.wrap (l1.length:Int)) (u64.wrap n2)) fun r3 =>
 oif (decide (r3.1 > 0)) (
 j161_1 d l1 r3 true) (
 j161_1 d l1 r3 (decide (r3.2 > 9223372036854775807)))):=by kernel_rfl
theorem e179 (d:Nat) (n1:Int):g179 (d+1) n1 =
 Qew n1:=by kernel_rfl
theorem e190 (d:Nat) (s1:ByteArray) (n2:Int):g190 (d+1) s1 n2 =
 Qrs s1 n2:=by kernel_rfl
theorem e180 (d:Nat) (x1:t6) (n2:Int) (s3:ByteArray):g180 (d+1) x1 n2 s3 =
 Q1 (g190 d (⟨#[32,32]⟩:ByteArray) n2) fun r4 =>
 oif (Nat.ble (r4.size+s3.size) 9223372036854775807) (
 oif (Nat.ble ((x1.2.1.length+[(r4++s3)].length)*16) Q7) (
 some (x1.1,(x1.2.1++[(r4++s3)]),x1.2.2)) none) none:=by kernel_rfl
noncomputable def j192_0 (d:Nat) (n1:Int) (b4:Bool):Option ByteArray :=
 oif b4 (
 Q1 (g179 d (i64.wrap (n1.tdiv 1000))) fun r5 =>
 oif (Nat.ble (r5.size+((⟨#[107]⟩:ByteArray):ByteArray).size) 9223372036854775807) (
 some (r5++((⟨#[107]⟩:ByteArray):ByteArray))) none) (
 Q1 (g179 d n1) fun r6 =>
 some r6)
noncomputable def j192_1 (d:Nat) (n1:Int) (b2:Bool):Option ByteArray :=
 oif b2 (
 Q1 (g179 d (i64.wrap (n1.tdiv 1000000))) fun r3 =>
 oif (Nat.ble (r3.size+((⟨#[109]⟩:ByteArray):ByteArray).size) 9223372036854775807) (
 some (r3++((⟨#[109]⟩:ByteArray):ByteArray))) none) (
 oif (decide (n1 > 0)) (
 j192_0 d n1 (((n1.tmod 1000):Int)==0)) (
 j192_0 d n1 false))
theorem e192 (d:Nat) (n1:Int):g192 (d+1) n1 =
 oif (decide (n1 > 0)) (
 j192_1 d n1 (((n1.tmod 1000000):Int)==0)) (
 j192_1 d n1 false):=by kernel_rfl
theorem e191 (d:Nat) (x1:t1):g191 (d+1) x1 =
 Q1 (g179 d x1.1) fun r2 =>
 oif (Nat.ble (((⟨#[99,108,97,115,115,32]⟩:ByteArray):ByteArray).size+r2.size) 9223372036854775807) (
 oif (Nat.ble (((((⟨#[99,108,97,115,115,32]⟩:ByteArray):ByteArray)++r2):ByteArray).size+((⟨#[32,114,97,116,101,32]⟩:ByteArray):ByteArray).size) 9223372036854775807) (
 Q1 (g192 d x1.2.2.1) fun r3 =>
 oif (Nat.ble (((((((⟨#[99,108,97,115,115,32]⟩:ByteArray):ByteArray)++r2):ByteArray)++((⟨#[32,114,97,116,101,32]⟩:ByteArray):ByteArray)):ByteArray).size+r3.size) 9223372036854775807) (
 oif (Nat.ble (((((((((⟨#[99,108,97,115,115,32]⟩:ByteArray):ByteArray)++r2):ByteArray)++((⟨#[32,114,97,116,101,32]⟩:ByteArray):ByteArray)):ByteArray)++r3):ByteArray).size+((⟨#[32,99,101,105,108,32]⟩:ByteArray):ByteArray).size) 9223372036854775807) (
 Q1 (g192 d x1.2.2.2.1) fun r4 =>
 oif (Nat.ble (((((((((((⟨#[99,108,97,115,115,32]⟩:ByteArray):ByteArray)++r2):ByteArray)++((⟨#[32,114,97,116,101,32]⟩:ByteArray):ByteArray)):ByteArray)++r3):ByteArray)++((⟨#[32,99,101,105,108,32]⟩:ByteArray):ByteArray)):ByteArray).size+r4.size) 9223372036854775807) (
 oif (Nat.ble (((((((((((((⟨#[99,108,97,115,115,32]⟩:ByteArray):ByteArray)++r2):ByteArray)++((⟨#[32,114,97,116,101,32]⟩:ByteArray):ByteArray)):ByteArray)++r3):ByteArray)++((⟨#[32,99,101,105,108,32]⟩:ByteArray):ByteArray)):ByteArray)++r4):ByteArray).size+((⟨#[32,98,117,114,115,116,32]⟩:ByteArray):ByteArray).size) 9223372036854775807) (
 Q1 (g192 d x1.2.2.2.2.1) fun r5 =>
 oif (Nat.ble (((((((((((((((⟨#[99,108,97,115,115,32]⟩:ByteArray):ByteArray)++r2):ByteArray)++((⟨#[32,114,97,116,101,32]⟩:ByteArray):ByteArray)):ByteArray)++r3):ByteArray)++((⟨#[32,99,101,105,108,32]⟩:ByteArray):ByteArray)):ByteArray)++r4):ByteArray)++((⟨#[32,98,117,114,115,116,32]⟩:ByteArray):ByteArray)):ByteArray).size+r5.size) 9223372036854775807) (
 oif (Nat.ble (((((((((((((((((⟨#[99,108,97,115,115,32]⟩:ByteArray):ByteArray)++r2):ByteArray)++((⟨#[32,114,97,116,101,32]⟩:ByteArray):ByteArray)):ByteArray)++r3):ByteArray)++((⟨#[32,99,101,105,108,32]⟩:ByteArray):ByteArray)):ByteArray)++r4):ByteArray)++((⟨#[32,98,117,114,115,116,32]⟩:ByteArray):ByteArray)):ByteArray)++r5):ByteArray).size+((⟨#[32,99,98,117,114,115,116,32]⟩:ByteArray):ByteArray).size) 9223372036854775807) (
 Q1 (g192 d x1.2.2.2.2.2.1) fun r6 =>
 oif (Nat.ble (((((((((((((((((((⟨#[99,108,97,115,115,32]⟩:ByteArray):ByteArray)++r2):ByteArray)++((⟨#[32,114,97,116,101,32]⟩:ByteArray):ByteArray)):ByteArray)++r3):ByteArray)++((⟨#[32,99,101,105,108,32]⟩:ByteArray):ByteArray)):ByteArray)++r4):ByteArray)++((⟨#[32,98,117,114,115,116,32]⟩:ByteArray):ByteArray)):ByteArray)++r5):ByteArray)++((⟨#[32,99,98,117,114,115,116,32]⟩:ByteArray):ByteArray)):ByteArray).size+r6.size) 9223372036854775807) (
 oif (Nat.ble (((((((((((((((((((((⟨#[99,108,97,115,115,32]⟩:ByteArray):ByteArray)++r2):ByteArray)++((⟨#[32,114,97,116,101,32]⟩:ByteArray):ByteArray)):ByteArray)++r3):ByteArray)++((⟨#[32,99,101,105,108,32]⟩:ByteArray):ByteArray)):ByteArray)++r4):ByteArray)++((⟨#[32,98,117,114,115,116,32]⟩:ByteArray):ByteArray)):ByteArray)++r5):ByteArray)++((⟨#[32,99,98,117,114,115,116,32]⟩:ByteArray):ByteArray)):ByteArray)++r6):ByteArray).size+((⟨#[32,112,114,105,111,32]⟩:ByteArray):ByteArray).size) 9223372036854775807) (
 Q1 (g179 d x1.2.2.2.2.2.2.1) fun r7 =>
 oif (Nat.ble (((((((((((((((((((((((⟨#[99,108,97,115,115,32]⟩:ByteArray):ByteArray)++r2):ByteArray)++((⟨#[32,114,97,116,101,32]⟩:ByteArray):ByteArray)):ByteArray)++r3):ByteArray)++((⟨#[32,99,101,105,108,32]⟩:ByteArray):ByteArray)):ByteArray)++r4):ByteArray)++((⟨#[32,98,117,114,115,116,32]⟩:ByteArray):ByteArray)):ByteArray)++r5):ByteArray)++((⟨#[32,99,98,117,114,115,116,32]⟩:ByteArray):ByteArray)):ByteArray)++r6):ByteArray)++((⟨#[32,112,114,105,111,32]⟩:ByteArray):ByteArray)):ByteArray).size+r7.size) 9223372036854775807) (
 some (((((((((((((((((((((((⟨#[99,108,97,115,115,32]⟩:ByteArray):ByteArray)++r2):ByteArray)++((⟨#[32,114,97,116,101,32]⟩:ByteArray):ByteArray)):ByteArray)++r3):ByteArray)++((⟨#[32,99,101,105,108,32]⟩:ByteArray):ByteArray)):ByteArray)++r4):ByteArray)++((⟨#[32,98,117,114,115,116,32]⟩:ByteArray):ByteArray)):ByteArray)++r5):ByteArray)++((⟨#[32,99,98,117,114,115,116,32]⟩:ByteArray):ByteArray)):ByteArray)++r6):ByteArray)++((⟨#[32,112,114,105,111,32]⟩:ByteArray):ByteArray)):ByteArray)++r7)) none) none) none) none) none) none) none) none) none) none) none:=by kernel_rfl
noncomputable def j181_0 (d:Nat) (n2:Int) (s6:ByteArray) (l7:List t1) (l8:List t4) (n9:Int) (l10:List ByteArray) (l11:List Int) (l12:List Int) (l13:List Int):Option t6 :=
 oif (decide (0≤n2)) (
 oif (Nat.blt (n2.toNat) l13.length) (
 Q1 (l13[n2.toNat]?) fun n14 =>
 some ((s6,l7,l8,n9),l10,l11,l12,(l13.set (n2.toNat) (l10.length:Int)))) none) none
noncomputable def j181_1 (d:Nat) (n2:Int) (n3:Int) (s15:ByteArray) (l16:List t1) (l17:List t4) (n18:Int) (l19:List ByteArray) (l20:List Int) (l21:List Int) (l22:List Int):Option t6 :=
 Q1 (g180 d ((s15,l16,l17,n18),l19,l20,l21,l22) n3 (⟨#[125]⟩:ByteArray)) fun r23 =>
 j181_0 d n2 r23.1.1 r23.1.2.1 r23.1.2.2.1 r23.1.2.2.2 r23.2.1 r23.2.2.1 r23.2.2.2.1 r23.2.2.2.2
noncomputable def l181_0 (d:Nat) (n3:Int) (r13:List Int) (kx181_0_0:ByteArray→(List t1)→(List t4)→Int→(List ByteArray)→(List Int)→(List Int)→(List Int)→Option t6) (ag14:(Int×t6)→Option t6) (s:(Int×t6)):Option t6 :=
(fun n15 (x16:t6) =>
 oif (decide (n15 < (r13.length:Int))) (
 oif (decide (0≤n15)) (
 oif (Nat.blt (n15.toNat) r13.length) (
 Q1 (r13[n15.toNat]?) fun n17 =>
 Q1 (g181 d x16 n17 (i64.wrap (n3+1))) fun r18 =>
 ag14 ((i64.wrap (n15+1)),r18)) none) none) (
 kx181_0_0 x16.1.1 x16.1.2.1 x16.1.2.2.1 x16.1.2.2.2 x16.2.1 x16.2.2.1 x16.2.2.2.1 x16.2.2.2.2)) s.1 s.2
theorem e181 (d:Nat) (x1:t6) (n2:Int) (n3:Int):g181 (d+1) x1 n2 n3 =
 oif (decide (0≤n2)) (
 Q1 (x1.1.2.1[n2.toNat]?) fun x4 =>
 oif (Nat.ble ((x1.2.2.1.length+[n2].length)*8) Q7) (
 Q1 (g172 d x1.1 n2) fun r5 =>
 oif r5 (
 Q1 (g191 d x4) fun r6 =>
 oif (Nat.ble (r6.size+((⟨#[32,108,105,109,105,116,32]⟩:ByteArray):ByteArray).size) 9223372036854775807) (
 Q1 (g192 d x4.2.2.2.2.2.2.2) fun r7 =>
 oif (Nat.ble (((r6++((⟨#[32,108,105,109,105,116,32]⟩:ByteArray):ByteArray)):ByteArray).size+r7.size) 9223372036854775807) (
 oif (Nat.ble (((((r6++((⟨#[32,108,105,109,105,116,32]⟩:ByteArray):ByteArray)):ByteArray)++r7):ByteArray).size+((⟨#[59]⟩:ByteArray):ByteArray).size) 9223372036854775807) (
 Q1 (g180 d (x1.1,x1.2.1,(x1.2.2.1++[n2]),x1.2.2.2) n3 (((((r6++((⟨#[32,108,105,109,105,116,32]⟩:ByteArray):ByteArray)):ByteArray)++r7):ByteArray)++((⟨#[59]⟩:ByteArray):ByteArray))) fun r8 =>
 oif (decide (0≤n2)) (
 oif (Nat.blt (n2.toNat) r8.2.2.2.1.length) (
 Q1 (r8.2.2.2.1[n2.toNat]?) fun n9 =>
 j181_0 d n2 r8.1.1 r8.1.2.1 r8.1.2.2.1 r8.1.2.2.2 r8.2.1 r8.2.2.1 (r8.2.2.2.1.set (n2.toNat) (r8.2.1.length:Int)) r8.2.2.2.2) none) none) none) none) none) (
 Q1 (g191 d x4) fun r10 =>
 oif (Nat.ble (r10.size+((⟨#[32,123]⟩:ByteArray):ByteArray).size) 9223372036854775807) (
 Q1 (g180 d (x1.1,x1.2.1,(x1.2.2.1++[n2]),x1.2.2.2) n3 (r10++((⟨#[32,123]⟩:ByteArray):ByteArray))) fun r11 =>
 oif (decide (0≤n2)) (
 oif (Nat.blt (n2.toNat) r11.2.2.2.1.length) (
 Q1 (r11.2.2.2.1[n2.toNat]?) fun n12 =>
 Q1 (g186 d r11.1 n2) fun r13 =>
 Qa (l181_0 d n3 r13 (j181_1 d n2 n3)) Qf (0,(r11.1,r11.2.1,r11.2.2.1,(r11.2.2.2.1.set (n2.toNat) (r11.2.1.length:Int)),r11.2.2.2.2))) none) none) none)) none) none:=by kernel_rfl
noncomputable def j182i100_0 (d:Nat) (n3:Int):Option Int :=
 some (-1)
noncomputable def l182i100_0 (d:Nat) (x1:t2) (kx182i100_0_0:Int→Option Int) (ag2:t8→Option Int) (s:t8):Option Int :=
(fun n3 n4 =>
 oif (decide (n4 < (x1.2.1.length:Int))) (
 oif (decide (0≤n4)) (
 Q1 (x1.2.1[n4.toNat]?) fun x5 =>
 oif (x5.2.1==0) (
 some n4) (
 ag2 (n3,(i64.wrap (n4+1))))) none) (
 kx182i100_0_0 n3)) s.1 s.2
theorem e182 (d:Nat) (x1:t2):g182 (d+3) x1 =
 Qa (l182i100_0 d x1 (j182i100_0 d)) Qf (0,0):=by kernel_rfl
noncomputable def j205_0 (d:Nat) (s4:ByteArray):Option (ByteArray×Bool) :=
 oif (Nat.ble (((⟨#[48,120]⟩:ByteArray):ByteArray).size+s4.size) 9223372036854775807) (
 some ((((⟨#[48,120]⟩:ByteArray):ByteArray)++s4),true)) none
noncomputable def j205_1 (d:Nat) (kx205_0_0:ByteArray→Option (ByteArray×Bool)) (ag3:(Int×ByteArray)→Option (ByteArray×Bool)) (n4:Int) (s5:ByteArray) (b6:Bool) (b7:Bool):Option (ByteArray×Bool) :=
 oif b7 (
 oif (decide (0≤((i64.wrap ((i64.wrap ((BitVec.ofInt i64.bits n4 &&& BitVec.ofInt i64.bits 15).toNat:Int))+1)):Int))) (
 oif (decide (0≤((i64.wrap ((BitVec.ofInt i64.bits n4 &&& BitVec.ofInt i64.bits 15).toNat:Int)):Int))) (
 oif (Nat.ble (((i64.wrap ((BitVec.ofInt i64.bits n4 &&& BitVec.ofInt i64.bits 15).toNat:Int)):Int).toNat) (((i64.wrap ((i64.wrap ((BitVec.ofInt i64.bits n4 &&& BitVec.ofInt i64.bits 15).toNat:Int))+1)):Int).toNat)&&Nat.ble (((i64.wrap ((i64.wrap ((BitVec.ofInt i64.bits n4 &&& BitVec.ofInt i64.bits 15).toNat:Int))+1)):Int).toNat) ((⟨#[48,49,50,51,52,53,54,55,56,57,97,98,99,100,101,102]⟩:ByteArray):ByteArray).size) (
 oif (Nat.ble (((((⟨#[48,49,50,51,52,53,54,55,56,57,97,98,99,100,101,102]⟩:ByteArray):ByteArray).extract (((i64.wrap ((BitVec.ofInt i64.bits n4 &&& BitVec.ofInt i64.bits 15).toNat:Int)):Int).toNat) (((i64.wrap ((i64.wrap ((BitVec.ofInt i64.bits n4 &&& BitVec.ofInt i64.bits 15).toNat:Int))+1)):Int).toNat)):ByteArray).size+s5.size) 9223372036854775807) (
 ag3 ((n4.fdiv (2 ^ (min (4:Int).toNat i64.bits))),(((((⟨#[48,49,50,51,52,53,54,55,56,57,97,98,99,100,101,102]⟩:ByteArray):ByteArray).extract (((i64.wrap ((BitVec.ofInt i64.bits n4 &&& BitVec.ofInt i64.bits 15).toNat:Int)):Int).toNat) (((i64.wrap ((i64.wrap ((BitVec.ofInt i64.bits n4 &&& BitVec.ofInt i64.bits 15).toNat:Int))+1)):Int).toNat)):ByteArray)++s5))) none) none) none) none) (
 kx205_0_0 s5)
noncomputable def l205_0 (d:Nat) (kx205_0_0:ByteArray→Option (ByteArray×Bool)) (ag3:(Int×ByteArray)→Option (ByteArray×Bool)) (s:(Int×ByteArray)):Option (ByteArray×Bool) :=
(fun n4 s5 =>
 oif (decide (n4 > 0)) (
 j205_1 d kx205_0_0 ag3 n4 s5 true true) (
 j205_1 d kx205_0_0 ag3 n4 s5 false (s5.toList==((⟨#[]⟩:ByteArray):ByteArray).toList))) s.1 s.2
noncomputable def j205_2 (d:Nat) (n1:Int) (b2:Bool):Option (ByteArray×Bool) :=
 oif b2 (
 some ((⟨#[]⟩:ByteArray),false)) (
 Qa (l205_0 d (j205_0 d)) Qf (n1,(⟨#[]⟩:ByteArray)))
theorem e205 (d:Nat) (n1:Int):g205 (d+1) n1 =
 oif (decide (n1 < 0)) (
 j205_2 d n1 true) (
 j205_2 d n1 (decide (n1 > 4294967295))):=by kernel_rfl
theorem e194 (d:Nat) (n1:Int):g194 (d+1) n1 =
 oif (decide (n1 < 0)) (
 some ((⟨#[]⟩:ByteArray),false)) (
 oif (decide (n1 > 65535)) (
 some ((⟨#[]⟩:ByteArray),false)) (
 Q1 (g205 d n1) fun r2 =>
 some (r2.1,r2.2))):=by kernel_rfl
theorem e195 (d:Nat):g195 (d+1) =
 some [(⟨#[115,111,117,114,99,101]⟩:ByteArray),(⟨#[100,101,115,116]⟩:ByteArray),(⟨#[112,111,114,116]⟩:ByteArray),(⟨#[109,97,114,107]⟩:ByteArray)]:=by kernel_rfl
theorem e183 (d:Nat) (x1:t4):g183 (d+1) x1 =
 Q1 (g194 d x1.2.2.2.1) fun r2 =>
 Q1 (g194 d x1.2.2.1) fun r3 =>
 Q1 (g179 d x1.1) fun r4 =>
 oif (Nat.ble (((⟨#[102,105,108,116,101,114,32]⟩:ByteArray):ByteArray).size+r4.size) 9223372036854775807) (
 oif (Nat.ble (((((⟨#[102,105,108,116,101,114,32]⟩:ByteArray):ByteArray)++r4):ByteArray).size+((⟨#[32]⟩:ByteArray):ByteArray).size) 9223372036854775807) (
 Q1 (g195 d) fun r5 =>
 oif (decide (0≤x1.2.1)) (
 oif (Nat.blt (x1.2.1.toNat) r5.length) (
 Q1 (r5[x1.2.1.toNat]?) fun s6 =>
 oif (Nat.ble (((((((⟨#[102,105,108,116,101,114,32]⟩:ByteArray):ByteArray)++r4):ByteArray)++((⟨#[32]⟩:ByteArray):ByteArray)):ByteArray).size+s6.size) 9223372036854775807) (
 oif (Nat.ble (((((((((⟨#[102,105,108,116,101,114,32]⟩:ByteArray):ByteArray)++r4):ByteArray)++((⟨#[32]⟩:ByteArray):ByteArray)):ByteArray)++s6):ByteArray).size+((⟨#[32]⟩:ByteArray):ByteArray).size) 9223372036854775807) (
 oif (Nat.ble (((((((((((⟨#[102,105,108,116,101,114,32]⟩:ByteArray):ByteArray)++r4):ByteArray)++((⟨#[32]⟩:ByteArray):ByteArray)):ByteArray)++s6):ByteArray)++((⟨#[32]⟩:ByteArray):ByteArray)):ByteArray).size+r2.1.size) 9223372036854775807) (
 oif (Nat.ble (((((((((((((⟨#[102,105,108,116,101,114,32]⟩:ByteArray):ByteArray)++r4):ByteArray)++((⟨#[32]⟩:ByteArray):ByteArray)):ByteArray)++s6):ByteArray)++((⟨#[32]⟩:ByteArray):ByteArray)):ByteArray)++r2.1):ByteArray).size+((⟨#[32,47,32]⟩:ByteArray):ByteArray).size) 9223372036854775807) (
 oif (Nat.ble (((((((((((((((⟨#[102,105,108,116,101,114,32]⟩:ByteArray):ByteArray)++r4):ByteArray)++((⟨#[32]⟩:ByteArray):ByteArray)):ByteArray)++s6):ByteArray)++((⟨#[32]⟩:ByteArray):ByteArray)):ByteArray)++r2.1):ByteArray)++((⟨#[32,47,32]⟩:ByteArray):ByteArray)):ByteArray).size+r3.1.size) 9223372036854775807) (
 oif (Nat.ble (((((((((((((((((⟨#[102,105,108,116,101,114,32]⟩:ByteArray):ByteArray)++r4):ByteArray)++((⟨#[32]⟩:ByteArray):ByteArray)):ByteArray)++s6):ByteArray)++((⟨#[32]⟩:ByteArray):ByteArray)):ByteArray)++r2.1):ByteArray)++((⟨#[32,47,32]⟩:ByteArray):ByteArray)):ByteArray)++r3.1):ByteArray).size+((⟨#[32,45,62,32]⟩:ByteArray):ByteArray).size) 9223372036854775807) (
 Q1 (g179 d x1.2.2.2.2) fun r7 =>
 oif (Nat.ble (((((((((((((((((((⟨#[102,105,108,116,101,114,32]⟩:ByteArray):ByteArray)++r4):ByteArray)++((⟨#[32]⟩:ByteArray):ByteArray)):ByteArray)++s6):ByteArray)++((⟨#[32]⟩:ByteArray):ByteArray)):ByteArray)++r2.1):ByteArray)++((⟨#[32,47,32]⟩:ByteArray):ByteArray)):ByteArray)++r3.1):ByteArray)++((⟨#[32,45,62,32]⟩:ByteArray):ByteArray)):ByteArray).size+r7.size) 9223372036854775807) (
 oif (Nat.ble (((((((((((((((((((((⟨#[102,105,108,116,101,114,32]⟩:ByteArray):ByteArray)++r4):ByteArray)++((⟨#[32]⟩:ByteArray):ByteArray)):ByteArray)++s6):ByteArray)++((⟨#[32]⟩:ByteArray):ByteArray)):ByteArray)++r2.1):ByteArray)++((⟨#[32,47,32]⟩:ByteArray):ByteArray)):ByteArray)++r3.1):ByteArray)++((⟨#[32,45,62,32]⟩:ByteArray):ByteArray)):ByteArray)++r7):ByteArray).size+((⟨#[59]⟩:ByteArray):ByteArray).size) 9223372036854775807) (
 some (((((((((((((((((((((⟨#[102,105,108,116,101,114,32]⟩:ByteArray):ByteArray)++r4):ByteArray)++((⟨#[32]⟩:ByteArray):ByteArray)):ByteArray)++s6):ByteArray)++((⟨#[32]⟩:ByteArray):ByteArray)):ByteArray)++r2.1):ByteArray)++((⟨#[32,47,32]⟩:ByteArray):ByteArray)):ByteArray)++r3.1):ByteArray)++((⟨#[32,45,62,32]⟩:ByteArray):ByteArray)):ByteArray)++r7):ByteArray)++((⟨#[59]⟩:ByteArray):ByteArray))) none) none) none) none) none) none) none) none) none) none) none) none:=by kernel_rfl
noncomputable def j122_0 (d:Nat) (x1:t2) (l20:List t8) (s39:ByteArray) (n40:Int) (l41:List t1) (l42:List Int) (l43:List Int) (l44:List Int) (l45:List Int) (l46:List t4) (l47:List Int):Option t0 :=
 oif (x1.2.2.2 != 0) (
 some (s39,l41,l42,l43,l44,l45,l46,l47,((Q0s l20 x1.2.2.2).getD 0))) (
 some (s39,l41,l42,l43,l44,l45,l46,l47,n40))
noncomputable def l122_3 (d:Nat) (x1:t2) (l20:List t8) (kx122_3_0:ByteArray→Int→(List t1)→(List Int)→(List Int)→(List Int)→(List Int)→(List t4)→(List Int)→Option t0) (ag38:(Int×t0)→Option t0) (s:(Int×t0)):Option t0 :=
(fun n39 (x40:t0) =>
 oif (decide (n39 < (x1.2.2.1.length:Int))) (
 oif (decide (0≤n39)) (
 Q1 (x1.2.2.1[n39.toNat]?) fun x41 =>
 oif (Nat.ble ((x40.2.2.2.2.2.2.2.1.length+[((Q0s l20 x41.2.2.2.2).getD 0)].length)*8) Q7) (
 ag38 ((i64.wrap (n39+1)),(x40.1,x40.2.1,x40.2.2.1,x40.2.2.2.1,x40.2.2.2.2.1,x40.2.2.2.2.2.1,x40.2.2.2.2.2.2.1,(x40.2.2.2.2.2.2.2.1++[((Q0s l20 x41.2.2.2.2).getD 0)]),x40.2.2.2.2.2.2.2.2))) none) none) (
 kx122_3_0 x40.1 x40.2.2.2.2.2.2.2.2 x40.2.1 x40.2.2.1 x40.2.2.2.1 x40.2.2.2.2.1 x40.2.2.2.2.2.1 x40.2.2.2.2.2.2.1 x40.2.2.2.2.2.2.2.1)) s.1 s.2
noncomputable def j122_1 (d:Nat) (x1:t2) (s18:ByteArray) (n19:Int) (l20:List t8) (l21:List t1) (l26:List t4) (l27:List Int) (l33:List Int) (l34:List Int) (l35:List Int) (l37:List Int):Option t0 :=
 Qa (l122_3 d x1 l20 (j122_0 d x1 l20)) Qf (0,(s18,l21,l35,l33,l34,l37,l26,l27,n19))
noncomputable def l122_2 (d:Nat) (l32:List Int) (kx122_2_0:(List Int)→Option t0) (ag36:t13→Option t0) (s:t13):Option t0 :=
(fun n37 (l38:List Int) =>
 oif (decide (n37≥0)) (
 oif (decide (0≤n37)) (
 oif (Nat.blt (n37.toNat) l38.length) (
 Q1 (l38[n37.toNat]?) fun n39 =>
 oif (decide (0≤n37)) (
 oif (Nat.blt (n37.toNat) l32.length) (
 Q1 (l32[n37.toNat]?) fun n40 =>
 oif (decide (n40≥0)) (
 oif (decide (0≤n37)) (
 oif (Nat.blt (n37.toNat) l32.length) (
 Q1 (l32[n37.toNat]?) fun n41 =>
 oif (decide (0≤n41)) (
 oif (Nat.blt (n41.toNat) ((l38.set (n37.toNat) (i64.wrap (n37+1))).length)) (
 Q1 ((l38.set (n37.toNat) (i64.wrap (n37+1)))[n41.toNat]?) fun n42 =>
 oif (decide (0≤n37)) (
 oif (Nat.blt (n37.toNat) ((l38.set (n37.toNat) (i64.wrap (n37+1))).length)) (
 Q1 ((l38.set (n37.toNat) (i64.wrap (n37+1)))[n37.toNat]?) fun n43 =>
 ag36 ((i64.wrap (n37 - 1)),((l38.set (n37.toNat) (i64.wrap (n37+1))).set (n37.toNat) n42))) none) none) none) none) none) none) (
 ag36 ((i64.wrap (n37 - 1)),(l38.set (n37.toNat) (i64.wrap (n37+1)))))) none) none) none) none) (
 kx122_2_0 l38)) s.1 s.2
noncomputable def j122_2 (d:Nat) (x1:t2) (s18:ByteArray) (n19:Int) (l20:List t8) (l21:List t1) (l26:List t4) (l27:List Int) (l32:List Int) (l33:List Int) (l34:List Int) (l35:List Int):Option t0 :=
 Qa (l122_2 d l32 (j122_1 d x1 s18 n19 l20 l21 l26 l27 l33 l34 l35)) Qf ((i64.wrap ((l21.length:Int) - 1)),(List.replicate ((l21.length:Int).toNat) (0:Int)))
noncomputable def j122_3 (d:Nat) (l20:List t8) (ag31:(Int×(List Int)×(List Int)×(List Int)×(List Int))→Option t0) (n32:Int) (l35:List Int) (l36:List Int) (x37:t1) (b41:Bool) (l42:List Int) (l43:List Int):Option t0 :=
 oif (decide (0≤(((Q0s l20 x37.2.1).getD 0):Int))) (
 oif (Nat.blt ((((Q0s l20 x37.2.1).getD 0):Int).toNat) l36.length) (
 Q1 (l36[(((Q0s l20 x37.2.1).getD 0):Int).toNat]?) fun n44 =>
 ag31 ((i64.wrap (n32+1)),l42,l43,(l35.set (n32.toNat) ((Q0s l20 x37.2.1).getD 0)),(l36.set ((((Q0s l20 x37.2.1).getD 0):Int).toNat) n32))) none) none
noncomputable def l122_1 (d:Nat) (l20:List t8) (l21:List t1) (kx122_1_0:(List Int)→(List Int)→(List Int)→(List Int)→Option t0) (ag31:(Int×(List Int)×(List Int)×(List Int)×(List Int))→Option t0) (s:(Int×(List Int)×(List Int)×(List Int)×(List Int))):Option t0 :=
(fun n32 (l33:List Int) (l34:List Int) (l35:List Int) (l36:List Int) =>
 oif (decide (n32 < (l21.length:Int))) (
 oif (decide (0≤n32)) (
 oif (Nat.blt (n32.toNat) l21.length) (
 Q1 (l21[n32.toNat]?) fun x37 =>
 oif (!((Q0s l20 x37.2.1).isSome)) (
 oif (decide (0≤n32)) (
 oif (Nat.blt (n32.toNat) l35.length) (
 Q1 (l35[n32.toNat]?) fun n38 =>
 ag31 ((i64.wrap (n32+1)),l33,l34,(l35.set (n32.toNat) (-1)),l36)) none) none) (
 oif (decide (0≤n32)) (
 oif (Nat.blt (n32.toNat) l35.length) (
 Q1 (l35[n32.toNat]?) fun n39 =>
 oif (decide (0≤(((Q0s l20 x37.2.1).getD 0):Int))) (
 oif (Nat.blt ((((Q0s l20 x37.2.1).getD 0):Int).toNat) l36.length) (
 Q1 (l36[(((Q0s l20 x37.2.1).getD 0):Int).toNat]?) fun n40 =>
 oif (decide (n40 < 0)) (
 oif (decide (0≤(((Q0s l20 x37.2.1).getD 0):Int))) (
 oif (Nat.blt ((((Q0s l20 x37.2.1).getD 0):Int).toNat) l33.length) (
 Q1 (l33[(((Q0s l20 x37.2.1).getD 0):Int).toNat]?) fun n41 =>
 j122_3 d l20 ag31 n32 l35 l36 x37 true (l33.set ((((Q0s l20 x37.2.1).getD 0):Int).toNat) n32) l34) none) none) (
 oif (decide (0≤(((Q0s l20 x37.2.1).getD 0):Int))) (
 oif (Nat.blt ((((Q0s l20 x37.2.1).getD 0):Int).toNat) l36.length) (
 Q1 (l36[(((Q0s l20 x37.2.1).getD 0):Int).toNat]?) fun n42 =>
 oif (decide (0≤n42)) (
 oif (Nat.blt (n42.toNat) l34.length) (
 Q1 (l34[n42.toNat]?) fun n43 =>
 j122_3 d l20 ag31 n32 l35 l36 x37 false l33 (l34.set (n42.toNat) n32)) none) none) none) none)) none) none) none) none)) none) none) (
 kx122_1_0 l36 l33 l34 l35)) s.1 s.2.1 s.2.2.1 s.2.2.2.1 s.2.2.2.2
noncomputable def j122_4 (d:Nat) (x1:t2) (s18:ByteArray) (n19:Int) (l20:List t8) (l21:List t1) (l22:List Int) (l23:List Int) (l24:List Int) (l25:List Int) (l26:List t4) (l27:List Int):Option t0 :=
 Q1 (g161 (d+1) [(-1)] (l21.length:Int)) fun r28 =>
 Q1 (g161 (d+1) [(-1)] (l21.length:Int)) fun r29 =>
 oif (decide (0≤(l21.length:Int))) (
 oif (decide (0≤(l21.length:Int))) (
 oif (Nat.ble ((l21.length:Int).toNat) ((l21.length:Int).toNat)&&Nat.ble (((l21.length:Int).toNat)*8) Q7) (
 oif (decide (0≤(l21.length:Int))) (
 oif (decide (0≤(l21.length:Int))) (
 oif (Nat.ble ((l21.length:Int).toNat) ((l21.length:Int).toNat)&&Nat.ble (((l21.length:Int).toNat)*8) Q7) (
 Q1 (g161 (d+1) [(-1)] (l21.length:Int)) fun r30 =>
 Qa (l122_1 d l20 l21 (j122_2 d x1 s18 n19 l20 l21 l26 l27)) Qf (0,r28,r29,(List.replicate ((l21.length:Int).toNat) (0:Int)),r30)) none) none) none) none) none) none
noncomputable def l122_0 (d:Nat) (x1:t2) (r16:t6) (kx122_0_0:ByteArray→Int→(List t8)→(List t1)→(List Int)→(List Int)→(List Int)→(List Int)→(List t4)→(List Int)→Option t0) (ag17:(Int×t0×(List (List (List t8))))→Option t0) (s:(Int×t0×(List (List (List t8))))):Option t0 :=
(fun n18 (x19:t0) (l20:List (List (List t8))) =>
 oif (decide (n18 < (r16.2.2.1.length:Int))) (
 oif (decide (0≤n18)) (
 oif (Nat.blt (n18.toNat) r16.2.2.1.length) (
 Q1 (r16.2.2.1[n18.toNat]?) fun n21 =>
 oif (decide (0≤n21)) (
 Q1 (x1.2.1[n21.toNat]?) fun x22 =>
 oif (Nat.ble ((x19.2.1.length+[x22].length)*64) Q7) (
 oif (decide (0≤n21)) (
 Q1 (x1.2.1[n21.toNat]?) fun x23 =>
 ag17 ((i64.wrap (n18+1)),(x19.1,(x19.2.1++[x22]),x19.2.2),([[(Q8t (Qz1 l20) x23.1 n18)]]:List (List (List t8))))) none) none) none) none) none) (
 kx122_0_0 x19.1 x19.2.2.2.2.2.2.2.2 (Qz1 l20) x19.2.1 x19.2.2.1 x19.2.2.2.1 x19.2.2.2.2.1 x19.2.2.2.2.2.1 x19.2.2.2.2.2.2.1 x19.2.2.2.2.2.2.2.1)) s.1 s.2.1 s.2.2
noncomputable def j122i160_0 (d:Nat) (x1:t2) (r2:List t4) (s8:ByteArray) (l9:List t1) (l10:List t4) (n11:Int) (l12:List ByteArray) (l13:List Int) (l14:List Int) (l15:List Int):Option t0 :=
 Q1 (g180 d ((s8,l9,l10,n11),l12,l13,l14,l15) 0 (⟨#[125]⟩:ByteArray)) fun r16 =>
 Qa (l122_0 d x1 r16 (j122_4 d x1)) Qf (0,(x1.1,[],[],[],[],[],r2,[],(-1)),([[([]:List t8)]]:List (List (List t8))))
noncomputable def l122i160_0 (d:Nat) (x1:t2) (kx122i160_0_0:ByteArray→(List t1)→(List t4)→Int→(List ByteArray)→(List Int)→(List Int)→(List Int)→Option t0) (ag7:(Int×t6)→Option t0) (s:(Int×t6)):Option t0 :=
(fun n8 (x9:t6) =>
 oif (decide (n8 < (x1.2.2.1.length:Int))) (
 oif (decide (0≤n8)) (
 Q1 (x1.2.2.1[n8.toNat]?) fun x10 =>
 Q1 (g183 d x10) fun r11 =>
 Q1 (g180 d x9 1 r11) fun r12 =>
 ag7 ((i64.wrap (n8+1)),r12)) none) (
 kx122i160_0_0 x9.1.1 x9.1.2.1 x9.1.2.2.1 x9.1.2.2.2 x9.2.1 x9.2.2.1 x9.2.2.2.1 x9.2.2.2.2)) s.1 s.2
noncomputable def j122i160_1 (d:Nat) (x1:t2) (r2:List t4) (s3:ByteArray):Option t0 :=
 oif (Nat.ble (s3.size+((⟨#[32,123]⟩:ByteArray):ByteArray).size) 9223372036854775807) (
 Q1 (g180 d (x1,[],[],(List.replicate ((x1.2.1.length:Int).toNat) (0:Int)),(List.replicate ((x1.2.1.length:Int).toNat) (0:Int))) 0 (s3++((⟨#[32,123]⟩:ByteArray):ByteArray))) fun r4 =>
 Q1 (g182 d x1) fun r5 =>
 Q1 (g181 d r4 r5 1) fun r6 =>
 Qa (l122i160_0 d x1 (j122i160_0 d x1 r2)) Qf (0,r6)) none
theorem e122 (d:Nat) (x1:t2):g122 (d+2) x1 =
 Q1 (g96 (d+1) x1.2.2.1) fun r2 =>
 oif (decide (0≤(x1.2.1.length:Int))) (
 oif (decide (0≤(x1.2.1.length:Int))) (
 oif (Nat.ble ((x1.2.1.length:Int).toNat) ((x1.2.1.length:Int).toNat)&&Nat.ble (((x1.2.1.length:Int).toNat)*8) Q7) (
 oif (decide (0≤(x1.2.1.length:Int))) (
 oif (decide (0≤(x1.2.1.length:Int))) (
 oif (Nat.ble ((x1.2.1.length:Int).toNat) ((x1.2.1.length:Int).toNat)&&Nat.ble (((x1.2.1.length:Int).toNat)*8) Q7) (
 oif (Nat.ble (((⟨#[113,100,105,115,99,32]⟩:ByteArray):ByteArray).size+x1.1.size) 9223372036854775807) (
 oif (x1.2.2.2 != 0) (
 Q1 (g179 d x1.2.2.2) fun r3 =>
 oif (Nat.ble (((⟨#[32,100,101,102,97,117,108,116,32]⟩:ByteArray):ByteArray).size+r3.size) 9223372036854775807) (
 oif (Nat.ble (((((⟨#[113,100,105,115,99,32]⟩:ByteArray):ByteArray)++x1.1):ByteArray).size+((((⟨#[32,100,101,102,97,117,108,116,32]⟩:ByteArray):ByteArray)++r3):ByteArray).size) 9223372036854775807) (
 j122i160_1 d x1 r2 (((((⟨#[113,100,105,115,99,32]⟩:ByteArray):ByteArray)++x1.1):ByteArray)++((((⟨#[32,100,101,102,97,117,108,116,32]⟩:ByteArray):ByteArray)++r3):ByteArray))) none) none) (
 j122i160_1 d x1 r2 (((⟨#[113,100,105,115,99,32]⟩:ByteArray):ByteArray)++x1.1))) none) none) none) none) none) none) none:=by kernel_rfl
noncomputable def j123_0 (d:Nat) (b4:Bool):Option Bool :=
 some true
noncomputable def l123_0 (d:Nat) (l1:List t1) (l2:List t1) (kx123_0_0:Bool→Option Bool) (ag3:t7→Option Bool) (s:t7):Option Bool :=
(fun (b4:Bool) n5 =>
 oif (decide (n5 < (l1.length:Int))) (
 oif (decide (0≤n5)) (
 Q1 (l1[n5.toNat]?) fun x6 =>
 oif (decide (0≤n5)) (
 Q1 (l2[n5.toNat]?) fun x7 =>
 oif (!((x6.1==x7.1)&&((x6.2.1==x7.2.1)&&((x6.2.2.1==x7.2.2.1)&&((x6.2.2.2.1==x7.2.2.2.1)&&((x6.2.2.2.2.1==x7.2.2.2.2.1)&&((x6.2.2.2.2.2.1==x7.2.2.2.2.2.1)&&((x6.2.2.2.2.2.2.1==x7.2.2.2.2.2.2.1)&&((x6.2.2.2.2.2.2.2==x7.2.2.2.2.2.2.2)&&true))))))))) (
 some false) (
 ag3 (b4,(i64.wrap (n5+1))))) none) none) (
 kx123_0_0 b4)) s.1 s.2
theorem e123 (d:Nat) (l1:List t1) (l2:List t1):g123 (d+1) l1 l2 =
 oif ((l1.length:Int) != (l2.length:Int)) (
 some false) (
 Qa (l123_0 d l1 l2 (j123_0 d)) Qf (false,0)):=by kernel_rfl
noncomputable def j124_0 (d:Nat) (b4:Bool):Option Bool :=
 some true
noncomputable def l124_0 (d:Nat) (l1:List Int) (l2:List Int) (kx124_0_0:Bool→Option Bool) (ag3:t7→Option Bool) (s:t7):Option Bool :=
(fun (b4:Bool) n5 =>
 oif (decide (n5 < (l1.length:Int))) (
 oif (decide (0≤n5)) (
 Q1 (l1[n5.toNat]?) fun n6 =>
 oif (decide (0≤n5)) (
 Q1 (l2[n5.toNat]?) fun n7 =>
 oif (n6 != n7) (
 some false) (
 ag3 (b4,(i64.wrap (n5+1))))) none) none) (
 kx124_0_0 b4)) s.1 s.2
theorem e124 (d:Nat) (l1:List Int) (l2:List Int):g124 (d+1) l1 l2 =
 oif ((l1.length:Int) != (l2.length:Int)) (
 some false) (
 Qa (l124_0 d l1 l2 (j124_0 d)) Qf (false,0)):=by kernel_rfl
noncomputable def j80_0 (d:Nat) (x1:t0) (b2:Bool):Option Bool :=
 oif b2 (
 some false) (
 Q1 (g51 d x1) fun r3 =>
 Q1 (g50 d r3) fun r4 =>
 oif (!r4) (
 some false) (
 Q1 (g122 d r3) fun r5 =>
 Q1 (g123 d x1.2.1 r5.2.1) fun r6 =>
 oif r6 (
 Q1 (g124 d x1.2.2.1 r5.2.2.1) fun r7 =>
 oif r7 (
 Q1 (g124 d x1.2.2.2.1 r5.2.2.2.1) fun r8 =>
 oif r8 (
 Q1 (g124 d x1.2.2.2.2.1 r5.2.2.2.2.1) fun r9 =>
 oif r9 (
 Q1 (g124 d x1.2.2.2.2.2.1 r5.2.2.2.2.2.1) fun r10 =>
 oif r10 (
 Q1 (g124 d x1.2.2.2.2.2.2.2.1 r5.2.2.2.2.2.2.2.1) fun r11 =>
 oif r11 (
 some (x1.2.2.2.2.2.2.2.2==r5.2.2.2.2.2.2.2.2)) (
 some false)) (
 some false)) (
 some false)) (
 some false)) (
 some false)) (
 some false)))
theorem e80 (d:Nat) (x1:t0):g80 (d+1) x1 =
 oif (decide ((x1.2.1.length:Int) > 24)) (
 j80_0 d x1 true) (
 j80_0 d x1 (decide ((x1.2.2.2.2.2.2.1.length:Int) > 16))):=by kernel_rfl
noncomputable def j81_0 (d:Nat) (b5:Bool):Option Bool :=
 some true
noncomputable def j81_1 (d:Nat) (ag4:t7→Option Bool) (b5:Bool) (n6:Int) (n8:Int) (n9:Int) (b10:Bool) (b11:Bool) (b12:Bool) (b13:Bool) (b14:Bool) (b15:Bool) (b16:Bool):Option Bool :=
 oif b16 (
 some false) (
 ag4 (b5,(i64.wrap (n6+1))))
noncomputable def l81_0 (d:Nat) (x1:t0) (x2:t9) (kx81_0_0:Bool→Option Bool) (ag4:t7→Option Bool) (s:t7):Option Bool :=
(fun (b5:Bool) n6 =>
 oif (decide (n6 < (x1.2.1.length:Int))) (
 oif (decide (0≤n6)) (
 Q1 (x1.2.1[n6.toNat]?) fun x7 =>
 oif (decide (0≤n6)) (
 Q1 (x2.1[n6.toNat]?) fun n8 =>
 oif (decide (n8 < 0)) (
 j81_1 d ag4 b5 n6 n8 n8 (decide (n8 < 0)) true true true true true true) (
 oif (decide (0≤n6)) (
 Q1 (x2.1[n6.toNat]?) fun n9 =>
 oif (decide (n9 > x7.2.2.2.2.1)) (
 j81_1 d ag4 b5 n6 n8 n8 (decide (n8 < 0)) false (decide (n9 > x7.2.2.2.2.1)) true true true true) (
 oif (decide (0≤n6)) (
 Q1 (x2.2[n6.toNat]?) fun n10 =>
 oif (decide (n10 < 0)) (
 j81_1 d ag4 b5 n6 n8 n8 (decide (n8 < 0)) false (decide (n9 > x7.2.2.2.2.1)) false (decide (n10 < 0)) true true) (
 oif (decide (0≤n6)) (
 Q1 (x2.2[n6.toNat]?) fun n11 =>
 j81_1 d ag4 b5 n6 n8 n8 (decide (n8 < 0)) false (decide (n9 > x7.2.2.2.2.1)) false (decide (n10 < 0)) false (decide (n11 > x7.2.2.2.2.2.1))) none)) none)) none)) none) none) (
 kx81_0_0 b5)) s.1 s.2
noncomputable def j81_2 (d:Nat) (x1:t0) (x2:t9) (b3:Bool):Option Bool :=
 oif b3 (
 some false) (
 Qa (l81_0 d x1 x2 (j81_0 d)) Qf (false,0))
theorem e81 (d:Nat) (x1:t0) (x2:t9):g81 (d+1) x1 x2 =
 oif ((x2.1.length:Int) != (x1.2.1.length:Int)) (
 j81_2 d x1 x2 true) (
 j81_2 d x1 x2 ((x2.2.length:Int) != (x1.2.1.length:Int))):=by kernel_rfl
noncomputable def j82_0 (d:Nat) (l3:List Int):Option (List Int) :=
 some l3
noncomputable def l82_0 (d:Nat) (x1:t0) (kx82_0_0:(List Int)→Option (List Int)) (ag2:t11→Option (List Int)) (s:t11):Option (List Int) :=
(fun (l3:List Int) n4 =>
 oif (decide (n4 < (x1.2.1.length:Int))) (
 oif (decide (0≤n4)) (
 Q1 (x1.2.2.2.1[n4.toNat]?) fun n5 =>
 oif (decide (n5 < 0)) (
 oif (Nat.ble ((l3.length+[n4].length)*8) Q7) (
 ag2 ((l3++[n4]),(i64.wrap (n4+1)))) none) (
 ag2 (l3,(i64.wrap (n4+1))))) none) (
 kx82_0_0 l3)) s.1 s.2
theorem e82 (d:Nat) (x1:t0):g82 (d+1) x1 =
 Qa (l82_0 d x1 (j82_0 d)) Qf (([]:List Int),0):=by kernel_rfl
theorem e162 (d:Nat) (x1:t4) (x2:t3):g162 (d+1) x1 x2 =
 Q1 (g109 d x2) fun r3 =>
 oif (decide (0≤x1.2.1)) (
 Q1 (([r3.1,r3.2.1,r3.2.2.1,r3.2.2.2]:List Int)[x1.2.1.toNat]?) fun n4 =>
 some (((i64.wrap ((BitVec.ofInt i64.bits n4 &&& BitVec.ofInt i64.bits x1.2.2.1).toNat:Int)):Int)==x1.2.2.2.1)) none:=by kernel_rfl
noncomputable def j125_0 (d:Nat) (n4:Int):Option Int :=
 some (-1)
noncomputable def l125_0 (d:Nat) (l1:List t4) (x2:t3) (kx125_0_0:Int→Option Int) (ag3:t8→Option Int) (s:t8):Option Int :=
(fun n4 n5 =>
 oif (decide (n5 < (l1.length:Int))) (
 oif (decide (0≤n5)) (
 Q1 (l1[n5.toNat]?) fun x6 =>
 Q1 (g162 d x6 x2) fun r7 =>
 oif r7 (
 some n5) (
 ag3 (n4,(i64.wrap (n5+1))))) none) (
 kx125_0_0 n4)) s.1 s.2
theorem e125 (d:Nat) (l1:List t4) (x2:t3):g125 (d+1) l1 x2 =
 Qa (l125_0 d l1 x2 (j125_0 d)) Qf (0,0):=by kernel_rfl
theorem e83 (d:Nat) (x1:t0) (x2:t3):g83 (d+1) x1 x2 =
 Q1 (g125 d x1.2.2.2.2.2.2.1 x2) fun r3 =>
 oif (decide (r3≥0)) (
 oif (decide (0≤r3)) (
 Q1 (x1.2.2.2.2.2.2.2.1[r3.toNat]?) fun n4 =>
 some n4) none) (
 some x1.2.2.2.2.2.2.2.2):=by kernel_rfl
noncomputable def j112i155i176_0 (d:Nat) (n4:Int):Option Bool :=
 some (decide (((-1):Int)≥0))
noncomputable def l112i155i176_0 (d:Nat) (l1:List t3) (n2:Int) (kx112i155i176_0_0:Int→Option Bool) (ag3:t8→Option Bool) (s:t8):Option Bool :=
(fun n4 n5 =>
 oif (decide (n5 < (l1.length:Int))) (
 oif (decide (0≤n5)) (
 Q1 (l1[n5.toNat]?) fun x6 =>
 oif (x6.1==n2) (
 some (decide (n5≥0))) (
 ag3 (n4,(i64.wrap (n5+1))))) none) (
 kx112i155i176_0_0 n4)) s.1 s.2
theorem e112 (d:Nat) (l1:List t3) (n2:Int):g112 (d+4) l1 n2 =
 Qa (l112i155i176_0 d l1 n2 (j112i155i176_0 d)) Qf (0,0):=by kernel_rfl
noncomputable def j84_0 (d:Nat) (b3:Bool):Option Bool :=
 some true
noncomputable def l84_0 (d:Nat) (l1:List t3) (kx84_0_0:Bool→Option Bool) (ag2:t7→Option Bool) (s:t7):Option Bool :=
(fun (b3:Bool) n4 =>
 oif (decide (n4 < (l1.length:Int))) (
 oif (decide (0≤n4)) (
 Q1 (l1[n4.toNat]?) fun x5 =>
 Q1 (g64 d x5) fun r6 =>
 oif (!r6) (
 some false) (
 oif (decide (0≤n4)) (
 oif (Nat.ble (n4.toNat) l1.length) (
 Q1 (g112 d (l1.take (n4.toNat)) x5.1) fun r7 =>
 oif r7 (
 some false) (
 ag2 (b3,(i64.wrap (n4+1))))) none) none)) none) (
 kx84_0_0 b3)) s.1 s.2
theorem e84 (d:Nat) (l1:List t3):g84 (d+1) l1 =
 Qa (l84_0 d l1 (j84_0 d)) Qf (false,0):=by kernel_rfl
noncomputable def j85_0 (d:Nat) (l5:List t3):Option (List t3) :=
 some l5
noncomputable def l85_1 (d:Nat) (l1:List (List t3)) (kx85_1_0:(List t3)→Option (List t3)) (ag4:((List t3)×Int)→Option (List t3)) (s:((List t3)×Int)):Option (List t3) :=
(fun (l5:List t3) n6 =>
 oif (decide (n6 < (l1.length:Int))) (
 oif (decide (0≤n6)) (
 Q1 (l1[n6.toNat]?) fun l7 =>
 oif (Nat.ble ((l5.length+l7.length)*48) Q7) (
 ag4 ((l5++l7),(i64.wrap (n6+1)))) none) none) (
 kx85_1_0 l5)) s.1 s.2
noncomputable def j85_1 (d:Nat) (l9:List t3):Option (List t3) :=
 some l9
noncomputable def l85_1x (d:Nat) (l1:List (List t3)) (kx85_1_0:(List t3)→Option (List t3)) (ag8:((List t3)×Int)→Option (List t3)) (s:((List t3)×Int)):Option (List t3) :=
(fun (l9:List t3) n10 =>
 oif (decide (n10 < (l1.length:Int))) (
 oif (decide (0≤n10)) (
 Q1 (l1[n10.toNat]?) fun l11 =>
 oif (Nat.ble ((l9.length+l11.length)*48) Q7) (
 ag8 ((l9++l11),(i64.wrap (n10+1)))) none) none) (
 kx85_1_0 l9)) s.1 s.2
noncomputable def j85_2 (d:Nat) (l1:List (List t3)) (n3:Int):Option (List t3) :=
 oif (decide (n3 < 0)) (
 none) (
 oif (decide (((i64.wrap (n3 - (i64.wrap ((0:Int) - ((0:Nat):Int))))):Int) > 0)) (
 oif (Nat.ble 0 0) (
 oif (decide (0≤((i64.wrap (n3 - (i64.wrap ((0:Int) - ((0:Nat):Int))))):Int))&&decide (((i64.wrap (n3 - (i64.wrap ((0:Int) - ((0:Nat):Int))))):Int)*((48:Nat):Int)≤(Q7:Int))) (
 oif (Nat.ble ((List.replicate ((i64.wrap (n3 - (i64.wrap ((0:Int) - ((0:Nat):Int))))):Int).toNat ((0,0,0,0,0,0):t3)).length*48) Q7) (
 oif (decide (0≤(((0:Nat):Int):Int))) (
 oif (Nat.ble ((((0:Nat):Int):Int).toNat) ((List.replicate ((i64.wrap (n3 - (i64.wrap ((0:Int) - ((0:Nat):Int))))):Int).toNat ((0,0,0,0,0,0):t3)).length)) (
 Qa (l85_1 d l1 (j85_0 d)) Qf (((List.replicate ((i64.wrap (n3 - (i64.wrap ((0:Int) - ((0:Nat):Int))))):Int).toNat ((0,0,0,0,0,0):t3)).take ((((0:Nat):Int):Int).toNat)),0)) none) none) none) none) none) (
 Qa (l85_1x d l1 (j85_1 d)) Qf ([],0)))
noncomputable def l85_0 (d:Nat) (l1:List (List t3)) (kx85_0_0:Int→Option (List t3)) (ag2:t8→Option (List t3)) (s:t8):Option (List t3) :=
(fun n3 n4 =>
 oif (decide (n4 < (l1.length:Int))) (
 oif (decide (0≤n4)) (
 Q1 (l1[n4.toNat]?) fun l5 =>
 oif (decide (((i64.wrap (n3+(l5.length:Int))):Int) < 0)) (
 none) (
 ag2 ((i64.wrap (n3+(l5.length:Int))),(i64.wrap (n4+1))))) none) (
 kx85_0_0 n3)) s.1 s.2
theorem e85 (d:Nat) (l1:List (List t3)):g85 (d+2) l1 =
 Qa (l85_0 d l1 (j85_2 d l1)) Qf (0,0):=by kernel_rfl
noncomputable def j37_0 (d:Nat) (x1:t5) (b6:Bool):Option Bool :=
 Q1 (g85 d x1.2.2.1) fun r7 =>
 Q1 (g84 d r7) fun r8 =>
 some r8
noncomputable def j37_1 (d:Nat) (ag5:t7→Option Bool) (n7:Int) (b13:Bool) (n14:Int):Option Bool :=
 ag5 (b13,(i64.wrap (n7+1)))
noncomputable def l37_1 (d:Nat) (x1:t5) (n8:Int) (l11:List t3) (kx37_1_0:Bool→Int→Option Bool) (ag12:t7→Option Bool) (s:t7):Option Bool :=
(fun (b13:Bool) n14 =>
 oif (decide (n14 < (l11.length:Int))) (
 oif (decide (0≤n14)) (
 Q1 (l11[n14.toNat]?) fun x15 =>
 Q1 (g64 d x15) fun r16 =>
 oif (!r16) (
 some false) (
 Q1 (g83 d x1.1 x15) fun r17 =>
 oif (r17 != n8) (
 some false) (
 ag12 (b13,(i64.wrap (n14+1)))))) none) (
 kx37_1_0 b13 n14)) s.1 s.2
noncomputable def l37_0 (d:Nat) (x1:t5) (r3:List Int) (kx37_0_0:Bool→Option Bool) (ag5:t7→Option Bool) (s:t7):Option Bool :=
(fun (b6:Bool) n7 =>
 oif (decide (n7 < (r3.length:Int))) (
 oif (decide (0≤n7)) (
 oif (Nat.blt (n7.toNat) r3.length) (
 Q1 (r3[n7.toNat]?) fun n8 =>
 oif (decide (0≤n7)) (
 Q1 (x1.2.2.1[n7.toNat]?) fun l9 =>
 oif (decide (0≤n8)) (
 Q1 (x1.1.2.1[n8.toNat]?) fun x10 =>
 oif (decide ((l9.length:Int) > x10.2.2.2.2.2.2.2)) (
 some false) (
 oif (decide (0≤n7)) (
 Q1 (x1.2.2.1[n7.toNat]?) fun l11 =>
 Qa (l37_1 d x1 n8 l11 (j37_1 d ag5 n7)) Qf (b6,0)) none)) none) none) none) none) (
 kx37_0_0 b6)) s.1 s.2
noncomputable def j37_2 (d:Nat) (x1:t5) (r3:List Int) (b4:Bool):Option Bool :=
 oif b4 (
 some false) (
 Qa (l37_0 d x1 r3 (j37_0 d x1)) Qf (false,0))
noncomputable def j37_3 (d:Nat) (x1:t5) (b2:Bool):Option Bool :=
 oif b2 (
 some false) (
 Q1 (g82 d x1.1) fun r3 =>
 oif ((x1.2.2.1.length:Int) != (r3.length:Int)) (
 j37_2 d x1 r3 true) (
 oif (decide (x1.2.2.2.1 < (-1))) (
 j37_2 d x1 r3 true) (
 oif (decide (x1.2.2.2.1≥(r3.length:Int))) (
 j37_2 d x1 r3 true) (
 oif (decide (x1.2.2.2.2 < 0)) (
 j37_2 d x1 r3 true) (
 j37_2 d x1 r3 (decide (x1.2.2.2.2 > 1000000)))))))
theorem e37 (d:Nat) (x1:t5):g37 (d+1) x1 =
 Q1 (g80 d x1.1) fun r2 =>
 oif (!r2) (
 j37_3 d x1 true) (
 Q1 (g81 d x1.1 x1.2.1) fun r3 =>
 j37_3 d x1 (!r3)):=by kernel_rfl
noncomputable def j10_0 (d:Nat) (l4:List Int):Option t10 :=
 some (l4,true)
noncomputable def l10_0 (d:Nat) (x1:t5) (kx10_0_0:(List Int)→Option t10) (ag3:t11→Option t10) (s:t11):Option t10 :=
(fun (l4:List Int) n5 =>
 oif (decide (n5 < (x1.2.2.1.length:Int))) (
 oif (decide (0≤n5)) (
 Q1 (x1.2.2.1[n5.toNat]?) fun l6 =>
 oif (Nat.ble ((l4.length+[(l6.length:Int)].length)*8) Q7) (
 ag3 ((l4++[(l6.length:Int)]),(i64.wrap (n5+1)))) none) none) (
 kx10_0_0 l4)) s.1 s.2
theorem e10 (d:Nat) (x1:t5):g10 (d+1) x1 =
 Q1 (g37 d x1) fun r2 =>
 oif (!r2) (
 some ([],false)) (
 Qa (l10_0 d x1 (j10_0 d)) Qf (([]:List Int),0)):=by kernel_rfl
noncomputable def j11_0 (d:Nat) (b4:Bool):Option Bool :=
 some true
noncomputable def l11_0 (d:Nat) (l1:List Int) (l2:List Int) (kx11_0_0:Bool→Option Bool) (ag3:t7→Option Bool) (s:t7):Option Bool :=
(fun (b4:Bool) n5 =>
 oif (decide (n5 < (l1.length:Int))) (
 oif (decide (0≤n5)) (
 Q1 (l1[n5.toNat]?) fun n6 =>
 oif (decide (0≤n5)) (
 Q1 (l2[n5.toNat]?) fun n7 =>
 oif (n6 != n7) (
 some false) (
 ag3 (b4,(i64.wrap (n5+1))))) none) none) (
 kx11_0_0 b4)) s.1 s.2
theorem e11 (d:Nat) (l1:List Int) (l2:List Int):g11 (d+1) l1 l2 =
 oif ((l1.length:Int) != (l2.length:Int)) (
 some false) (
 Qa (l11_0 d l1 l2 (j11_0 d)) Qf (false,0)):=by kernel_rfl
theorem e102 (d:Nat) (x1:t1) (x2:t1):g102 (d+1) x1 x2 =
 oif (x1.1 != x2.1) (
 some false) (
 oif (x1.2.1 != x2.2.1) (
 some false) (
 oif (x1.2.2.1 != x2.2.2.1) (
 some false) (
 oif (x1.2.2.2.1 != x2.2.2.2.1) (
 some false) (
 oif (x1.2.2.2.2.1 != x2.2.2.2.2.1) (
 some false) (
 oif (x1.2.2.2.2.2.1 != x2.2.2.2.2.2.1) (
 some false) (
 oif (x1.2.2.2.2.2.2.1 != x2.2.2.2.2.2.2.1) (
 some false) (
 oif (x1.2.2.2.2.2.2.2 != x2.2.2.2.2.2.2.2) (
 some false) (
 some true)))))))):=by kernel_rfl
noncomputable def j53_0 (d:Nat) (b4:Bool):Option Bool :=
 some true
noncomputable def l53_0 (d:Nat) (l1:List t1) (l2:List t1) (kx53_0_0:Bool→Option Bool) (ag3:t7→Option Bool) (s:t7):Option Bool :=
(fun (b4:Bool) n5 =>
 oif (decide (n5 < (l1.length:Int))) (
 oif (decide (0≤n5)) (
 Q1 (l1[n5.toNat]?) fun x6 =>
 oif (decide (0≤n5)) (
 Q1 (l2[n5.toNat]?) fun x7 =>
 Q1 (g102 d x6 x7) fun r8 =>
 oif (!r8) (
 some false) (
 ag3 (b4,(i64.wrap (n5+1))))) none) none) (
 kx53_0_0 b4)) s.1 s.2
theorem e53 (d:Nat) (l1:List t1) (l2:List t1):g53 (d+1) l1 l2 =
 oif ((l1.length:Int) != (l2.length:Int)) (
 some false) (
 Qa (l53_0 d l1 l2 (j53_0 d)) Qf (false,0)):=by kernel_rfl
theorem e103 (d:Nat) (x1:t4) (x2:t4):g103 (d+1) x1 x2 =
 oif (x1.1 != x2.1) (
 some false) (
 oif (x1.2.1 != x2.2.1) (
 some false) (
 oif (x1.2.2.1 != x2.2.2.1) (
 some false) (
 oif (x1.2.2.2.1 != x2.2.2.2.1) (
 some false) (
 oif (x1.2.2.2.2 != x2.2.2.2.2) (
 some false) (
 some true))))):=by kernel_rfl
noncomputable def j54_0 (d:Nat) (b4:Bool):Option Bool :=
 some true
noncomputable def l54_0 (d:Nat) (l1:List t4) (l2:List t4) (kx54_0_0:Bool→Option Bool) (ag3:t7→Option Bool) (s:t7):Option Bool :=
(fun (b4:Bool) n5 =>
 oif (decide (n5 < (l1.length:Int))) (
 oif (decide (0≤n5)) (
 Q1 (l1[n5.toNat]?) fun x6 =>
 oif (decide (0≤n5)) (
 Q1 (l2[n5.toNat]?) fun x7 =>
 Q1 (g103 d x6 x7) fun r8 =>
 oif (!r8) (
 some false) (
 ag3 (b4,(i64.wrap (n5+1))))) none) none) (
 kx54_0_0 b4)) s.1 s.2
theorem e54 (d:Nat) (l1:List t4) (l2:List t4):g54 (d+1) l1 l2 =
 oif ((l1.length:Int) != (l2.length:Int)) (
 some false) (
 Qa (l54_0 d l1 l2 (j54_0 d)) Qf (false,0)):=by kernel_rfl
theorem e38 (d:Nat) (x1:t0) (x2:t0):g38 (d+1) x1 x2 =
 oif (!(x1.1.toList==x2.1.toList)) (
 some false) (
 Q1 (g53 d x1.2.1 x2.2.1) fun r3 =>
 oif (!r3) (
 some false) (
 Q1 (g11 d x1.2.2.1 x2.2.2.1) fun r4 =>
 oif (!r4) (
 some false) (
 Q1 (g11 d x1.2.2.2.1 x2.2.2.2.1) fun r5 =>
 oif (!r5) (
 some false) (
 Q1 (g11 d x1.2.2.2.2.1 x2.2.2.2.2.1) fun r6 =>
 oif (!r6) (
 some false) (
 Q1 (g11 d x1.2.2.2.2.2.1 x2.2.2.2.2.2.1) fun r7 =>
 oif (!r7) (
 some false) (
 Q1 (g54 d x1.2.2.2.2.2.2.1 x2.2.2.2.2.2.2.1) fun r8 =>
 oif (!r8) (
 some false) (
 Q1 (g11 d x1.2.2.2.2.2.2.2.1 x2.2.2.2.2.2.2.2.1) fun r9 =>
 oif (!r9) (
 some false) (
 oif (x1.2.2.2.2.2.2.2.2 != x2.2.2.2.2.2.2.2.2) (
 some false) (
 some true))))))))):=by kernel_rfl
theorem e39 (d:Nat) (x1:t9) (x2:t9):g39 (d+1) x1 x2 =
 Q1 (g11 d x1.1 x2.1) fun r3 =>
 oif (!r3) (
 some false) (
 Q1 (g11 d x1.2 x2.2) fun r4 =>
 oif (!r4) (
 some false) (
 some true)):=by kernel_rfl
theorem e127 (d:Nat) (x1:t3) (x2:t3):g127 (d+1) x1 x2 =
 oif (x1.1 != x2.1) (
 some false) (
 oif (x1.2.1 != x2.2.1) (
 some false) (
 oif (x1.2.2.1 != x2.2.2.1) (
 some false) (
 oif (x1.2.2.2.1 != x2.2.2.2.1) (
 some false) (
 oif (x1.2.2.2.2.1 != x2.2.2.2.2.1) (
 some false) (
 oif (x1.2.2.2.2.2 != x2.2.2.2.2.2) (
 some false) (
 some true)))))):=by kernel_rfl
noncomputable def j86_0 (d:Nat) (b4:Bool):Option Bool :=
 some true
noncomputable def l86_0 (d:Nat) (l1:List t3) (l2:List t3) (kx86_0_0:Bool→Option Bool) (ag3:t7→Option Bool) (s:t7):Option Bool :=
(fun (b4:Bool) n5 =>
 oif (decide (n5 < (l1.length:Int))) (
 oif (decide (0≤n5)) (
 Q1 (l1[n5.toNat]?) fun x6 =>
 oif (decide (0≤n5)) (
 Q1 (l2[n5.toNat]?) fun x7 =>
 Q1 (g127 d x6 x7) fun r8 =>
 oif (!r8) (
 some false) (
 ag3 (b4,(i64.wrap (n5+1))))) none) none) (
 kx86_0_0 b4)) s.1 s.2
theorem e86 (d:Nat) (l1:List t3) (l2:List t3):g86 (d+1) l1 l2 =
 oif ((l1.length:Int) != (l2.length:Int)) (
 some false) (
 Qa (l86_0 d l1 l2 (j86_0 d)) Qf (false,0)):=by kernel_rfl
noncomputable def j40_0 (d:Nat) (b4:Bool):Option Bool :=
 some true
noncomputable def l40_0 (d:Nat) (l1:List (List t3)) (l2:List (List t3)) (kx40_0_0:Bool→Option Bool) (ag3:t7→Option Bool) (s:t7):Option Bool :=
(fun (b4:Bool) n5 =>
 oif (decide (n5 < (l1.length:Int))) (
 oif (decide (0≤n5)) (
 Q1 (l1[n5.toNat]?) fun l6 =>
 oif (decide (0≤n5)) (
 Q1 (l2[n5.toNat]?) fun l7 =>
 Q1 (g86 d l6 l7) fun r8 =>
 oif (!r8) (
 some false) (
 ag3 (b4,(i64.wrap (n5+1))))) none) none) (
 kx40_0_0 b4)) s.1 s.2
theorem e40 (d:Nat) (l1:List (List t3)) (l2:List (List t3)):g40 (d+1) l1 l2 =
 oif ((l1.length:Int) != (l2.length:Int)) (
 some false) (
 Qa (l40_0 d l1 l2 (j40_0 d)) Qf (false,0)):=by kernel_rfl
theorem e12 (d:Nat) (x1:t5) (x2:t5):g12 (d+1) x1 x2 =
 Q1 (g38 d x1.1 x2.1) fun r3 =>
 oif (!r3) (
 some false) (
 Q1 (g39 d x1.2.1 x2.2.1) fun r4 =>
 oif (!r4) (
 some false) (
 Q1 (g40 d x1.2.2.1 x2.2.2.1) fun r5 =>
 oif (!r5) (
 some false) (
 oif (x1.2.2.2.1 != x2.2.2.2.1) (
 some false) (
 oif (x1.2.2.2.2 != x2.2.2.2.2) (
 some false) (
 some true))))):=by kernel_rfl
noncomputable def j14_0 (d:Nat) (n4:Int) (l5:List Int):Option t13 :=
 some (n4,l5)
noncomputable def l14_0 (d:Nat) (kx14_0_0:Int→(List Int)→Option t13) (ag3:(Int×Int×(List Int))→Option t13) (s:(Int×Int×(List Int))):Option t13 :=
(fun n4 n5 (l6:List Int) =>
 oif (decide (n5 < (l6.length:Int))) (
 oif (decide (0≤n5)) (
 oif (Nat.blt (n5.toNat) l6.length) (
 Q1 (l6[n5.toNat]?) fun n7 =>
 ag3 ((i64.wrap (n4+1)),(i64.wrap (n5+1)),(l6.set (n5.toNat) n4))) none) none) (
 kx14_0_0 n4 l6)) s.1 s.2.1 s.2.2
theorem e14 (d:Nat) (l1:List Int) (n2:Int):g14 (d+1) l1 n2 =
 Qa (l14_0 d (j14_0 d)) Qf (n2,0,l1):=by kernel_rfl
noncomputable def j15_0 (d:Nat) (n4:Int) (n5:Int):Option Int :=
 some n4
noncomputable def l15_0 (d:Nat) (l1:List Int) (kx15_0_0:Int→Int→Option Int) (ag3:(Int×Int×Int)→Option Int) (s:(Int×Int×Int)):Option Int :=
(fun n4 n5 n6 =>
 oif (decide (n6 < (l1.length:Int))) (
 oif (decide (0≤n6)) (
 Q1 (l1[n6.toNat]?) fun n7 =>
 oif (n7 != n4) (
 some (-1)) (
 ag3 ((i64.wrap (n4+1)),n5,(i64.wrap (n6+1))))) none) (
 kx15_0_0 n4 n5)) s.1 s.2.1 s.2.2
theorem e15 (d:Nat) (l1:List Int) (n2:Int):g15 (d+1) l1 n2 =
 Qa (l15_0 d l1 (j15_0 d)) Qf (n2,0,0):=by kernel_rfl
noncomputable def j55_0 (d:Nat) (n4:Int) (l5:List t1):Option t12 :=
 some (n4,l5)
noncomputable def l55_0 (d:Nat) (kx55_0_0:Int→(List t1)→Option t12) (ag3:(Int×Int×(List t1))→Option t12) (s:(Int×Int×(List t1))):Option t12 :=
(fun n4 n5 (l6:List t1) =>
 oif (decide (n5 < (l6.length:Int))) (
 oif (decide (0≤n5)) (
 oif (Nat.blt (n5.toNat) l6.length) (
 Q1 (l6[n5.toNat]?) fun x7 =>
 oif (decide (0≤n5)) (
 oif (Nat.blt (n5.toNat) ((l6.set (n5.toNat) (n4,x7.2)).length)) (
 Q1 ((l6.set (n5.toNat) (n4,x7.2))[n5.toNat]?) fun x8 =>
 oif (decide (0≤n5)) (
 oif (Nat.blt (n5.toNat) (((l6.set (n5.toNat) (n4,x7.2)).set (n5.toNat) (x8.1,(i64.wrap (n4+1)),x8.2.2)).length)) (
 Q1 (((l6.set (n5.toNat) (n4,x7.2)).set (n5.toNat) (x8.1,(i64.wrap (n4+1)),x8.2.2))[n5.toNat]?) fun x9 =>
 oif (decide (0≤n5)) (
 oif (Nat.blt (n5.toNat) ((((l6.set (n5.toNat) (n4,x7.2)).set (n5.toNat) (x8.1,(i64.wrap (n4+1)),x8.2.2)).set (n5.toNat) (x9.1,x9.2.1,(i64.wrap ((i64.wrap (n4+1))+1)),x9.2.2.2)).length)) (
 Q1 ((((l6.set (n5.toNat) (n4,x7.2)).set (n5.toNat) (x8.1,(i64.wrap (n4+1)),x8.2.2)).set (n5.toNat) (x9.1,x9.2.1,(i64.wrap ((i64.wrap (n4+1))+1)),x9.2.2.2))[n5.toNat]?) fun x10 =>
 oif (decide (0≤n5)) (
 oif (Nat.blt (n5.toNat) (((((l6.set (n5.toNat) (n4,x7.2)).set (n5.toNat) (x8.1,(i64.wrap (n4+1)),x8.2.2)).set (n5.toNat) (x9.1,x9.2.1,(i64.wrap ((i64.wrap (n4+1))+1)),x9.2.2.2)).set (n5.toNat) (x10.1,x10.2.1,x10.2.2.1,(i64.wrap ((i64.wrap ((i64.wrap (n4+1))+1))+1)),x10.2.2.2.2)).length)) (
 Q1 (((((l6.set (n5.toNat) (n4,x7.2)).set (n5.toNat) (x8.1,(i64.wrap (n4+1)),x8.2.2)).set (n5.toNat) (x9.1,x9.2.1,(i64.wrap ((i64.wrap (n4+1))+1)),x9.2.2.2)).set (n5.toNat) (x10.1,x10.2.1,x10.2.2.1,(i64.wrap ((i64.wrap ((i64.wrap (n4+1))+1))+1)),x10.2.2.2.2))[n5.toNat]?) fun x11 =>
 oif (decide (0≤n5)) (
 oif (Nat.blt (n5.toNat) ((((((l6.set (n5.toNat) (n4,x7.2)).set (n5.toNat) (x8.1,(i64.wrap (n4+1)),x8.2.2)).set (n5.toNat) (x9.1,x9.2.1,(i64.wrap ((i64.wrap (n4+1))+1)),x9.2.2.2)).set (n5.toNat) (x10.1,x10.2.1,x10.2.2.1,(i64.wrap ((i64.wrap ((i64.wrap (n4+1))+1))+1)),x10.2.2.2.2)).set (n5.toNat) (x11.1,x11.2.1,x11.2.2.1,x11.2.2.2.1,(i64.wrap ((i64.wrap ((i64.wrap ((i64.wrap (n4+1))+1))+1))+1)),x11.2.2.2.2.2)).length)) (
 Q1 ((((((l6.set (n5.toNat) (n4,x7.2)).set (n5.toNat) (x8.1,(i64.wrap (n4+1)),x8.2.2)).set (n5.toNat) (x9.1,x9.2.1,(i64.wrap ((i64.wrap (n4+1))+1)),x9.2.2.2)).set (n5.toNat) (x10.1,x10.2.1,x10.2.2.1,(i64.wrap ((i64.wrap ((i64.wrap (n4+1))+1))+1)),x10.2.2.2.2)).set (n5.toNat) (x11.1,x11.2.1,x11.2.2.1,x11.2.2.2.1,(i64.wrap ((i64.wrap ((i64.wrap ((i64.wrap (n4+1))+1))+1))+1)),x11.2.2.2.2.2))[n5.toNat]?) fun x12 =>
 oif (decide (0≤n5)) (
 oif (Nat.blt (n5.toNat) (((((((l6.set (n5.toNat) (n4,x7.2)).set (n5.toNat) (x8.1,(i64.wrap (n4+1)),x8.2.2)).set (n5.toNat) (x9.1,x9.2.1,(i64.wrap ((i64.wrap (n4+1))+1)),x9.2.2.2)).set (n5.toNat) (x10.1,x10.2.1,x10.2.2.1,(i64.wrap ((i64.wrap ((i64.wrap (n4+1))+1))+1)),x10.2.2.2.2)).set (n5.toNat) (x11.1,x11.2.1,x11.2.2.1,x11.2.2.2.1,(i64.wrap ((i64.wrap ((i64.wrap ((i64.wrap (n4+1))+1))+1))+1)),x11.2.2.2.2.2)).set (n5.toNat) (x12.1,x12.2.1,x12.2.2.1,x12.2.2.2.1,x12.2.2.2.2.1,(i64.wrap ((i64.wrap ((i64.wrap ((i64.wrap ((i64.wrap (n4+1))+1))+1))+1))+1)),x12.2.2.2.2.2.2)).length)) (
 Q1 (((((((l6.set (n5.toNat) (n4,x7.2)).set (n5.toNat) (x8.1,(i64.wrap (n4+1)),x8.2.2)).set (n5.toNat) (x9.1,x9.2.1,(i64.wrap ((i64.wrap (n4+1))+1)),x9.2.2.2)).set (n5.toNat) (x10.1,x10.2.1,x10.2.2.1,(i64.wrap ((i64.wrap ((i64.wrap (n4+1))+1))+1)),x10.2.2.2.2)).set (n5.toNat) (x11.1,x11.2.1,x11.2.2.1,x11.2.2.2.1,(i64.wrap ((i64.wrap ((i64.wrap ((i64.wrap (n4+1))+1))+1))+1)),x11.2.2.2.2.2)).set (n5.toNat) (x12.1,x12.2.1,x12.2.2.1,x12.2.2.2.1,x12.2.2.2.2.1,(i64.wrap ((i64.wrap ((i64.wrap ((i64.wrap ((i64.wrap (n4+1))+1))+1))+1))+1)),x12.2.2.2.2.2.2))[n5.toNat]?) fun x13 =>
 oif (decide (0≤n5)) (
 oif (Nat.blt (n5.toNat) ((((((((l6.set (n5.toNat) (n4,x7.2)).set (n5.toNat) (x8.1,(i64.wrap (n4+1)),x8.2.2)).set (n5.toNat) (x9.1,x9.2.1,(i64.wrap ((i64.wrap (n4+1))+1)),x9.2.2.2)).set (n5.toNat) (x10.1,x10.2.1,x10.2.2.1,(i64.wrap ((i64.wrap ((i64.wrap (n4+1))+1))+1)),x10.2.2.2.2)).set (n5.toNat) (x11.1,x11.2.1,x11.2.2.1,x11.2.2.2.1,(i64.wrap ((i64.wrap ((i64.wrap ((i64.wrap (n4+1))+1))+1))+1)),x11.2.2.2.2.2)).set (n5.toNat) (x12.1,x12.2.1,x12.2.2.1,x12.2.2.2.1,x12.2.2.2.2.1,(i64.wrap ((i64.wrap ((i64.wrap ((i64.wrap ((i64.wrap (n4+1))+1))+1))+1))+1)),x12.2.2.2.2.2.2)).set (n5.toNat) (x13.1,x13.2.1,x13.2.2.1,x13.2.2.2.1,x13.2.2.2.2.1,x13.2.2.2.2.2.1,(i64.wrap ((i64.wrap ((i64.wrap ((i64.wrap ((i64.wrap ((i64.wrap (n4+1))+1))+1))+1))+1))+1)),x13.2.2.2.2.2.2.2)).length)) (
 Q1 ((((((((l6.set (n5.toNat) (n4,x7.2)).set (n5.toNat) (x8.1,(i64.wrap (n4+1)),x8.2.2)).set (n5.toNat) (x9.1,x9.2.1,(i64.wrap ((i64.wrap (n4+1))+1)),x9.2.2.2)).set (n5.toNat) (x10.1,x10.2.1,x10.2.2.1,(i64.wrap ((i64.wrap ((i64.wrap (n4+1))+1))+1)),x10.2.2.2.2)).set (n5.toNat) (x11.1,x11.2.1,x11.2.2.1,x11.2.2.2.1,(i64.wrap ((i64.wrap ((i64.wrap ((i64.wrap (n4+1))+1))+1))+1)),x11.2.2.2.2.2)).set (n5.toNat) (x12.1,x12.2.1,x12.2.2.1,x12.2.2.2.1,x12.2.2.2.2.1,(i64.wrap ((i64.wrap ((i64.wrap ((i64.wrap ((i64.wrap (n4+1))+1))+1))+1))+1)),x12.2.2.2.2.2.2)).set (n5.toNat) (x13.1,x13.2.1,x13.2.2.1,x13.2.2.2.1,x13.2.2.2.2.1,x13.2.2.2.2.2.1,(i64.wrap ((i64.wrap ((i64.wrap ((i64.wrap ((i64.wrap ((i64.wrap (n4+1))+1))+1))+1))+1))+1)),x13.2.2.2.2.2.2.2))[n5.toNat]?) fun x14 =>
 ag3 ((i64.wrap ((i64.wrap ((i64.wrap ((i64.wrap ((i64.wrap ((i64.wrap ((i64.wrap ((i64.wrap (n4+1))+1))+1))+1))+1))+1))+1))+1)),(i64.wrap (n5+1)),((((((((l6.set (n5.toNat) (n4,x7.2)).set (n5.toNat) (x8.1,(i64.wrap (n4+1)),x8.2.2)).set (n5.toNat) (x9.1,x9.2.1,(i64.wrap ((i64.wrap (n4+1))+1)),x9.2.2.2)).set (n5.toNat) (x10.1,x10.2.1,x10.2.2.1,(i64.wrap ((i64.wrap ((i64.wrap (n4+1))+1))+1)),x10.2.2.2.2)).set (n5.toNat) (x11.1,x11.2.1,x11.2.2.1,x11.2.2.2.1,(i64.wrap ((i64.wrap ((i64.wrap ((i64.wrap (n4+1))+1))+1))+1)),x11.2.2.2.2.2)).set (n5.toNat) (x12.1,x12.2.1,x12.2.2.1,x12.2.2.2.1,x12.2.2.2.2.1,(i64.wrap ((i64.wrap ((i64.wrap ((i64.wrap ((i64.wrap (n4+1))+1))+1))+1))+1)),x12.2.2.2.2.2.2)).set (n5.toNat) (x13.1,x13.2.1,x13.2.2.1,x13.2.2.2.1,x13.2.2.2.2.1,x13.2.2.2.2.2.1,(i64.wrap ((i64.wrap ((i64.wrap ((i64.wrap ((i64.wrap ((i64.wrap (n4+1))+1))+1))+1))+1))+1)),x13.2.2.2.2.2.2.2)).set (n5.toNat) (x14.1,x14.2.1,x14.2.2.1,x14.2.2.2.1,x14.2.2.2.2.1,x14.2.2.2.2.2.1,x14.2.2.2.2.2.2.1,(i64.wrap ((i64.wrap ((i64.wrap ((i64.wrap ((i64.wrap ((i64.wrap ((i64.wrap (n4+1))+1))+1))+1))+1))+1))+1)))))) none) none) none) none) none) none) none) none) none) none) none) none) none) none) none) none) (
 kx55_0_0 n4 l6)) s.1 s.2.1 s.2.2
theorem e55 (d:Nat) (l1:List t1) (n2:Int):g55 (d+1) l1 n2 =
 Qa (l55_0 d (j55_0 d)) Qf (n2,0,l1):=by kernel_rfl
noncomputable def j56_0 (d:Nat) (n4:Int) (l5:List t4):Option (Int×(List t4)) :=
 some (n4,l5)
noncomputable def l56_0 (d:Nat) (kx56_0_0:Int→(List t4)→Option (Int×(List t4))) (ag3:(Int×Int×(List t4))→Option (Int×(List t4))) (s:(Int×Int×(List t4))):Option (Int×(List t4)) :=
(fun n4 n5 (l6:List t4) =>
 oif (decide (n5 < (l6.length:Int))) (
 oif (decide (0≤n5)) (
 oif (Nat.blt (n5.toNat) l6.length) (
 Q1 (l6[n5.toNat]?) fun x7 =>
 oif (decide (0≤n5)) (
 oif (Nat.blt (n5.toNat) ((l6.set (n5.toNat) (n4,x7.2)).length)) (
 Q1 ((l6.set (n5.toNat) (n4,x7.2))[n5.toNat]?) fun x8 =>
 oif (decide (0≤n5)) (
 oif (Nat.blt (n5.toNat) (((l6.set (n5.toNat) (n4,x7.2)).set (n5.toNat) (x8.1,(i64.wrap (n4+1)),x8.2.2)).length)) (
 Q1 (((l6.set (n5.toNat) (n4,x7.2)).set (n5.toNat) (x8.1,(i64.wrap (n4+1)),x8.2.2))[n5.toNat]?) fun x9 =>
 oif (decide (0≤n5)) (
 oif (Nat.blt (n5.toNat) ((((l6.set (n5.toNat) (n4,x7.2)).set (n5.toNat) (x8.1,(i64.wrap (n4+1)),x8.2.2)).set (n5.toNat) (x9.1,x9.2.1,(i64.wrap ((i64.wrap (n4+1))+1)),x9.2.2.2)).length)) (
 Q1 ((((l6.set (n5.toNat) (n4,x7.2)).set (n5.toNat) (x8.1,(i64.wrap (n4+1)),x8.2.2)).set (n5.toNat) (x9.1,x9.2.1,(i64.wrap ((i64.wrap (n4+1))+1)),x9.2.2.2))[n5.toNat]?) fun x10 =>
 oif (decide (0≤n5)) (
 oif (Nat.blt (n5.toNat) (((((l6.set (n5.toNat) (n4,x7.2)).set (n5.toNat) (x8.1,(i64.wrap (n4+1)),x8.2.2)).set (n5.toNat) (x9.1,x9.2.1,(i64.wrap ((i64.wrap (n4+1))+1)),x9.2.2.2)).set (n5.toNat) (x10.1,x10.2.1,x10.2.2.1,(i64.wrap ((i64.wrap ((i64.wrap (n4+1))+1))+1)),x10.2.2.2.2)).length)) (
 Q1 (((((l6.set (n5.toNat) (n4,x7.2)).set (n5.toNat) (x8.1,(i64.wrap (n4+1)),x8.2.2)).set (n5.toNat) (x9.1,x9.2.1,(i64.wrap ((i64.wrap (n4+1))+1)),x9.2.2.2)).set (n5.toNat) (x10.1,x10.2.1,x10.2.2.1,(i64.wrap ((i64.wrap ((i64.wrap (n4+1))+1))+1)),x10.2.2.2.2))[n5.toNat]?) fun x11 =>
 ag3 ((i64.wrap ((i64.wrap ((i64.wrap ((i64.wrap ((i64.wrap (n4+1))+1))+1))+1))+1)),(i64.wrap (n5+1)),(((((l6.set (n5.toNat) (n4,x7.2)).set (n5.toNat) (x8.1,(i64.wrap (n4+1)),x8.2.2)).set (n5.toNat) (x9.1,x9.2.1,(i64.wrap ((i64.wrap (n4+1))+1)),x9.2.2.2)).set (n5.toNat) (x10.1,x10.2.1,x10.2.2.1,(i64.wrap ((i64.wrap ((i64.wrap (n4+1))+1))+1)),x10.2.2.2.2)).set (n5.toNat) (x11.1,x11.2.1,x11.2.2.1,x11.2.2.2.1,(i64.wrap ((i64.wrap ((i64.wrap ((i64.wrap (n4+1))+1))+1))+1)))))) none) none) none) none) none) none) none) none) none) none) (
 kx56_0_0 n4 l6)) s.1 s.2.1 s.2.2
theorem e56 (d:Nat) (l1:List t4) (n2:Int):g56 (d+1) l1 n2 =
 Qa (l56_0 d (j56_0 d)) Qf (n2,0,l1):=by kernel_rfl
noncomputable def j87_0 (d:Nat) (n4:Int) (l5:List t3):Option (Int×(List t3)) :=
 some (n4,l5)
noncomputable def l87_0 (d:Nat) (kx87_0_0:Int→(List t3)→Option (Int×(List t3))) (ag3:(Int×Int×(List t3))→Option (Int×(List t3))) (s:(Int×Int×(List t3))):Option (Int×(List t3)) :=
(fun n4 n5 (l6:List t3) =>
 oif (decide (n5 < (l6.length:Int))) (
 oif (decide (0≤n5)) (
 oif (Nat.blt (n5.toNat) l6.length) (
 Q1 (l6[n5.toNat]?) fun x7 =>
 oif (decide (0≤n5)) (
 oif (Nat.blt (n5.toNat) ((l6.set (n5.toNat) (n4,x7.2)).length)) (
 Q1 ((l6.set (n5.toNat) (n4,x7.2))[n5.toNat]?) fun x8 =>
 oif (decide (0≤n5)) (
 oif (Nat.blt (n5.toNat) (((l6.set (n5.toNat) (n4,x7.2)).set (n5.toNat) (x8.1,(i64.wrap (n4+1)),x8.2.2)).length)) (
 Q1 (((l6.set (n5.toNat) (n4,x7.2)).set (n5.toNat) (x8.1,(i64.wrap (n4+1)),x8.2.2))[n5.toNat]?) fun x9 =>
 oif (decide (0≤n5)) (
 oif (Nat.blt (n5.toNat) ((((l6.set (n5.toNat) (n4,x7.2)).set (n5.toNat) (x8.1,(i64.wrap (n4+1)),x8.2.2)).set (n5.toNat) (x9.1,x9.2.1,(i64.wrap ((i64.wrap (n4+1))+1)),x9.2.2.2)).length)) (
 Q1 ((((l6.set (n5.toNat) (n4,x7.2)).set (n5.toNat) (x8.1,(i64.wrap (n4+1)),x8.2.2)).set (n5.toNat) (x9.1,x9.2.1,(i64.wrap ((i64.wrap (n4+1))+1)),x9.2.2.2))[n5.toNat]?) fun x10 =>
 oif (decide (0≤n5)) (
 oif (Nat.blt (n5.toNat) (((((l6.set (n5.toNat) (n4,x7.2)).set (n5.toNat) (x8.1,(i64.wrap (n4+1)),x8.2.2)).set (n5.toNat) (x9.1,x9.2.1,(i64.wrap ((i64.wrap (n4+1))+1)),x9.2.2.2)).set (n5.toNat) (x10.1,x10.2.1,x10.2.2.1,(i64.wrap ((i64.wrap ((i64.wrap (n4+1))+1))+1)),x10.2.2.2.2)).length)) (
 Q1 (((((l6.set (n5.toNat) (n4,x7.2)).set (n5.toNat) (x8.1,(i64.wrap (n4+1)),x8.2.2)).set (n5.toNat) (x9.1,x9.2.1,(i64.wrap ((i64.wrap (n4+1))+1)),x9.2.2.2)).set (n5.toNat) (x10.1,x10.2.1,x10.2.2.1,(i64.wrap ((i64.wrap ((i64.wrap (n4+1))+1))+1)),x10.2.2.2.2))[n5.toNat]?) fun x11 =>
 oif (decide (0≤n5)) (
 oif (Nat.blt (n5.toNat) ((((((l6.set (n5.toNat) (n4,x7.2)).set (n5.toNat) (x8.1,(i64.wrap (n4+1)),x8.2.2)).set (n5.toNat) (x9.1,x9.2.1,(i64.wrap ((i64.wrap (n4+1))+1)),x9.2.2.2)).set (n5.toNat) (x10.1,x10.2.1,x10.2.2.1,(i64.wrap ((i64.wrap ((i64.wrap (n4+1))+1))+1)),x10.2.2.2.2)).set (n5.toNat) (x11.1,x11.2.1,x11.2.2.1,x11.2.2.2.1,(i64.wrap ((i64.wrap ((i64.wrap ((i64.wrap (n4+1))+1))+1))+1)),x11.2.2.2.2.2)).length)) (
 Q1 ((((((l6.set (n5.toNat) (n4,x7.2)).set (n5.toNat) (x8.1,(i64.wrap (n4+1)),x8.2.2)).set (n5.toNat) (x9.1,x9.2.1,(i64.wrap ((i64.wrap (n4+1))+1)),x9.2.2.2)).set (n5.toNat) (x10.1,x10.2.1,x10.2.2.1,(i64.wrap ((i64.wrap ((i64.wrap (n4+1))+1))+1)),x10.2.2.2.2)).set (n5.toNat) (x11.1,x11.2.1,x11.2.2.1,x11.2.2.2.1,(i64.wrap ((i64.wrap ((i64.wrap ((i64.wrap (n4+1))+1))+1))+1)),x11.2.2.2.2.2))[n5.toNat]?) fun x12 =>
 ag3 ((i64.wrap ((i64.wrap ((i64.wrap ((i64.wrap ((i64.wrap ((i64.wrap (n4+1))+1))+1))+1))+1))+1)),(i64.wrap (n5+1)),((((((l6.set (n5.toNat) (n4,x7.2)).set (n5.toNat) (x8.1,(i64.wrap (n4+1)),x8.2.2)).set (n5.toNat) (x9.1,x9.2.1,(i64.wrap ((i64.wrap (n4+1))+1)),x9.2.2.2)).set (n5.toNat) (x10.1,x10.2.1,x10.2.2.1,(i64.wrap ((i64.wrap ((i64.wrap (n4+1))+1))+1)),x10.2.2.2.2)).set (n5.toNat) (x11.1,x11.2.1,x11.2.2.1,x11.2.2.2.1,(i64.wrap ((i64.wrap ((i64.wrap ((i64.wrap (n4+1))+1))+1))+1)),x11.2.2.2.2.2)).set (n5.toNat) (x12.1,x12.2.1,x12.2.2.1,x12.2.2.2.1,x12.2.2.2.2.1,(i64.wrap ((i64.wrap ((i64.wrap ((i64.wrap ((i64.wrap (n4+1))+1))+1))+1))+1)))))) none) none) none) none) none) none) none) none) none) none) none) none) (
 kx87_0_0 n4 l6)) s.1 s.2.1 s.2.2
theorem e87 (d:Nat) (l1:List t3) (n2:Int):g87 (d+1) l1 n2 =
 Qa (l87_0 d (j87_0 d)) Qf (n2,0,l1):=by kernel_rfl
noncomputable def j3_0 (d:Nat) (r23:t13) (b27:Bool):Option Bool :=
 oif b27 (
 some false) (
 Q1 (g15 (d+2) r23.2 1) fun r28 =>
 oif (decide (r28 < 0)) (
 some false) (
 oif (r28 != r23.1) (
 some false) (
 some true)))
noncomputable def j3_1 (d:Nat) (x1:t5) (r4:t10) (r6:t10) (b22:Bool):Option Bool :=
 oif b22 (
 some false) (
 Q1 (g14 (d+2) r6.1 1) fun r23 =>
 Q1 (g15 (d+2) r23.2 1) fun r24 =>
 oif (decide (r24 < 0)) (
 some false) (
 oif (r24 != r23.1) (
 some false) (
 Q1 (g9 (d+2) x1) fun r25 =>
 Q1 (g10 (d+2) r25) fun r26 =>
 Q1 (g11 (d+2) r26.1 r4.1) fun r27 =>
 oif (!r27) (
 j3_0 d r23 true) (
 j3_0 d r23 (!(r26.2==r4.2))))))
noncomputable def j3i13i43_0 (d:Nat) (x1:t5) (r4:t10) (r6:t10) (n20:Int) (l21:List (List t3)):Option Bool :=
 oif (decide (n20 < 0)) (
 j3_1 d x1 r4 r6 true) (
 Q1 (g11 (d+2) r6.1 r4.1) fun r22 =>
 oif (!r22) (
 j3_1 d x1 r4 r6 true) (
 j3_1 d x1 r4 r6 (!(r6.2==r4.2))))
noncomputable def l3i13i43_0 (d:Nat) (kx3i13i43_0_0:Int→(List (List t3))→Option Bool) (ag19:(Int×Int×(List (List t3)))→Option Bool) (s:(Int×Int×(List (List t3)))):Option Bool :=
(fun n20 n21 (l22:List (List t3)) =>
 oif (decide (n21 < (l22.length:Int))) (
 oif (decide (0≤n21)) (
 oif (Nat.blt (n21.toNat) l22.length) (
 Q1 (l22[n21.toNat]?) fun l23 =>
 Q1 (l22[n21.toNat]?) fun l24 =>
 oif (Nat.beq l24.length l23.length) (
 Q1 (g87 d l23 n20) fun r25 =>
 ag19 (r25.1,(i64.wrap (n21+1)),(l22.set (n21.toNat) r25.2))) none) none) none) (
 kx3i13i43_0_0 n20 l22)) s.1 s.2.1 s.2.2
noncomputable def j3_2 (d:Nat) (x1:t5) (r4:t10) (r5:t5) (r6:t10) (b7:Bool):Option Bool :=
 oif b7 (
 some false) (
 Q1 (g9 (d+2) x1) fun r8 =>
 Q1 (g12 (d+2) r5 r8) fun r9 =>
 oif (!r9) (
 some false) (
 Q1 (g55 d r5.1.2.1 1) fun r10 =>
 Q1 (g14 d r5.1.2.2.1 r10.1) fun r11 =>
 Q1 (g14 d r5.1.2.2.2.1 r11.1) fun r12 =>
 Q1 (g14 d r5.1.2.2.2.2.1 r12.1) fun r13 =>
 Q1 (g14 d r5.1.2.2.2.2.2.1 r13.1) fun r14 =>
 Q1 (g56 d r5.1.2.2.2.2.2.2.1 r14.1) fun r15 =>
 Q1 (g14 d r5.1.2.2.2.2.2.2.2.1 r15.1) fun r16 =>
 Q1 (g14 d r5.2.1.1 r16.1) fun r17 =>
 Q1 (g14 d r5.2.1.2 r17.1) fun r18 =>
 Qa (l3i13i43_0 d (j3i13i43_0 d x1 r4 r6)) Qf (r18.1,0,r5.2.2.1)))
theorem e3 (d:Nat) (x1:t5):g3 (d+3) x1 =
 Q1 (g7 (d+2) x1 1048576) fun r2 =>
 oif (decide (r2 < 0)) (
 some true) (
 Q1 (g9 (d+2) x1) fun r3 =>
 Q1 (g8 (d+2) r3) fun r4 =>
 Q1 (g9 (d+2) x1) fun r5 =>
 Q1 (g10 (d+2) r5) fun r6 =>
 Q1 (g11 (d+2) r6.1 r4.1) fun r7 =>
 oif (!r7) (
 j3_2 d x1 r4 r5 r6 true) (
 j3_2 d x1 r4 r5 r6 (!(r6.2==r4.2)))):=by kernel_rfl
end Go.Proofs.YtnnmeljlcdmljaaGreatDoor
