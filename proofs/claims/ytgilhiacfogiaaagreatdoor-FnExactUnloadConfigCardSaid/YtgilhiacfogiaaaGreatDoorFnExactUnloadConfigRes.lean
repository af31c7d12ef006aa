/-
  The residual forms of the program's functions under the interpreter by value, printed by program (wip/pv/gen2.py); each equation is checked by the kernel.
  Conditions: none.
-/
import Derived.Test.YtgilhiacfogiaaaGreatDoorFnExactUnloadConfigResA
import Derived.KernelRfl
set_option linter.all false
set_option maxRecDepth 1000000
namespace Go.Proofs.YtgilhiacfogiaaaGreatDoor
open Go.Ev Go.Pv
theorem e42 (d:Nat) (l1:List t0) (n2:Int):g42 (d+1) l1 n2 =
 oif (decide (((IntKind.i64.wrap (n2 - ((l1.length:Nat):Int))):Int) < 0)) (
 some (-1)) (
 some (IntKind.i64.wrap (n2 - ((l1.length:Nat):Int)))):=by kernel_rfl
theorem e43 (d:Nat) (l1:List Int) (n2:Int):g43 (d+1) l1 n2 =
 oif (decide (((IntKind.i64.wrap (n2 - ((l1.length:Nat):Int))):Int) < 0)) (
 some (-1)) (
 some (IntKind.i64.wrap (n2 - ((l1.length:Nat):Int)))):=by kernel_rfl
theorem e44 (d:Nat) (l1:List t3) (n2:Int):g44 (d+1) l1 n2 =
 oif (decide (((IntKind.i64.wrap (n2 - ((l1.length:Nat):Int))):Int) < 0)) (
 some (-1)) (
 some (IntKind.i64.wrap (n2 - ((l1.length:Nat):Int)))):=by kernel_rfl
theorem e9 (d:Nat) (x1:t1) (n2:Int):g9 (d+1) x1 n2 =
 oif (decide (((IntKind.i64.wrap (n2 - ((x1.1:ByteArray).size:Int))):Int) < 0)) (
 some (-1)) (
 obind (g42 d x1.2.1 (IntKind.i64.wrap (n2 - ((x1.1:ByteArray).size:Int)))) fun r3 =>
 oif (decide ((r3:Int) < 0)) (
 some (-1)) (
 obind (g43 d x1.2.2.1 r3) fun r4 =>
 oif (decide ((r4:Int) < 0)) (
 some (-1)) (
 obind (g43 d x1.2.2.2.1 r4) fun r5 =>
 oif (decide ((r5:Int) < 0)) (
 some (-1)) (
 obind (g43 d x1.2.2.2.2.1 r5) fun r6 =>
 oif (decide ((r6:Int) < 0)) (
 some (-1)) (
 obind (g43 d x1.2.2.2.2.2.1 r6) fun r7 =>
 oif (decide ((r7:Int) < 0)) (
 some (-1)) (
 obind (g44 d x1.2.2.2.2.2.2.1 r7) fun r8 =>
 oif (decide ((r8:Int) < 0)) (
 some (-1)) (
 obind (g43 d x1.2.2.2.2.2.2.2.1 r8) fun r9 =>
 oif (decide ((r9:Int) < 0)) (
 some (-1)) (
 some r9)))))))):=by kernel_rfl
theorem e70 (d:Nat) (n1:Int) (n2:Int) (n3:Int):g70 (d+1) n1 n2 n3 =
 oif (decide ((n1:Int)≥n2)) (
 some (decide ((n1:Int)≤n3))) (
 some false):=by kernel_rfl
noncomputable def j84_0 (d:Nat) (l1:List t0) (x2:t0) (n4:Int):Option (List t0) :=
 oif (decide (0≤(n4:Int))) (
 oif (Nat.ble ((n4:Int).toNat) l1.length) (
 oif (Nat.ble ((([]:List t0).length+(l1.take ((n4:Int).toNat)).length)*64) roomMax) (
 oif (Nat.ble (((([]:List t0)++(l1.take ((n4:Int).toNat))).length+[x2].length)*64) roomMax) (
 oif (decide (0≤(n4:Int))) (
 oif (Nat.ble ((n4:Int).toNat) l1.length) (
 oif (Nat.ble ((((([]:List t0)++(l1.take ((n4:Int).toNat)))++[x2]).length+(l1.drop ((n4:Int).toNat)).length)*64) roomMax) (
 some (((([]:List t0)++(l1.take ((n4:Int).toNat)))++[x2])++(l1.drop ((n4:Int).toNat)))) none) none) none) none) none) none) none
noncomputable def l84_0_b (d:Nat) (l1:List t0) (x2:t0) (kx84_0_0:Int→Option (List t0)) (ag3:Int→Option (List t0)) (n4:Int):Option (List t0) :=
 oif (decide ((n4:Int) < ((l1.length:Nat):Int))) (
 oif (decide (0≤(n4:Int))) (
 obind (l1[(n4:Int).toNat]?) fun x5 =>
 oif (decide ((x5.1:Int) < x2.1)) (
 ag3 (IntKind.i64.wrap (n4+1))) (
 kx84_0_0 n4)) none) (
 kx84_0_0 n4)
noncomputable def l84_0 (d:Nat) (l1:List t0) (x2:t0) (kx84_0_0:Int→Option (List t0)) (ag3:Int→Option (List t0)) (s:Int):Option (List t0):=l84_0_b d l1 x2 kx84_0_0 ag3 s
theorem e84 (d:Nat) (l1:List t0) (x2:t0):g84 (d+1) l1 x2 =
 iterP (l84_0 d l1 x2 (j84_0 d l1 x2)) fuelN 0:=by kernel_rfl
noncomputable def j46_0 (d:Nat) (x1:t1) (s3:ByteArray) (n4:Int) (l5:List t0) (l6:List t3):Option t2 :=
 obind (g70 d x1.2.2.2.2.2.2.2.2 0 (IntKind.i64.wrap (((x1.2.1.length:Nat):Int) - 1))) fun r7 =>
 oif r7 (
 oif (decide (0≤(x1.2.2.2.2.2.2.2.2:Int))) (
 obind (x1.2.1[(x1.2.2.2.2.2.2.2.2:Int).toNat]?) fun x8 =>
 some (s3,l5,l6,x8.1)) none) (
 some (s3,l5,l6,n4))
noncomputable def l46_0_b (d:Nat) (x1:t1) (kx46_0_0:ByteArray→Int→(List t0)→(List t3)→Option t2) (ag2:(Int×t2)→Option t2) (n3:Int) (x4:t2):Option t2 :=
 oif (decide ((n3:Int) < ((x1.2.1.length:Nat):Int))) (
 oif (decide (0≤(n3:Int))) (
 obind (x1.2.1[(n3:Int).toNat]?) fun x5 =>
 obind (g84 d x4.2.1 x5) fun r6 =>
 ag2 ((IntKind.i64.wrap (n3+1)),(x4.1,r6,x4.2.2))) none) (
 kx46_0_0 x4.1 x4.2.2.2 x4.2.1 x4.2.2.1)
noncomputable def l46_0 (d:Nat) (x1:t1) (kx46_0_0:ByteArray→Int→(List t0)→(List t3)→Option t2) (ag2:(Int×t2)→Option t2) (s:(Int×t2)):Option t2:=l46_0_b d x1 kx46_0_0 ag2 s.1 s.2
theorem e46 (d:Nat) (x1:t1):g46 (d+1) x1 =
 oif (Nat.ble ((([]:List t3).length+x1.2.2.2.2.2.2.1.length)*40) roomMax) (
 iterP (l46_0 d x1 (j46_0 d x1)) fuelN (0,(x1.1,[],(([]:List t3)++x1.2.2.2.2.2.2.1),0))) none:=by kernel_rfl
noncomputable def j156_0 (d:Nat) (b4:Bool):Option Bool :=
 some false
noncomputable def l156_0_b (d:Nat) (l1:List ByteArray) (s2:ByteArray) (kx156_0_0:Bool→Option Bool) (ag3:t5→Option Bool) (b4:Bool) (n5:Int):Option Bool :=
 oif (decide ((n5:Int) < ((l1.length:Nat):Int))) (
 oif (decide (0≤(n5:Int))) (
 obind (l1[(n5:Int).toNat]?) fun s6 =>
 oif ((s6:ByteArray).toList==(s2:ByteArray).toList) (
 some true) (
 ag3 (b4,(IntKind.i64.wrap (n5+1))))) none) (
 kx156_0_0 b4)
noncomputable def l156_0 (d:Nat) (l1:List ByteArray) (s2:ByteArray) (kx156_0_0:Bool→Option Bool) (ag3:t5→Option Bool) (s:t5):Option Bool:=l156_0_b d l1 s2 kx156_0_0 ag3 s.1 s.2
theorem e156 (d:Nat) (l1:List ByteArray) (s2:ByteArray):g156 (d+1) l1 s2 =
 iterP (l156_0 d l1 s2 (j156_0 d)) fuelN (false,0):=by kernel_rfl
theorem e157 (d:Nat):g157 (d+1) =
 some [(⟨#[113,100,105,115,99]⟩:ByteArray),(⟨#[100,101,102,97,117,108,116]⟩:ByteArray),(⟨#[99,108,97,115,115]⟩:ByteArray),(⟨#[114,97,116,101]⟩:ByteArray),(⟨#[99,101,105,108]⟩:ByteArray),(⟨#[98,117,114,115,116]⟩:ByteArray),(⟨#[99,98,117,114,115,116]⟩:ByteArray),(⟨#[112,114,105,111]⟩:ByteArray),(⟨#[108,105,109,105,116]⟩:ByteArray),(⟨#[102,105,108,116,101,114]⟩:ByteArray),(⟨#[115,111,117,114,99,101]⟩:ByteArray),(⟨#[100,101,115,116]⟩:ByteArray),(⟨#[112,111,114,116]⟩:ByteArray),(⟨#[109,97,114,107]⟩:ByteArray)]:=by kernel_rfl
theorem e126 (d:Nat) (s1:ByteArray):g126 (d+1) s1 =
 obind (g157 d) fun r2 =>
 obind (g156 d r2 s1) fun r3 =>
 some r3:=by kernel_rfl
noncomputable def j98_0 (d:Nat) (s1:ByteArray) (b3:Bool):Option Bool :=
 obind (g70 d ((s1:ByteArray).size:Int) 1 8) fun r4 =>
 oif r4 (
 obind (g126 d s1) fun r5 =>
 some (!r5)) (
 some false)
noncomputable def l98_0_b (d:Nat) (s1:ByteArray) (kx98_0_0:Bool→Option Bool) (ag2:t5→Option Bool) (b3:Bool) (n4:Int):Option Bool :=
 oif (decide ((n4:Int) < ((s1:ByteArray).size:Int))) (
 oif (decide (0≤(n4:Int))) (
 obind ((s1:ByteArray).data.toList[(n4:Int).toNat]?) fun c5 =>
 oif (decide (((c5.toNat:Int):Int) < 97)) (
 some false) (
 oif (decide (0≤(n4:Int))) (
 obind ((s1:ByteArray).data.toList[(n4:Int).toNat]?) fun c6 =>
 oif (decide (((c6.toNat:Int):Int) > 122)) (
 some false) (
 ag2 (b3,(IntKind.i64.wrap (n4+1))))) none)) none) (
 kx98_0_0 b3)
noncomputable def l98_0 (d:Nat) (s1:ByteArray) (kx98_0_0:Bool→Option Bool) (ag2:t5→Option Bool) (s:t5):Option Bool:=l98_0_b d s1 kx98_0_0 ag2 s.1 s.2
theorem e98 (d:Nat) (s1:ByteArray):g98 (d+1) s1 =
 iterP (l98_0 d s1 (j98_0 d s1)) fuelN (false,0):=by kernel_rfl
theorem e127 (d:Nat) (x1:t0):g127 (d+1) x1 =
 obind (g70 d x1.1 1 999) fun r2 =>
 oif r2 (
 obind (g70 d x1.2.2.1 1 100000) fun r3 =>
 oif r3 (
 obind (g70 d x1.2.2.2.1 x1.2.2.1 100000) fun r4 =>
 oif r4 (
 obind (g70 d x1.2.2.2.2.1 1500 1000000) fun r5 =>
 oif r5 (
 obind (g70 d x1.2.2.2.2.2.1 1500 1000000) fun r6 =>
 oif r6 (
 obind (g70 d x1.2.2.2.2.2.2.1 0 7) fun r7 =>
 some r7) (
 some false)) (
 some false)) (
 some false)) (
 some false)) (
 some false):=by kernel_rfl
noncomputable def j120_0 (d:Nat) (n4:Int):Option Int :=
 some (-1)
noncomputable def l120_0_b (d:Nat) (x1:t2) (n2:Int) (kx120_0_0:Int→Option Int) (ag3:t6→Option Int) (n4:Int) (n5:Int):Option Int :=
 oif (decide ((n5:Int) < ((x1.2.1.length:Nat):Int))) (
 oif (decide (0≤(n5:Int))) (
 obind (x1.2.1[(n5:Int).toNat]?) fun x6 =>
 oif ((x6.1:Int)==n2) (
 some n5) (
 ag3 (n4,(IntKind.i64.wrap (n5+1))))) none) (
 kx120_0_0 n4)
noncomputable def l120_0 (d:Nat) (x1:t2) (n2:Int) (kx120_0_0:Int→Option Int) (ag3:t6→Option Int) (s:t6):Option Int:=l120_0_b d x1 n2 kx120_0_0 ag3 s.1 s.2
theorem e120 (d:Nat) (x1:t2) (n2:Int):g120 (d+1) x1 n2 =
 iterP (l120_0 d x1 n2 (j120_0 d)) fuelN (0,0):=by kernel_rfl
noncomputable def j128_0 (d:Nat) (l4:List Int):Option (List Int) :=
 some l4
noncomputable def j128_1 (d:Nat) (kx128_0_0:(List Int)→Option (List Int)) (x1:t2) (ag3:(Int×(List Int))→Option (List Int)) (n4:Int) (l5:List Int) (b6:Bool) (b7:Bool):Option (List Int) :=
 oif b7 (
 oif (Nat.ble ((l5.length+[n4].length)*8) roomMax) (
 oif (decide (0≤(n4:Int))) (
 obind (x1.2.1[(n4:Int).toNat]?) fun x8 =>
 obind (g120 d x1 x8.2.1) fun r9 =>
 ag3 (r9,(l5++[n4]))) none) none) (
 kx128_0_0 l5)
noncomputable def l128_0_b (d:Nat) (x1:t2) (kx128_0_0:(List Int)→Option (List Int)) (ag3:(Int×(List Int))→Option (List Int)) (n4:Int) (l5:List Int):Option (List Int) :=
 oif (decide ((n4:Int)≥0)) (
 j128_1 d kx128_0_0 x1 ag3 n4 l5 true (decide ((((l5.length:Nat):Int):Int)≤8))) (
 j128_1 d kx128_0_0 x1 ag3 n4 l5 false false)
noncomputable def l128_0 (d:Nat) (x1:t2) (kx128_0_0:(List Int)→Option (List Int)) (ag3:(Int×(List Int))→Option (List Int)) (s:(Int×(List Int))):Option (List Int):=l128_0_b d x1 kx128_0_0 ag3 s.1 s.2
theorem e128 (d:Nat) (x1:t2) (n2:Int):g128 (d+1) x1 n2 =
 iterP (l128_0 d x1 (j128_0 d)) fuelN (n2,[]):=by kernel_rfl
noncomputable def j121_0 (d:Nat) (l4:List Int):Option (List Int) :=
 some l4
noncomputable def l121_0_b (d:Nat) (x1:t2) (n2:Int) (kx121_0_0:(List Int)→Option (List Int)) (ag3:((List Int)×Int)→Option (List Int)) (l4:List Int) (n5:Int):Option (List Int) :=
 oif (decide ((n5:Int) < ((x1.2.1.length:Nat):Int))) (
 oif (decide (0≤(n5:Int))) (
 obind (x1.2.1[(n5:Int).toNat]?) fun x6 =>
 oif (decide (0≤(n2:Int))) (
 obind (x1.2.1[(n2:Int).toNat]?) fun x7 =>
 oif ((x6.2.1:Int)==x7.1) (
 oif (Nat.ble ((l4.length+[n5].length)*8) roomMax) (
 ag3 ((l4++[n5]),(IntKind.i64.wrap (n5+1)))) none) (
 ag3 (l4,(IntKind.i64.wrap (n5+1))))) none) none) (
 kx121_0_0 l4)
noncomputable def l121_0 (d:Nat) (x1:t2) (n2:Int) (kx121_0_0:(List Int)→Option (List Int)) (ag3:((List Int)×Int)→Option (List Int)) (s:((List Int)×Int)):Option (List Int):=l121_0_b d x1 n2 kx121_0_0 ag3 s.1 s.2
theorem e121 (d:Nat) (x1:t2) (n2:Int):g121 (d+1) x1 n2 =
 iterP (l121_0 d x1 n2 (j121_0 d)) fuelN ([],0):=by kernel_rfl
noncomputable def j129_0 (d:Nat) (n6:Int):Option Int :=
 some n6
noncomputable def l129_0_b (d:Nat) (x1:t2) (r4:List Int) (kx129_0_0:Int→Option Int) (ag5:t6→Option Int) (n6:Int) (n7:Int):Option Int :=
 oif (decide ((n7:Int) < ((r4.length:Nat):Int))) (
 oif (decide (0≤(n7:Int))) (
 oif (Nat.blt ((n7:Int).toNat) r4.length) (
 obind (r4[(n7:Int).toNat]?) fun n8 =>
 oif (decide (0≤(n8:Int))) (
 obind (x1.2.1[(n8:Int).toNat]?) fun x9 =>
 ag5 ((IntKind.i64.wrap (n6 - x9.2.2.1)),(IntKind.i64.wrap (n7+1)))) none) none) none) (
 kx129_0_0 n6)
noncomputable def l129_0 (d:Nat) (x1:t2) (r4:List Int) (kx129_0_0:Int→Option Int) (ag5:t6→Option Int) (s:t6):Option Int:=l129_0_b d x1 r4 kx129_0_0 ag5 s.1 s.2
theorem e129 (d:Nat) (x1:t2) (n2:Int):g129 (d+1) x1 n2 =
 oif (decide (0≤(n2:Int))) (
 obind (x1.2.1[(n2:Int).toNat]?) fun x3 =>
 obind (g121 d x1 n2) fun r4 =>
 iterP (l129_0 d x1 r4 (j129_0 d)) fuelN (x3.2.2.1,0)) none:=by kernel_rfl
theorem e130 (d:Nat) (x1:t2) (n2:Int):g130 (d+1) x1 n2 =
 obind (g121 d x1 n2) fun r3 =>
 some ((((r3.length:Nat):Int):Int)==0):=by kernel_rfl
noncomputable def j99_0 (d:Nat) (b6:Bool):Option Bool :=
 some true
noncomputable def j99_1 (d:Nat) (ag5:t5→Option Bool) (b6:Bool) (n7:Int) (b14:Bool) (b15:Bool) (b16:Bool) (b17:Bool) (b18:Bool):Option Bool :=
 oif b18 (
 some false) (
 ag5 (b6,(IntKind.i64.wrap (n7+1))))
noncomputable def j99_2 (d:Nat) (x1:t2) (ag5:t5→Option Bool) (b6:Bool) (n7:Int) (x8:t0) (b10:Bool) (b11:Bool) (b12:Bool) (b13:Bool):Option Bool :=
 oif b13 (
 some false) (
 obind (g130 d x1 n7) fun r14 =>
 oif r14 (
 obind (g70 d x8.2.2.2.2.2.2.2 1 60) fun r15 =>
 oif (!r15) (
 j99_1 d ag5 b6 n7 r14 true (!r15) true true) (
 obind (g130 d x1 n7) fun r16 =>
 oif (!r16) (
 j99_1 d ag5 b6 n7 r14 true (!r15) false ((x8.2.2.2.2.2.2.2:Int) != 0)) (
 j99_1 d ag5 b6 n7 r14 true (!r15) false false))) (
 obind (g130 d x1 n7) fun r17 =>
 oif (!r17) (
 j99_1 d ag5 b6 n7 r14 false false false ((x8.2.2.2.2.2.2.2:Int) != 0)) (
 j99_1 d ag5 b6 n7 r14 false false false false)))
noncomputable def l99_1_b (d:Nat) (x1:t2) (kx99_1_0:Bool→Option Bool) (ag5:t5→Option Bool) (b6:Bool) (n7:Int):Option Bool :=
 oif (decide ((n7:Int) < ((x1.2.1.length:Nat):Int))) (
 oif (decide (0≤(n7:Int))) (
 obind (x1.2.1[(n7:Int).toNat]?) fun x8 =>
 obind (g128 d x1 n7) fun r9 =>
 oif (decide ((((r9.length:Nat):Int):Int) > 8)) (
 j99_2 d x1 ag5 b6 n7 x8 true true true true) (
 oif (decide (0≤((IntKind.i64.wrap (((r9.length:Nat):Int) - 1)):Int))) (
 oif (Nat.blt (((IntKind.i64.wrap (((r9.length:Nat):Int) - 1)):Int).toNat) r9.length) (
 obind (r9[((IntKind.i64.wrap (((r9.length:Nat):Int) - 1)):Int).toNat]?) fun n10 =>
 oif (decide (0≤(n10:Int))) (
 obind (x1.2.1[(n10:Int).toNat]?) fun x11 =>
 oif ((x11.2.1:Int) != 0) (
 j99_2 d x1 ag5 b6 n7 x8 false ((x11.2.1:Int) != 0) true true) (
 obind (g129 d x1 n7) fun r12 =>
 j99_2 d x1 ag5 b6 n7 x8 false ((x11.2.1:Int) != 0) false (decide ((r12:Int) < 0)))) none) none) none)) none) (
 kx99_1_0 b6)
noncomputable def l99_1 (d:Nat) (x1:t2) (kx99_1_0:Bool→Option Bool) (ag5:t5→Option Bool) (s:t5):Option Bool:=l99_1_b d x1 kx99_1_0 ag5 s.1 s.2
noncomputable def j99_3 (d:Nat) (x1:t2) (b3:Bool) (n4:Int):Option Bool :=
 oif ((n4:Int) != 1) (
 some false) (
 iterP (l99_1 d x1 (j99_0 d)) fuelN (b3,0))
noncomputable def j99_4 (d:Nat) (ag2:(Bool×Int×Int)→Option Bool) (b3:Bool) (n4:Int) (n5:Int) (x6:t0) (b7:Bool) (b8:Bool) (b9:Bool) (b10:Bool):Option Bool :=
 oif b10 (
 some false) (
 oif ((x6.2.1:Int)==0) (
 ag2 (b3,(IntKind.i64.wrap (n4+1)),(IntKind.i64.wrap (n5+1)))) (
 ag2 (b3,n4,(IntKind.i64.wrap (n5+1)))))
noncomputable def l99_0_b (d:Nat) (x1:t2) (kx99_0_0:Bool→Int→Option Bool) (ag2:(Bool×Int×Int)→Option Bool) (b3:Bool) (n4:Int) (n5:Int):Option Bool :=
 oif (decide ((n5:Int) < ((x1.2.1.length:Nat):Int))) (
 oif (decide (0≤(n5:Int))) (
 obind (x1.2.1[(n5:Int).toNat]?) fun x6 =>
 obind (g127 d x6) fun r7 =>
 oif (!r7) (
 j99_4 d ag2 b3 n4 n5 x6 r7 (!r7) true true) (
 oif (decide ((n5:Int) > 0)) (
 oif (decide (0≤((IntKind.i64.wrap (n5 - 1)):Int))) (
 obind (x1.2.1[((IntKind.i64.wrap (n5 - 1)):Int).toNat]?) fun x8 =>
 j99_4 d ag2 b3 n4 n5 x6 r7 (!r7) false (decide ((x8.1:Int)≥x6.1))) none) (
 j99_4 d ag2 b3 n4 n5 x6 r7 (!r7) false false))) none) (
 kx99_0_0 b3 n4)
noncomputable def l99_0 (d:Nat) (x1:t2) (kx99_0_0:Bool→Int→Option Bool) (ag2:(Bool×Int×Int)→Option Bool) (s:(Bool×Int×Int)):Option Bool:=l99_0_b d x1 kx99_0_0 ag2 s.1 s.2.1 s.2.2
theorem e99 (d:Nat) (x1:t2):g99 (d+1) x1 =
 iterP (l99_0 d x1 (j99_3 d x1)) fuelN (false,0,0):=by kernel_rfl
theorem e101 (d:Nat) (x1:t2) (n2:Int):g101 (d+1) x1 n2 =
 obind (g120 d x1 n2) fun r3 =>
 oif (decide ((r3:Int)≥0)) (
 obind (g130 d x1 r3) fun r4 =>
 some r4) (
 some false):=by kernel_rfl
theorem e131 (d:Nat) (x1:t3):g131 (d+1) x1 =
 obind (g70 d x1.1 1 99) fun r2 =>
 oif r2 (
 obind (g70 d x1.2.1 0 3) fun r3 =>
 oif r3 (
 obind (g70 d x1.2.2.1 0 65535) fun r4 =>
 oif r4 (
 obind (g70 d x1.2.2.2.1 0 65535) fun r5 =>
 oif r5 (
 some (((IntKind.i64.wrap ((BitVec.ofInt IntKind.i64.bits x1.2.2.2.1 &&& BitVec.ofInt IntKind.i64.bits x1.2.2.1).toNat:Int)):Int)==x1.2.2.2.1)) (
 some false)) (
 some false)) (
 some false)) (
 some false):=by kernel_rfl
noncomputable def j100_0 (d:Nat) (x1:t2) (b3:Bool):Option Bool :=
 some (decide ((((x1.2.2.1.length:Nat):Int):Int)≤16))
noncomputable def j100_1 (d:Nat) (ag2:t5→Option Bool) (b3:Bool) (n4:Int) (b6:Bool) (b7:Bool) (b8:Bool) (b9:Bool) (b10:Bool) (b11:Bool):Option Bool :=
 oif b11 (
 some false) (
 ag2 (b3,(IntKind.i64.wrap (n4+1))))
noncomputable def l100_0_b (d:Nat) (x1:t2) (kx100_0_0:Bool→Option Bool) (ag2:t5→Option Bool) (b3:Bool) (n4:Int):Option Bool :=
 oif (decide ((n4:Int) < ((x1.2.2.1.length:Nat):Int))) (
 oif (decide (0≤(n4:Int))) (
 obind (x1.2.2.1[(n4:Int).toNat]?) fun x5 =>
 obind (g131 d x5) fun r6 =>
 oif (!r6) (
 j100_1 d ag2 b3 n4 r6 (!r6) true true true true) (
 oif (decide ((n4:Int) > 0)) (
 oif (decide (0≤((IntKind.i64.wrap (n4 - 1)):Int))) (
 obind (x1.2.2.1[((IntKind.i64.wrap (n4 - 1)):Int).toNat]?) fun x7 =>
 oif (decide ((x7.1:Int)≥x5.1)) (
 j100_1 d ag2 b3 n4 r6 (!r6) false (decide ((x7.1:Int)≥x5.1)) true true) (
 obind (g101 d x1 x5.2.2.2.2) fun r8 =>
 j100_1 d ag2 b3 n4 r6 (!r6) false (decide ((x7.1:Int)≥x5.1)) false (!r8))) none) (
 obind (g101 d x1 x5.2.2.2.2) fun r9 =>
 j100_1 d ag2 b3 n4 r6 (!r6) false false false (!r9)))) none) (
 kx100_0_0 b3)
noncomputable def l100_0 (d:Nat) (x1:t2) (kx100_0_0:Bool→Option Bool) (ag2:t5→Option Bool) (s:t5):Option Bool:=l100_0_b d x1 kx100_0_0 ag2 s.1 s.2
theorem e100 (d:Nat) (x1:t2):g100 (d+1) x1 =
 iterP (l100_0 d x1 (j100_0 d x1)) fuelN (false,0):=by kernel_rfl
theorem e57 (d:Nat) (x1:t2):g57 (d+1) x1 =
 obind (g98 d x1.1) fun r2 =>
 oif r2 (
 obind (g70 d ((x1.2.1.length:Nat):Int) 1 24) fun r3 =>
 oif r3 (
 obind (g99 d x1) fun r4 =>
 oif r4 (
 obind (g100 d x1) fun r5 =>
 oif r5 (
 oif ((x1.2.2.2:Int)==0) (
 some true) (
 obind (g101 d x1 x1.2.2.2) fun r6 =>
 some r6)) (
 some false)) (
 some false)) (
 some false)) (
 some false):=by kernel_rfl
noncomputable def j117_0 (d:Nat) (b4:Bool):Option Bool :=
 some true
noncomputable def l117_0_b (d:Nat) (l1:List Int) (l2:List Int) (kx117_0_0:Bool→Option Bool) (ag3:t5→Option Bool) (b4:Bool) (n5:Int):Option Bool :=
 oif (decide ((n5:Int) < ((l1.length:Nat):Int))) (
 oif (decide (0≤(n5:Int))) (
 obind (l1[(n5:Int).toNat]?) fun n6 =>
 oif (decide (0≤(n5:Int))) (
 obind (l2[(n5:Int).toNat]?) fun n7 =>
 oif ((n6:Int) != n7) (
 some false) (
 ag3 (b4,(IntKind.i64.wrap (n5+1))))) none) none) (
 kx117_0_0 b4)
noncomputable def l117_0 (d:Nat) (l1:List Int) (l2:List Int) (kx117_0_0:Bool→Option Bool) (ag3:t5→Option Bool) (s:t5):Option Bool:=l117_0_b d l1 l2 kx117_0_0 ag3 s.1 s.2
theorem e117 (d:Nat) (l1:List Int) (l2:List Int):g117 (d+1) l1 l2 =
 oif ((((l1.length:Nat):Int):Int) != ((l2.length:Nat):Int)) (
 some false) (
 iterP (l117_0 d l1 l2 (j117_0 d)) fuelN (false,0)):=by kernel_rfl
noncomputable def j82_0 (d:Nat) (x1:t1) (x2:t1) (b7:Bool):Option Bool :=
 obind (g117 d x1.2.2.1 x2.2.2.1) fun r8 =>
 oif r8 (
 obind (g117 d x1.2.2.2.1 x2.2.2.2.1) fun r9 =>
 oif r9 (
 obind (g117 d x1.2.2.2.2.1 x2.2.2.2.2.1) fun r10 =>
 oif r10 (
 obind (g117 d x1.2.2.2.2.2.1 x2.2.2.2.2.2.1) fun r11 =>
 oif r11 (
 obind (g117 d x1.2.2.2.2.2.2.2.1 x2.2.2.2.2.2.2.2.1) fun r12 =>
 some r12) (
 some false)) (
 some false)) (
 some false)) (
 some false)
noncomputable def l82_1_b (d:Nat) (x1:t1) (x2:t1) (kx82_1_0:Bool→Option Bool) (ag6:t5→Option Bool) (b7:Bool) (n8:Int):Option Bool :=
 oif (decide ((n8:Int) < ((x1.2.2.2.2.2.2.1.length:Nat):Int))) (
 oif (decide (0≤(n8:Int))) (
 obind (x1.2.2.2.2.2.2.1[(n8:Int).toNat]?) fun x9 =>
 oif (decide (0≤(n8:Int))) (
 obind (x2.2.2.2.2.2.2.1[(n8:Int).toNat]?) fun x10 =>
 oif (!(((x9.1:Int)==x10.1)&&(((x9.2.1:Int)==x10.2.1)&&(((x9.2.2.1:Int)==x10.2.2.1)&&(((x9.2.2.2.1:Int)==x10.2.2.2.1)&&(((x9.2.2.2.2:Int)==x10.2.2.2.2)&&true)))))) (
 some false) (
 ag6 (b7,(IntKind.i64.wrap (n8+1))))) none) none) (
 kx82_1_0 b7)
noncomputable def l82_1 (d:Nat) (x1:t1) (x2:t1) (kx82_1_0:Bool→Option Bool) (ag6:t5→Option Bool) (s:t5):Option Bool:=l82_1_b d x1 x2 kx82_1_0 ag6 s.1 s.2
noncomputable def j82_1 (d:Nat) (x1:t1) (x2:t1) (b5:Bool):Option Bool :=
 iterP (l82_1 d x1 x2 (j82_0 d x1 x2)) fuelN (b5,0)
noncomputable def l82_0_b (d:Nat) (x1:t1) (x2:t1) (kx82_0_0:Bool→Option Bool) (ag4:t5→Option Bool) (b5:Bool) (n6:Int):Option Bool :=
 oif (decide ((n6:Int) < ((x1.2.1.length:Nat):Int))) (
 oif (decide (0≤(n6:Int))) (
 obind (x1.2.1[(n6:Int).toNat]?) fun x7 =>
 oif (decide (0≤(n6:Int))) (
 obind (x2.2.1[(n6:Int).toNat]?) fun x8 =>
 oif (!(((x7.1:Int)==x8.1)&&(((x7.2.1:Int)==x8.2.1)&&(((x7.2.2.1:Int)==x8.2.2.1)&&(((x7.2.2.2.1:Int)==x8.2.2.2.1)&&(((x7.2.2.2.2.1:Int)==x8.2.2.2.2.1)&&(((x7.2.2.2.2.2.1:Int)==x8.2.2.2.2.2.1)&&(((x7.2.2.2.2.2.2.1:Int)==x8.2.2.2.2.2.2.1)&&(((x7.2.2.2.2.2.2.2:Int)==x8.2.2.2.2.2.2.2)&&true))))))))) (
 some false) (
 ag4 (b5,(IntKind.i64.wrap (n6+1))))) none) none) (
 kx82_0_0 b5)
noncomputable def l82_0 (d:Nat) (x1:t1) (x2:t1) (kx82_0_0:Bool→Option Bool) (ag4:t5→Option Bool) (s:t5):Option Bool:=l82_0_b d x1 x2 kx82_0_0 ag4 s.1 s.2
noncomputable def j82_2 (d:Nat) (x1:t1) (x2:t1) (b3:Bool):Option Bool :=
 oif b3 (
 some false) (
 iterP (l82_0 d x1 x2 (j82_1 d x1 x2)) fuelN (false,0))
theorem e82 (d:Nat) (x1:t1) (x2:t1):g82 (d+1) x1 x2 =
 oif (!((x1.1:ByteArray).toList==(x2.1:ByteArray).toList)) (
 j82_2 d x1 x2 true) (
 oif ((((x1.2.1.length:Nat):Int):Int) != ((x2.2.1.length:Nat):Int)) (
 j82_2 d x1 x2 true) (
 oif ((((x1.2.2.2.2.2.2.1.length:Nat):Int):Int) != ((x2.2.2.2.2.2.2.1.length:Nat):Int)) (
 j82_2 d x1 x2 true) (
 j82_2 d x1 x2 ((x1.2.2.2.2.2.2.2.2:Int) != x2.2.2.2.2.2.2.2.2)))):=by kernel_rfl
noncomputable def j118_0 (d:Nat) (l5:List Int):Option (List Int) :=
 some l5
noncomputable def l118_0_b (d:Nat) (x1:t2) (r3:List Int) (kx118_0_0:(List Int)→Option (List Int)) (ag4:((List Int)×Int)→Option (List Int)) (l5:List Int) (n6:Int):Option (List Int) :=
 oif (decide ((n6:Int) < ((r3.length:Nat):Int))) (
 oif (decide (0≤(n6:Int))) (
 oif (Nat.blt ((n6:Int).toNat) r3.length) (
 obind (r3[(n6:Int).toNat]?) fun n7 =>
 obind (g118 d x1 n7) fun r8 =>
 oif (Nat.ble ((l5.length+r8.length)*8) roomMax) (
 ag4 ((l5++r8),(IntKind.i64.wrap (n6+1)))) none) none) none) (
 kx118_0_0 l5)
noncomputable def l118_0 (d:Nat) (x1:t2) (r3:List Int) (kx118_0_0:(List Int)→Option (List Int)) (ag4:((List Int)×Int)→Option (List Int)) (s:((List Int)×Int)):Option (List Int):=l118_0_b d x1 r3 kx118_0_0 ag4 s.1 s.2
theorem e118 (d:Nat) (x1:t2) (n2:Int):g118 (d+1) x1 n2 =
 obind (g121 d x1 n2) fun r3 =>
 iterP (l118_0 d x1 r3 (j118_0 d)) fuelN ([n2],0):=by kernel_rfl
noncomputable def j119_0 (d:Nat) (n3:Int):Option Int :=
 some n3
noncomputable def l119_0_b (d:Nat) (x1:t2) (kx119_0_0:Int→Option Int) (ag2:Int→Option Int) (n3:Int):Option Int :=
 oif (decide (0≤(n3:Int))) (
 obind (x1.2.1[(n3:Int).toNat]?) fun x4 =>
 oif ((x4.2.1:Int) != 0) (
 ag2 (IntKind.i64.wrap (n3+1))) (
 kx119_0_0 n3)) none
noncomputable def l119_0 (d:Nat) (x1:t2) (kx119_0_0:Int→Option Int) (ag2:Int→Option Int) (s:Int):Option Int:=l119_0_b d x1 kx119_0_0 ag2 s
theorem e119 (d:Nat) (x1:t2):g119 (d+1) x1 =
 iterP (l119_0 d x1 (j119_0 d)) fuelN 0:=by kernel_rfl
noncomputable def j83_0 (d:Nat) (x1:t2) (l5:List Int) (s17:ByteArray) (n18:Int) (l19:List t0) (l20:List Int) (l21:List Int) (l22:List Int) (l23:List Int) (l24:List t3) (l25:List Int):Option t1 :=
 oif ((x1.2.2.2:Int) != 0) (
 obind (g120 d x1 x1.2.2.2) fun r26 =>
 oif (decide (0≤(r26:Int))) (
 oif (Nat.blt ((r26:Int).toNat) l5.length) (
 obind (l5[(r26:Int).toNat]?) fun n27 =>
 some (s17,l19,l20,l21,l22,l23,l24,l25,n27)) none) none) (
 some (s17,l19,l20,l21,l22,l23,l24,l25,n18))
noncomputable def l83_3_b (d:Nat) (x1:t2) (l5:List Int) (kx83_3_0:ByteArray→Int→(List t0)→(List Int)→(List Int)→(List Int)→(List Int)→(List t3)→(List Int)→Option t1) (ag16:(Int×t1)→Option t1) (n17:Int) (x18:t1):Option t1 :=
 oif (decide ((n17:Int) < ((x1.2.2.1.length:Nat):Int))) (
 oif (decide (0≤(n17:Int))) (
 obind (x1.2.2.1[(n17:Int).toNat]?) fun x19 =>
 obind (g120 d x1 x19.2.2.2.2) fun r20 =>
 oif (decide (0≤(r20:Int))) (
 oif (Nat.blt ((r20:Int).toNat) l5.length) (
 obind (l5[(r20:Int).toNat]?) fun n21 =>
 oif (Nat.ble ((x18.2.2.2.2.2.2.2.1.length+[n21].length)*8) roomMax) (
 ag16 ((IntKind.i64.wrap (n17+1)),(x18.1,x18.2.1,x18.2.2.1,x18.2.2.2.1,x18.2.2.2.2.1,x18.2.2.2.2.2.1,x18.2.2.2.2.2.2.1,(x18.2.2.2.2.2.2.2.1++[n21]),x18.2.2.2.2.2.2.2.2))) none) none) none) none) (
 kx83_3_0 x18.1 x18.2.2.2.2.2.2.2.2 x18.2.1 x18.2.2.1 x18.2.2.2.1 x18.2.2.2.2.1 x18.2.2.2.2.2.1 x18.2.2.2.2.2.2.1 x18.2.2.2.2.2.2.2.1)
noncomputable def l83_3 (d:Nat) (x1:t2) (l5:List Int) (kx83_3_0:ByteArray→Int→(List t0)→(List Int)→(List Int)→(List Int)→(List Int)→(List t3)→(List Int)→Option t1) (ag16:(Int×t1)→Option t1) (s:(Int×t1)):Option t1:=l83_3_b d x1 l5 kx83_3_0 ag16 s.1 s.2
noncomputable def j83_1 (d:Nat) (x1:t2) (l5:List Int) (s7:ByteArray) (n8:Int) (l9:List t0) (l10:List Int) (l11:List Int) (l12:List Int) (l13:List Int) (l14:List t3) (l15:List Int):Option t1 :=
 iterP (l83_3 d x1 l5 (j83_0 d x1 l5)) fuelN (0,(s7,l9,l10,l11,l12,l13,l14,l15,n8))
noncomputable def j83_2 (d:Nat) (x1:t2) (ag6:(Int×t1)→Option t1) (n7:Int) (x8:t1) (n9:Int) (x10:t0) (n13:Int) (n14:Int) (n17:Int) (b18:Bool):Option t1 :=
 oif (Nat.ble ((x8.2.2.1.length+[n13].length)*8) roomMax) (
 oif (Nat.ble ((x8.2.2.2.1.length+[n17].length)*8) roomMax) (
 oif (Nat.ble ((x8.2.2.2.2.1.length+[n14].length)*8) roomMax) (
 obind (g118 d x1 n9) fun r19 =>
 oif (Nat.ble ((x8.2.2.2.2.2.1.length+[(IntKind.i64.wrap (n7+((r19.length:Nat):Int)))].length)*8) roomMax) (
 ag6 ((IntKind.i64.wrap (n7+1)),(x8.1,(x8.2.1++[x10]),(x8.2.2.1++[n13]),(x8.2.2.2.1++[n17]),(x8.2.2.2.2.1++[n14]),(x8.2.2.2.2.2.1++[(IntKind.i64.wrap (n7+((r19.length:Nat):Int)))]),x8.2.2.2.2.2.2))) none) none) none) none
noncomputable def j83_3 (d:Nat) (x1:t2) (l5:List Int) (ag6:(Int×t1)→Option t1) (n7:Int) (x8:t1) (n9:Int) (x10:t0) (n13:Int) (n14:Int) (b15:Bool):Option t1 :=
 obind (g121 d x1 n9) fun r16 =>
 oif (decide ((((r16.length:Nat):Int):Int) > 0)) (
 oif (Nat.blt 0 r16.length) (
 obind (r16[0]?) fun n17 =>
 oif (decide (0≤(n17:Int))) (
 oif (Nat.blt ((n17:Int).toNat) l5.length) (
 obind (l5[(n17:Int).toNat]?) fun n18 =>
 j83_2 d x1 ag6 n7 x8 n9 x10 n13 n14 n18 true) none) none) none) (
 j83_2 d x1 ag6 n7 x8 n9 x10 n13 n14 (-1) false)
noncomputable def j83_4 (d:Nat) (x1:t2) (l5:List Int) (ag6:(Int×t1)→Option t1) (n7:Int) (x8:t1) (n9:Int) (x10:t0) (n13:Int) (n16:Int) (n17:Int):Option t1 :=
 j83_3 d x1 l5 ag6 n7 x8 n9 x10 n13 n16 true
noncomputable def j83_5 (d:Nat) (l5:List Int) (r14:List Int) (ag15:t6→Option t1) (n16:Int) (n17:Int) (b19:Bool) (b20:Bool):Option t1 :=
 oif b20 (
 oif (decide (0≤((IntKind.i64.wrap (n17+1)):Int))) (
 oif (Nat.blt (((IntKind.i64.wrap (n17+1)):Int).toNat) r14.length) (
 obind (r14[((IntKind.i64.wrap (n17+1)):Int).toNat]?) fun n21 =>
 oif (decide (0≤(n21:Int))) (
 oif (Nat.blt ((n21:Int).toNat) l5.length) (
 obind (l5[(n21:Int).toNat]?) fun n22 =>
 ag15 (n22,(IntKind.i64.wrap (n17+1)))) none) none) none) none) (
 ag15 (n16,(IntKind.i64.wrap (n17+1))))
noncomputable def l83_2_b (d:Nat) (l5:List Int) (n9:Int) (r14:List Int) (kx83_2_0:Int→Int→Option t1) (ag15:t6→Option t1) (n16:Int) (n17:Int):Option t1 :=
 oif (decide ((n17:Int) < ((r14.length:Nat):Int))) (
 oif (decide (0≤(n17:Int))) (
 oif (Nat.blt ((n17:Int).toNat) r14.length) (
 obind (r14[(n17:Int).toNat]?) fun n18 =>
 oif ((n18:Int)==n9) (
 j83_5 d l5 r14 ag15 n16 n17 true (decide (((IntKind.i64.wrap (n17+1)):Int) < ((r14.length:Nat):Int)))) (
 j83_5 d l5 r14 ag15 n16 n17 false false)) none) none) (
 kx83_2_0 n16 n17)
noncomputable def l83_2 (d:Nat) (l5:List Int) (n9:Int) (r14:List Int) (kx83_2_0:Int→Int→Option t1) (ag15:t6→Option t1) (s:t6):Option t1:=l83_2_b d l5 n9 r14 kx83_2_0 ag15 s.1 s.2
noncomputable def l83_1_b (d:Nat) (x1:t2) (r3:List Int) (l5:List Int) (kx83_1_0:ByteArray→Int→(List t0)→(List Int)→(List Int)→(List Int)→(List Int)→(List t3)→(List Int)→Option t1) (ag6:(Int×t1)→Option t1) (n7:Int) (x8:t1):Option t1 :=
 oif (decide ((n7:Int) < ((r3.length:Nat):Int))) (
 oif (decide (0≤(n7:Int))) (
 oif (Nat.blt ((n7:Int).toNat) r3.length) (
 obind (r3[(n7:Int).toNat]?) fun n9 =>
 oif (decide (0≤(n9:Int))) (
 obind (x1.2.1[(n9:Int).toNat]?) fun x10 =>
 oif (Nat.ble ((x8.2.1.length+[x10].length)*64) roomMax) (
 oif (decide (0≤(n9:Int))) (
 obind (x1.2.1[(n9:Int).toNat]?) fun x11 =>
 obind (g120 d x1 x11.2.1) fun r12 =>
 oif (decide ((r12:Int)≥0)) (
 oif (decide (0≤(r12:Int))) (
 oif (Nat.blt ((r12:Int).toNat) l5.length) (
 obind (l5[(r12:Int).toNat]?) fun n13 =>
 obind (g121 d x1 r12) fun r14 =>
 iterP (l83_2 d l5 n9 r14 (j83_4 d x1 l5 ag6 n7 x8 n9 x10 n13)) fuelN ((-1),0)) none) none) (
 j83_3 d x1 l5 ag6 n7 x8 n9 x10 (-1) (-1) false)) none) none) none) none) none) (
 kx83_1_0 x8.1 x8.2.2.2.2.2.2.2.2 x8.2.1 x8.2.2.1 x8.2.2.2.1 x8.2.2.2.2.1 x8.2.2.2.2.2.1 x8.2.2.2.2.2.2.1 x8.2.2.2.2.2.2.2.1)
noncomputable def l83_1 (d:Nat) (x1:t2) (r3:List Int) (l5:List Int) (kx83_1_0:ByteArray→Int→(List t0)→(List Int)→(List Int)→(List Int)→(List Int)→(List t3)→(List Int)→Option t1) (ag6:(Int×t1)→Option t1) (s:(Int×t1)):Option t1:=l83_1_b d x1 r3 l5 kx83_1_0 ag6 s.1 s.2
noncomputable def j83_6 (d:Nat) (x1:t2) (r3:List Int) (l5:List Int):Option t1 :=
 oif (Nat.ble ((([]:List t3).length+x1.2.2.1.length)*40) roomMax) (
 iterP (l83_1 d x1 r3 l5 (j83_1 d x1 l5)) fuelN (0,(x1.1,[],[],[],[],[],(([]:List t3)++x1.2.2.1),[],(-1)))) none
noncomputable def l83_0_b (d:Nat) (r3:List Int) (kx83_0_0:(List Int)→Option t1) (ag4:(Int×(List Int))→Option t1) (n5:Int) (l6:List Int):Option t1 :=
 oif (decide ((n5:Int) < ((r3.length:Nat):Int))) (
 oif (decide (0≤(n5:Int))) (
 oif (Nat.blt ((n5:Int).toNat) r3.length) (
 obind (r3[(n5:Int).toNat]?) fun n7 =>
 oif (decide (0≤(n7:Int))) (
 oif (Nat.blt ((n7:Int).toNat) l6.length) (
 obind (l6[(n7:Int).toNat]?) fun n8 =>
 ag4 ((IntKind.i64.wrap (n5+1)),(l6.set ((n7:Int).toNat) n5))) none) none) none) none) (
 kx83_0_0 l6)
noncomputable def l83_0 (d:Nat) (r3:List Int) (kx83_0_0:(List Int)→Option t1) (ag4:(Int×(List Int))→Option t1) (s:(Int×(List Int))):Option t1:=l83_0_b d r3 kx83_0_0 ag4 s.1 s.2
theorem e83 (d:Nat) (x1:t2):g83 (d+1) x1 =
 obind (g119 d x1) fun r2 =>
 obind (g118 d x1 r2) fun r3 =>
 oif (decide (0≤(((r3.length:Nat):Int):Int))) (
 oif (decide (0≤(((r3.length:Nat):Int):Int))) (
 oif (Nat.ble ((((r3.length:Nat):Int):Int).toNat) ((((r3.length:Nat):Int):Int).toNat)&&Nat.ble (((((r3.length:Nat):Int):Int).toNat)*8) roomMax) (
 iterP (l83_0 d r3 (j83_6 d x1 r3)) fuelN (0,(List.replicate ((((r3.length:Nat):Int):Int).toNat) (0:Int)))) none) none) none:=by kernel_rfl
noncomputable def j45_0 (d:Nat) (x1:t1) (b2:Bool):Option Bool :=
 oif b2 (
 some false) (
 obind (g46 d x1) fun r3 =>
 obind (g57 d r3) fun r4 =>
 oif r4 (
 obind (g83 d r3) fun r5 =>
 obind (g82 d x1 r5) fun r6 =>
 some r6) (
 some false))
theorem e45 (d:Nat) (x1:t1):g45 (d+1) x1 =
 oif (decide ((((x1.2.1.length:Nat):Int):Int) > 24)) (
 j45_0 d x1 true) (
 j45_0 d x1 (decide ((((x1.2.2.2.2.2.2.1.length:Nat):Int):Int) > 16))):=by kernel_rfl
theorem e10 (d:Nat) (x1:t1):g10 (d+1) x1 =
 obind (g45 d x1) fun r2 =>
 oif (!r2) (
 some (((⟨#[]⟩:ByteArray),[],[],0),false)) (
 obind (g46 d x1) fun r3 =>
 some (r3,true)):=by kernel_rfl
noncomputable def j38_0 (d:Nat) (l3:List Int):Option (List Int) :=
 some l3
noncomputable def l38_0_b (d:Nat) (l1:List Int) (kx38_0_0:(List Int)→Option (List Int)) (ag2:(Int×(List Int))→Option (List Int)) (n3:Int) (l4:List Int):Option (List Int) :=
 oif (decide ((n3:Int) < ((l1.length:Nat):Int))) (
 oif (decide (0≤(n3:Int))) (
 obind (l1[(n3:Int).toNat]?) fun n5 =>
 oif (decide (0≤(n3:Int))) (
 oif (Nat.blt ((n3:Int).toNat) l4.length) (
 obind (l4[(n3:Int).toNat]?) fun n6 =>
 ag2 ((IntKind.i64.wrap (n3+1)),(l4.set ((n3:Int).toNat) n5))) none) none) none) (
 kx38_0_0 l4)
noncomputable def l38_0 (d:Nat) (l1:List Int) (kx38_0_0:(List Int)→Option (List Int)) (ag2:(Int×(List Int))→Option (List Int)) (s:(Int×(List Int))):Option (List Int):=l38_0_b d l1 kx38_0_0 ag2 s.1 s.2
theorem e38 (d:Nat) (l1:List Int):g38 (d+1) l1 =
 oif (decide (0≤(((l1.length:Nat):Int):Int))) (
 oif (decide (0≤(((l1.length:Nat):Int):Int))) (
 oif (Nat.ble ((((l1.length:Nat):Int):Int).toNat) ((((l1.length:Nat):Int):Int).toNat)&&Nat.ble (((((l1.length:Nat):Int):Int).toNat)*8) roomMax) (
 iterP (l38_0 d l1 (j38_0 d)) fuelN (0,(List.replicate ((((l1.length:Nat):Int):Int).toNat) (0:Int)))) none) none) none:=by kernel_rfl
theorem e85 (d:Nat) (x1:t0):g85 (d+1) x1 =
 some x1:=by kernel_rfl
noncomputable def j47_0 (d:Nat) (l3:List t0):Option (List t0) :=
 some l3
noncomputable def l47_0_b (d:Nat) (l1:List t0) (kx47_0_0:(List t0)→Option (List t0)) (ag2:(Int×(List t0))→Option (List t0)) (n3:Int) (l4:List t0):Option (List t0) :=
 oif (decide ((n3:Int) < ((l1.length:Nat):Int))) (
 oif (decide (0≤(n3:Int))) (
 obind (l1[(n3:Int).toNat]?) fun x5 =>
 obind (g85 d x5) fun r6 =>
 oif (decide (0≤(n3:Int))) (
 oif (Nat.blt ((n3:Int).toNat) l4.length) (
 obind (l4[(n3:Int).toNat]?) fun x7 =>
 ag2 ((IntKind.i64.wrap (n3+1)),(l4.set ((n3:Int).toNat) r6))) none) none) none) (
 kx47_0_0 l4)
noncomputable def l47_0 (d:Nat) (l1:List t0) (kx47_0_0:(List t0)→Option (List t0)) (ag2:(Int×(List t0))→Option (List t0)) (s:(Int×(List t0))):Option (List t0):=l47_0_b d l1 kx47_0_0 ag2 s.1 s.2
theorem e47 (d:Nat) (l1:List t0):g47 (d+1) l1 =
 oif (decide (0≤(((l1.length:Nat):Int):Int))) (
 oif (decide (0≤(((l1.length:Nat):Int):Int))) (
 oif (Nat.ble ((((l1.length:Nat):Int):Int).toNat) ((((l1.length:Nat):Int):Int).toNat)&&Nat.ble (((((l1.length:Nat):Int):Int).toNat)*64) roomMax) (
 iterP (l47_0 d l1 (j47_0 d)) fuelN (0,(List.replicate ((((l1.length:Nat):Int):Int).toNat) ((0,0,0,0,0,0,0,0):t0)))) none) none) none:=by kernel_rfl
theorem e86 (d:Nat) (x1:t3):g86 (d+1) x1 =
 some x1:=by kernel_rfl
noncomputable def j48_0 (d:Nat) (l3:List t3):Option (List t3) :=
 some l3
noncomputable def l48_0_b (d:Nat) (l1:List t3) (kx48_0_0:(List t3)→Option (List t3)) (ag2:(Int×(List t3))→Option (List t3)) (n3:Int) (l4:List t3):Option (List t3) :=
 oif (decide ((n3:Int) < ((l1.length:Nat):Int))) (
 oif (decide (0≤(n3:Int))) (
 obind (l1[(n3:Int).toNat]?) fun x5 =>
 obind (g86 d x5) fun r6 =>
 oif (decide (0≤(n3:Int))) (
 oif (Nat.blt ((n3:Int).toNat) l4.length) (
 obind (l4[(n3:Int).toNat]?) fun x7 =>
 ag2 ((IntKind.i64.wrap (n3+1)),(l4.set ((n3:Int).toNat) r6))) none) none) none) (
 kx48_0_0 l4)
noncomputable def l48_0 (d:Nat) (l1:List t3) (kx48_0_0:(List t3)→Option (List t3)) (ag2:(Int×(List t3))→Option (List t3)) (s:(Int×(List t3))):Option (List t3):=l48_0_b d l1 kx48_0_0 ag2 s.1 s.2
theorem e48 (d:Nat) (l1:List t3):g48 (d+1) l1 =
 oif (decide (0≤(((l1.length:Nat):Int):Int))) (
 oif (decide (0≤(((l1.length:Nat):Int):Int))) (
 oif (Nat.ble ((((l1.length:Nat):Int):Int).toNat) ((((l1.length:Nat):Int):Int).toNat)&&Nat.ble (((((l1.length:Nat):Int):Int).toNat)*40) roomMax) (
 iterP (l48_0 d l1 (j48_0 d)) fuelN (0,(List.replicate ((((l1.length:Nat):Int):Int).toNat) ((0,0,0,0,0):t3)))) none) none) none:=by kernel_rfl
theorem e11 (d:Nat) (x1:t1):g11 (d+1) x1 =
 obind (g47 d x1.2.1) fun r2 =>
 obind (g38 d x1.2.2.1) fun r3 =>
 obind (g38 d x1.2.2.2.1) fun r4 =>
 obind (g38 d x1.2.2.2.2.1) fun r5 =>
 obind (g38 d x1.2.2.2.2.2.1) fun r6 =>
 obind (g48 d x1.2.2.2.2.2.2.1) fun r7 =>
 obind (g38 d x1.2.2.2.2.2.2.2.1) fun r8 =>
 some (x1.1,r2,r3,r4,r5,r6,r7,r8,x1.2.2.2.2.2.2.2.2):=by kernel_rfl
theorem e91 (d:Nat) (l1:List t0):g91 (d+1) l1 =
 nilB l1.length (
 some []) (
 oif (Nat.ble ((([]:List t0).length+l1.length)*64) roomMax) (
 some (([]:List t0)++l1)) none):=by kernel_rfl
theorem e92 (d:Nat) (l1:List t3):g92 (d+1) l1 =
 nilB l1.length (
 some []) (
 oif (Nat.ble ((([]:List t3).length+l1.length)*40) roomMax) (
 some (([]:List t3)++l1)) none):=by kernel_rfl
theorem e95 (d:Nat) (n1:Int) (n2:Int):g95 (d+1) n1 n2 =
 oif (decide ((n1:Int) < n2)) (
 some (-1)) (
 oif (decide ((n1:Int) > n2)) (
 some 1) (
 some 0)):=by kernel_rfl
noncomputable def j154_0 (d:Nat) (l6:List t0):Option (List t0) :=
 some l6
noncomputable def j154_1 (d:Nat) (ag5:(Int×(List t0))→Option (List t0)) (n6:Int) (n9:Int) (n10:Int) (b11:Bool) (b12:Bool) (l13:List t0):Option (List t0) :=
 ag5 ((IntKind.i64.wrap (n6+1)),l13)
noncomputable def j154_2 (d:Nat) (kx154_1_0:Int→Int→Bool→Bool→(List t0)→Option (List t0)) (n2:Int) (ag8:(Int×(List t0))→Option (List t0)) (n9:Int) (l10:List t0) (b11:Bool) (b12:Bool):Option (List t0) :=
 oif b12 (
 oif (decide (0≤((IntKind.i64.wrap (n9 - 1)):Int))) (
 oif (Nat.blt (((IntKind.i64.wrap (n9 - 1)):Int).toNat) l10.length) (
 obind (l10[((IntKind.i64.wrap (n9 - 1)):Int).toNat]?) fun x13 =>
 oif (decide (0≤(n9:Int))) (
 oif (Nat.blt ((n9:Int).toNat) l10.length) (
 obind (l10[(n9:Int).toNat]?) fun x14 =>
 oif (decide (0≤(n9:Int))) (
 oif (Nat.blt ((n9:Int).toNat) l10.length) (
 obind (l10[(n9:Int).toNat]?) fun x15 =>
 oif (decide (0≤((IntKind.i64.wrap (n9 - 1)):Int))) (
 oif (Nat.blt (((IntKind.i64.wrap (n9 - 1)):Int).toNat) ((l10.set ((n9:Int).toNat) x13).length)) (
 obind ((l10.set ((n9:Int).toNat) x13)[((IntKind.i64.wrap (n9 - 1)):Int).toNat]?) fun x16 =>
 ag8 ((IntKind.i64.wrap (n9 - 1)),((l10.set ((n9:Int).toNat) x13).set (((IntKind.i64.wrap (n9 - 1)):Int).toNat) x14))) none) none) none) none) none) none) none) none) (
 kx154_1_0 n9 n9 (decide ((n9:Int) > n2)) b11 l10)
noncomputable def l154_1_b (d:Nat) (n2:Int) (kx154_1_0:Int→Int→Bool→Bool→(List t0)→Option (List t0)) (ag8:(Int×(List t0))→Option (List t0)) (n9:Int) (l10:List t0):Option (List t0) :=
 oif (decide ((n9:Int) > n2)) (
 oif (decide (0≤(n9:Int))) (
 oif (Nat.blt ((n9:Int).toNat) l10.length) (
 obind (l10[(n9:Int).toNat]?) fun x11 =>
 oif (decide (0≤((IntKind.i64.wrap (n9 - 1)):Int))) (
 oif (Nat.blt (((IntKind.i64.wrap (n9 - 1)):Int).toNat) l10.length) (
 obind (l10[((IntKind.i64.wrap (n9 - 1)):Int).toNat]?) fun x12 =>
 obind (g95 d x11.1 x12.1) fun r13 =>
 j154_2 d kx154_1_0 n2 ag8 n9 l10 true (decide ((r13:Int) < 0))) none) none) none) none) (
 j154_2 d kx154_1_0 n2 ag8 n9 l10 false false)
noncomputable def l154_1 (d:Nat) (n2:Int) (kx154_1_0:Int→Int→Bool→Bool→(List t0)→Option (List t0)) (ag8:(Int×(List t0))→Option (List t0)) (s:(Int×(List t0))):Option (List t0):=l154_1_b d n2 kx154_1_0 ag8 s.1 s.2
noncomputable def l154_0_b (d:Nat) (n2:Int) (n3:Int) (kx154_0_0:(List t0)→Option (List t0)) (ag5:(Int×(List t0))→Option (List t0)) (n6:Int) (l7:List t0):Option (List t0) :=
 oif (decide ((n6:Int) < n3)) (
 iterP (l154_1 d n2 (j154_1 d ag5 n6)) fuelN (n6,l7)) (
 kx154_0_0 l7)
noncomputable def l154_0 (d:Nat) (n2:Int) (n3:Int) (kx154_0_0:(List t0)→Option (List t0)) (ag5:(Int×(List t0))→Option (List t0)) (s:(Int×(List t0))):Option (List t0):=l154_0_b d n2 n3 kx154_0_0 ag5 s.1 s.2
theorem e154 (d:Nat) (l1:List t0) (n2:Int) (n3:Int) (b4:Bool):g154 (d+2) l1 n2 n3 b4 =
 iterP (l154_0 d n2 n3 (j154_0 d)) fuelN ((IntKind.i64.wrap (n2+1)),l1):=by kernel_rfl
noncomputable def j190_0 (d:Nat) (l7:List t0):Option (List t0) :=
 some l7
noncomputable def l190_0_b (d:Nat) (n2:Int) (n3:Int) (n4:Int) (kx190_0_0:(List t0)→Option (List t0)) (ag6:(Int×(List t0))→Option (List t0)) (n7:Int) (l8:List t0):Option (List t0) :=
 oif (decide ((n7:Int) < n4)) (
 oif (decide (0≤((IntKind.i64.wrap (n3+n7)):Int))) (
 oif (Nat.blt (((IntKind.i64.wrap (n3+n7)):Int).toNat) l8.length) (
 obind (l8[((IntKind.i64.wrap (n3+n7)):Int).toNat]?) fun x9 =>
 oif (decide (0≤((IntKind.i64.wrap (n2+n7)):Int))) (
 oif (Nat.blt (((IntKind.i64.wrap (n2+n7)):Int).toNat) l8.length) (
 obind (l8[((IntKind.i64.wrap (n2+n7)):Int).toNat]?) fun x10 =>
 oif (decide (0≤((IntKind.i64.wrap (n2+n7)):Int))) (
 oif (Nat.blt (((IntKind.i64.wrap (n2+n7)):Int).toNat) l8.length) (
 obind (l8[((IntKind.i64.wrap (n2+n7)):Int).toNat]?) fun x11 =>
 oif (decide (0≤((IntKind.i64.wrap (n3+n7)):Int))) (
 oif (Nat.blt (((IntKind.i64.wrap (n3+n7)):Int).toNat) ((l8.set (((IntKind.i64.wrap (n2+n7)):Int).toNat) x9).length)) (
 obind ((l8.set (((IntKind.i64.wrap (n2+n7)):Int).toNat) x9)[((IntKind.i64.wrap (n3+n7)):Int).toNat]?) fun x12 =>
 ag6 ((IntKind.i64.wrap (n7+1)),((l8.set (((IntKind.i64.wrap (n2+n7)):Int).toNat) x9).set (((IntKind.i64.wrap (n3+n7)):Int).toNat) x10))) none) none) none) none) none) none) none) none) (
 kx190_0_0 l8)
noncomputable def l190_0 (d:Nat) (n2:Int) (n3:Int) (n4:Int) (kx190_0_0:(List t0)→Option (List t0)) (ag6:(Int×(List t0))→Option (List t0)) (s:(Int×(List t0))):Option (List t0):=l190_0_b d n2 n3 n4 kx190_0_0 ag6 s.1 s.2
theorem e190 (d:Nat) (l1:List t0) (n2:Int) (n3:Int) (n4:Int) (b5:Bool):g190 (d+1) l1 n2 n3 n4 b5 =
 iterP (l190_0 d n2 n3 n4 (j190_0 d)) fuelN (0,l1):=by kernel_rfl
noncomputable def j179_0 (d:Nat) (n3:Int) (n7:Int) (l8:List t0):Option (List t0) :=
 obind (g190 d l8 (IntKind.i64.wrap (n3 - n7)) n3 n7 false) fun r9 =>
 some r9
noncomputable def l179_0_b (d:Nat) (n3:Int) (kx179_0_0:Int→(List t0)→Option (List t0)) (ag6:(Int×Int×(List t0))→Option (List t0)) (n7:Int) (n8:Int) (l9:List t0):Option (List t0) :=
 oif ((n7:Int) != n8) (
 oif (decide ((n7:Int) > n8)) (
 obind (g190 d l9 (IntKind.i64.wrap (n3 - n7)) n3 n8 false) fun r10 =>
 ag6 ((IntKind.i64.wrap (n7 - n8)),n8,r10)) (
 obind (g190 d l9 (IntKind.i64.wrap (n3 - n7)) (IntKind.i64.wrap ((IntKind.i64.wrap (n3+n8)) - n7)) n7 false) fun r11 =>
 ag6 (n7,(IntKind.i64.wrap (n8 - n7)),r11))) (
 kx179_0_0 n7 l9)
noncomputable def l179_0 (d:Nat) (n3:Int) (kx179_0_0:Int→(List t0)→Option (List t0)) (ag6:(Int×Int×(List t0))→Option (List t0)) (s:(Int×Int×(List t0))):Option (List t0):=l179_0_b d n3 kx179_0_0 ag6 s.1 s.2.1 s.2.2
theorem e179 (d:Nat) (l1:List t0) (n2:Int) (n3:Int) (n4:Int) (b5:Bool):g179 (d+1) l1 n2 n3 n4 b5 =
 iterP (l179_0 d n3 (j179_0 d n3)) fuelN ((IntKind.i64.wrap (n3 - n2)),(IntKind.i64.wrap (n4 - n3)),l1):=by kernel_rfl
noncomputable def j155_0 (d:Nat) (l9:List t0):Option (List t0) :=
 some l9
noncomputable def l155_1_b (d:Nat) (n7:Int) (kx155_1_0:(List t0)→Option (List t0)) (ag8:(Int×(List t0))→Option (List t0)) (n9:Int) (l10:List t0):Option (List t0) :=
 oif (decide ((n9:Int) < (IntKind.i64.wrap (n7 - 1)))) (
 oif (decide (0≤((IntKind.i64.wrap (n9+1)):Int))) (
 oif (Nat.blt (((IntKind.i64.wrap (n9+1)):Int).toNat) l10.length) (
 obind (l10[((IntKind.i64.wrap (n9+1)):Int).toNat]?) fun x11 =>
 oif (decide (0≤(n9:Int))) (
 oif (Nat.blt ((n9:Int).toNat) l10.length) (
 obind (l10[(n9:Int).toNat]?) fun x12 =>
 oif (decide (0≤(n9:Int))) (
 oif (Nat.blt ((n9:Int).toNat) l10.length) (
 obind (l10[(n9:Int).toNat]?) fun x13 =>
 oif (decide (0≤((IntKind.i64.wrap (n9+1)):Int))) (
 oif (Nat.blt (((IntKind.i64.wrap (n9+1)):Int).toNat) ((l10.set ((n9:Int).toNat) x11).length)) (
 obind ((l10.set ((n9:Int).toNat) x11)[((IntKind.i64.wrap (n9+1)):Int).toNat]?) fun x14 =>
 ag8 ((IntKind.i64.wrap (n9+1)),((l10.set ((n9:Int).toNat) x11).set (((IntKind.i64.wrap (n9+1)):Int).toNat) x12))) none) none) none) none) none) none) none) none) (
 kx155_1_0 l10)
noncomputable def l155_1 (d:Nat) (n7:Int) (kx155_1_0:(List t0)→Option (List t0)) (ag8:(Int×(List t0))→Option (List t0)) (s:(Int×(List t0))):Option (List t0):=l155_1_b d n7 kx155_1_0 ag8 s.1 s.2
noncomputable def j155_1 (d:Nat) (l1:List t0) (n2:Int) (n7:Int):Option (List t0) :=
 iterP (l155_1 d n7 (j155_0 d)) fuelN (n2,l1)
noncomputable def l155_0_b (d:Nat) (l1:List t0) (n2:Int) (kx155_0_0:Int→Option (List t0)) (ag6:t6→Option (List t0)) (n7:Int) (n8:Int):Option (List t0) :=
 oif (decide ((n7:Int) < n8)) (
 oif (decide (0≤((IntKind.i64.wrap ((IntKind.u64.wrap (IntKind.i64.wrap (n7+n8))).fdiv (2 ^ (min (1:Int).toNat IntKind.u64.bits)))):Int))) (
 oif (Nat.blt (((IntKind.i64.wrap ((IntKind.u64.wrap (IntKind.i64.wrap (n7+n8))).fdiv (2 ^ (min (1:Int).toNat IntKind.u64.bits)))):Int).toNat) l1.length) (
 obind (l1[((IntKind.i64.wrap ((IntKind.u64.wrap (IntKind.i64.wrap (n7+n8))).fdiv (2 ^ (min (1:Int).toNat IntKind.u64.bits)))):Int).toNat]?) fun x9 =>
 oif (decide (0≤(n2:Int))) (
 oif (Nat.blt ((n2:Int).toNat) l1.length) (
 obind (l1[(n2:Int).toNat]?) fun x10 =>
 obind (g95 d x9.1 x10.1) fun r11 =>
 oif (decide ((r11:Int) < 0)) (
 ag6 ((IntKind.i64.wrap ((IntKind.i64.wrap ((IntKind.u64.wrap (IntKind.i64.wrap (n7+n8))).fdiv (2 ^ (min (1:Int).toNat IntKind.u64.bits))))+1)),n8)) (
 ag6 (n7,(IntKind.i64.wrap ((IntKind.u64.wrap (IntKind.i64.wrap (n7+n8))).fdiv (2 ^ (min (1:Int).toNat IntKind.u64.bits))))))) none) none) none) none) (
 kx155_0_0 n7)
noncomputable def l155_0 (d:Nat) (l1:List t0) (n2:Int) (kx155_0_0:Int→Option (List t0)) (ag6:t6→Option (List t0)) (s:t6):Option (List t0):=l155_0_b d l1 n2 kx155_0_0 ag6 s.1 s.2
noncomputable def j155_2 (d:Nat) (l18:List t0):Option (List t0) :=
 some l18
noncomputable def l155_3_b (d:Nat) (n16:Int) (kx155_3_0:(List t0)→Option (List t0)) (ag17:(Int×(List t0))→Option (List t0)) (n18:Int) (l19:List t0):Option (List t0) :=
 oif (decide ((n18:Int) > n16)) (
 oif (decide (0≤((IntKind.i64.wrap (n18 - 1)):Int))) (
 oif (Nat.blt (((IntKind.i64.wrap (n18 - 1)):Int).toNat) l19.length) (
 obind (l19[((IntKind.i64.wrap (n18 - 1)):Int).toNat]?) fun x20 =>
 oif (decide (0≤(n18:Int))) (
 oif (Nat.blt ((n18:Int).toNat) l19.length) (
 obind (l19[(n18:Int).toNat]?) fun x21 =>
 oif (decide (0≤(n18:Int))) (
 oif (Nat.blt ((n18:Int).toNat) l19.length) (
 obind (l19[(n18:Int).toNat]?) fun x22 =>
 oif (decide (0≤((IntKind.i64.wrap (n18 - 1)):Int))) (
 oif (Nat.blt (((IntKind.i64.wrap (n18 - 1)):Int).toNat) ((l19.set ((n18:Int).toNat) x20).length)) (
 obind ((l19.set ((n18:Int).toNat) x20)[((IntKind.i64.wrap (n18 - 1)):Int).toNat]?) fun x23 =>
 ag17 ((IntKind.i64.wrap (n18 - 1)),((l19.set ((n18:Int).toNat) x20).set (((IntKind.i64.wrap (n18 - 1)):Int).toNat) x21))) none) none) none) none) none) none) none) none) (
 kx155_3_0 l19)
noncomputable def l155_3 (d:Nat) (n16:Int) (kx155_3_0:(List t0)→Option (List t0)) (ag17:(Int×(List t0))→Option (List t0)) (s:(Int×(List t0))):Option (List t0):=l155_3_b d n16 kx155_3_0 ag17 s.1 s.2
noncomputable def j155_3 (d:Nat) (l1:List t0) (n3:Int) (n16:Int):Option (List t0) :=
 iterP (l155_3 d n16 (j155_2 d)) fuelN (n3,l1)
noncomputable def l155_2_b (d:Nat) (l1:List t0) (n3:Int) (kx155_2_0:Int→Option (List t0)) (ag15:t6→Option (List t0)) (n16:Int) (n17:Int):Option (List t0) :=
 oif (decide ((n16:Int) < n17)) (
 oif (decide (0≤(n3:Int))) (
 oif (Nat.blt ((n3:Int).toNat) l1.length) (
 obind (l1[(n3:Int).toNat]?) fun x18 =>
 oif (decide (0≤((IntKind.i64.wrap ((IntKind.u64.wrap (IntKind.i64.wrap (n16+n17))).fdiv (2 ^ (min (1:Int).toNat IntKind.u64.bits)))):Int))) (
 oif (Nat.blt (((IntKind.i64.wrap ((IntKind.u64.wrap (IntKind.i64.wrap (n16+n17))).fdiv (2 ^ (min (1:Int).toNat IntKind.u64.bits)))):Int).toNat) l1.length) (
 obind (l1[((IntKind.i64.wrap ((IntKind.u64.wrap (IntKind.i64.wrap (n16+n17))).fdiv (2 ^ (min (1:Int).toNat IntKind.u64.bits)))):Int).toNat]?) fun x19 =>
 obind (g95 d x18.1 x19.1) fun r20 =>
 oif (!(decide ((r20:Int) < 0))) (
 ag15 ((IntKind.i64.wrap ((IntKind.i64.wrap ((IntKind.u64.wrap (IntKind.i64.wrap (n16+n17))).fdiv (2 ^ (min (1:Int).toNat IntKind.u64.bits))))+1)),n17)) (
 ag15 (n16,(IntKind.i64.wrap ((IntKind.u64.wrap (IntKind.i64.wrap (n16+n17))).fdiv (2 ^ (min (1:Int).toNat IntKind.u64.bits))))))) none) none) none) none) (
 kx155_2_0 n16)
noncomputable def l155_2 (d:Nat) (l1:List t0) (n3:Int) (kx155_2_0:Int→Option (List t0)) (ag15:t6→Option (List t0)) (s:t6):Option (List t0):=l155_2_b d l1 n3 kx155_2_0 ag15 s.1 s.2
noncomputable def j155_4 (d:Nat) (n2:Int) (n3:Int) (n4:Int) (n27:Int) (l31:List t0) (b32:Bool):Option (List t0) :=
 oif b32 (
 obind (g155 (d+1) l31 (IntKind.i64.wrap ((IntKind.u64.wrap (IntKind.i64.wrap (n2+n4))).fdiv (2 ^ (min (1:Int).toNat IntKind.u64.bits)))) (IntKind.i64.wrap ((IntKind.i64.wrap ((IntKind.i64.wrap ((IntKind.u64.wrap (IntKind.i64.wrap (n2+n4))).fdiv (2 ^ (min (1:Int).toNat IntKind.u64.bits))))+n3)) - n27)) n4 false) fun r33 =>
 some r33) (
 some l31)
noncomputable def j155_5 (d:Nat) (n2:Int) (n3:Int) (n4:Int) (n27:Int) (l31:List t0):Option (List t0) :=
 oif (decide (((IntKind.i64.wrap ((IntKind.u64.wrap (IntKind.i64.wrap (n2+n4))).fdiv (2 ^ (min (1:Int).toNat IntKind.u64.bits)))):Int) < (IntKind.i64.wrap ((IntKind.i64.wrap ((IntKind.i64.wrap ((IntKind.u64.wrap (IntKind.i64.wrap (n2+n4))).fdiv (2 ^ (min (1:Int).toNat IntKind.u64.bits))))+n3)) - n27)))) (
 j155_4 d n2 n3 n4 n27 l31 (decide (((IntKind.i64.wrap ((IntKind.i64.wrap ((IntKind.i64.wrap ((IntKind.u64.wrap (IntKind.i64.wrap (n2+n4))).fdiv (2 ^ (min (1:Int).toNat IntKind.u64.bits))))+n3)) - n27)):Int) < n4))) (
 j155_4 d n2 n3 n4 n27 l31 false)
noncomputable def j155_6 (d:Nat) (n2:Int) (n3:Int) (n4:Int) (n27:Int) (l29:List t0) (b30:Bool):Option (List t0) :=
 oif b30 (
 obind (g155 (d+1) l29 n2 n27 (IntKind.i64.wrap ((IntKind.u64.wrap (IntKind.i64.wrap (n2+n4))).fdiv (2 ^ (min (1:Int).toNat IntKind.u64.bits)))) false) fun r31 =>
 j155_5 d n2 n3 n4 n27 r31) (
 j155_5 d n2 n3 n4 n27 l29)
noncomputable def j155_7 (d:Nat) (n2:Int) (n3:Int) (n4:Int) (n27:Int) (l29:List t0):Option (List t0) :=
 oif (decide ((n2:Int) < n27)) (
 j155_6 d n2 n3 n4 n27 l29 (decide ((n27:Int) < (IntKind.i64.wrap ((IntKind.u64.wrap (IntKind.i64.wrap (n2+n4))).fdiv (2 ^ (min (1:Int).toNat IntKind.u64.bits))))))) (
 j155_6 d n2 n3 n4 n27 l29 false)
noncomputable def j155_8 (d:Nat) (l1:List t0) (n2:Int) (n3:Int) (n4:Int) (n27:Int) (b28:Bool):Option (List t0) :=
 oif b28 (
 obind (g179 (d+1) l1 n27 n3 (IntKind.i64.wrap ((IntKind.i64.wrap ((IntKind.i64.wrap ((IntKind.u64.wrap (IntKind.i64.wrap (n2+n4))).fdiv (2 ^ (min (1:Int).toNat IntKind.u64.bits))))+n3)) - n27)) false) fun r29 =>
 j155_7 d n2 n3 n4 n27 r29) (
 j155_7 d n2 n3 n4 n27 l1)
noncomputable def j155_9 (d:Nat) (l1:List t0) (n2:Int) (n3:Int) (n4:Int) (n27:Int):Option (List t0) :=
 oif (decide ((n27:Int) < n3)) (
 j155_8 d l1 n2 n3 n4 n27 (decide ((n3:Int) < (IntKind.i64.wrap ((IntKind.i64.wrap ((IntKind.i64.wrap ((IntKind.u64.wrap (IntKind.i64.wrap (n2+n4))).fdiv (2 ^ (min (1:Int).toNat IntKind.u64.bits))))+n3)) - n27))))) (
 j155_8 d l1 n2 n3 n4 n27 false)
noncomputable def l155_4_b (d:Nat) (l1:List t0) (n2:Int) (n3:Int) (n4:Int) (kx155_4_0:Int→Option (List t0)) (ag26:t6→Option (List t0)) (n27:Int) (n28:Int):Option (List t0) :=
 oif (decide ((n27:Int) < n28)) (
 oif (decide (0≤((IntKind.i64.wrap ((IntKind.i64.wrap ((IntKind.i64.wrap ((IntKind.i64.wrap ((IntKind.u64.wrap (IntKind.i64.wrap (n2+n4))).fdiv (2 ^ (min (1:Int).toNat IntKind.u64.bits))))+n3)) - 1)) - (IntKind.i64.wrap ((IntKind.u64.wrap (IntKind.i64.wrap (n27+n28))).fdiv (2 ^ (min (1:Int).toNat IntKind.u64.bits)))))):Int))) (
 oif (Nat.blt (((IntKind.i64.wrap ((IntKind.i64.wrap ((IntKind.i64.wrap ((IntKind.i64.wrap ((IntKind.u64.wrap (IntKind.i64.wrap (n2+n4))).fdiv (2 ^ (min (1:Int).toNat IntKind.u64.bits))))+n3)) - 1)) - (IntKind.i64.wrap ((IntKind.u64.wrap (IntKind.i64.wrap (n27+n28))).fdiv (2 ^ (min (1:Int).toNat IntKind.u64.bits)))))):Int).toNat) l1.length) (
 obind (l1[((IntKind.i64.wrap ((IntKind.i64.wrap ((IntKind.i64.wrap ((IntKind.i64.wrap ((IntKind.u64.wrap (IntKind.i64.wrap (n2+n4))).fdiv (2 ^ (min (1:Int).toNat IntKind.u64.bits))))+n3)) - 1)) - (IntKind.i64.wrap ((IntKind.u64.wrap (IntKind.i64.wrap (n27+n28))).fdiv (2 ^ (min (1:Int).toNat IntKind.u64.bits)))))):Int).toNat]?) fun x29 =>
 oif (decide (0≤((IntKind.i64.wrap ((IntKind.u64.wrap (IntKind.i64.wrap (n27+n28))).fdiv (2 ^ (min (1:Int).toNat IntKind.u64.bits)))):Int))) (
 oif (Nat.blt (((IntKind.i64.wrap ((IntKind.u64.wrap (IntKind.i64.wrap (n27+n28))).fdiv (2 ^ (min (1:Int).toNat IntKind.u64.bits)))):Int).toNat) l1.length) (
 obind (l1[((IntKind.i64.wrap ((IntKind.u64.wrap (IntKind.i64.wrap (n27+n28))).fdiv (2 ^ (min (1:Int).toNat IntKind.u64.bits)))):Int).toNat]?) fun x30 =>
 obind (g95 d x29.1 x30.1) fun r31 =>
 oif (!(decide ((r31:Int) < 0))) (
 ag26 ((IntKind.i64.wrap ((IntKind.i64.wrap ((IntKind.u64.wrap (IntKind.i64.wrap (n27+n28))).fdiv (2 ^ (min (1:Int).toNat IntKind.u64.bits))))+1)),n28)) (
 ag26 (n27,(IntKind.i64.wrap ((IntKind.u64.wrap (IntKind.i64.wrap (n27+n28))).fdiv (2 ^ (min (1:Int).toNat IntKind.u64.bits))))))) none) none) none) none) (
 kx155_4_0 n27)
noncomputable def l155_4 (d:Nat) (l1:List t0) (n2:Int) (n3:Int) (n4:Int) (kx155_4_0:Int→Option (List t0)) (ag26:t6→Option (List t0)) (s:t6):Option (List t0):=l155_4_b d l1 n2 n3 n4 kx155_4_0 ag26 s.1 s.2
noncomputable def j155_10 (d:Nat) (l1:List t0) (n2:Int) (n3:Int) (n4:Int) (n24:Int) (n25:Int):Option (List t0) :=
 iterP (l155_4 d l1 n2 n3 n4 (j155_9 d l1 n2 n3 n4)) fuelN (n24,n25)
theorem e155 (d:Nat) (l1:List t0) (n2:Int) (n3:Int) (n4:Int) (b5:Bool):g155 (d+2) l1 n2 n3 n4 b5 =
 oif (((IntKind.i64.wrap (n3 - n2)):Int)==1) (
 iterP (l155_0 d l1 n2 (j155_1 d l1 n2)) fuelN (n3,n4)) (
 oif (((IntKind.i64.wrap (n4 - n3)):Int)==1) (
 iterP (l155_2 d l1 n3 (j155_3 d l1 n3)) fuelN (n2,n3)) (
 oif (decide ((n3:Int) > (IntKind.i64.wrap ((IntKind.u64.wrap (IntKind.i64.wrap (n2+n4))).fdiv (2 ^ (min (1:Int).toNat IntKind.u64.bits)))))) (
 j155_10 d l1 n2 n3 n4 (IntKind.i64.wrap ((IntKind.i64.wrap ((IntKind.i64.wrap ((IntKind.u64.wrap (IntKind.i64.wrap (n2+n4))).fdiv (2 ^ (min (1:Int).toNat IntKind.u64.bits))))+n3)) - n4)) (IntKind.i64.wrap ((IntKind.u64.wrap (IntKind.i64.wrap (n2+n4))).fdiv (2 ^ (min (1:Int).toNat IntKind.u64.bits))))) (
 j155_10 d l1 n2 n3 n4 n2 n3))):=by kernel_rfl
noncomputable def j125_0 (d:Nat) (l10:List t0):Option (List t0) :=
 some l10
noncomputable def j125_1 (d:Nat) (n2:Int) (ag9:(Int×Int×Int×(List t0))→Option (List t0)) (n10:Int) (n15:Int) (n16:Int) (n17:Int) (l18:List t0):Option (List t0) :=
 oif (decide (((IntKind.i64.wrap (n15+n10)):Int) < n2)) (
 obind (g155 d l18 n15 (IntKind.i64.wrap (n15+n10)) n2 false) fun r19 =>
 ag9 ((IntKind.i64.wrap (n10*2)),n15,n16,r19)) (
 ag9 ((IntKind.i64.wrap (n10*2)),n15,n16,l18))
noncomputable def l125_2_b (d:Nat) (n2:Int) (n10:Int) (kx125_2_0:Int→Int→Int→(List t0)→Option (List t0)) (ag14:(Int×Int×(List t0))→Option (List t0)) (n15:Int) (n16:Int) (l17:List t0):Option (List t0) :=
 oif (decide ((n16:Int)≤n2)) (
 obind (g155 d l17 n15 (IntKind.i64.wrap (n15+n10)) n16 false) fun r18 =>
 ag14 (n16,(IntKind.i64.wrap (n16+(IntKind.i64.wrap ((2:Int)*n10)))),r18)) (
 kx125_2_0 n15 n16 n16 l17)
noncomputable def l125_2 (d:Nat) (n2:Int) (n10:Int) (kx125_2_0:Int→Int→Int→(List t0)→Option (List t0)) (ag14:(Int×Int×(List t0))→Option (List t0)) (s:(Int×Int×(List t0))):Option (List t0):=l125_2_b d n2 n10 kx125_2_0 ag14 s.1 s.2.1 s.2.2
noncomputable def l125_1_b (d:Nat) (n2:Int) (kx125_1_0:(List t0)→Option (List t0)) (ag9:(Int×Int×Int×(List t0))→Option (List t0)) (n10:Int) (n11:Int) (n12:Int) (l13:List t0):Option (List t0) :=
 oif (decide ((n10:Int) < n2)) (
 iterP (l125_2 d n2 n10 (j125_1 d n2 ag9 n10)) fuelN (0,(IntKind.i64.wrap ((2:Int)*n10)),l13)) (
 kx125_1_0 l13)
noncomputable def l125_1 (d:Nat) (n2:Int) (kx125_1_0:(List t0)→Option (List t0)) (ag9:(Int×Int×Int×(List t0))→Option (List t0)) (s:(Int×Int×Int×(List t0))):Option (List t0):=l125_1_b d n2 kx125_1_0 ag9 s.1 s.2.1 s.2.2.1 s.2.2.2
noncomputable def j125_2 (d:Nat) (n2:Int) (n5:Int) (n6:Int) (l7:List t0):Option (List t0) :=
 obind (g154 d l7 n5 n2 false) fun r8 =>
 iterP (l125_1 d n2 (j125_0 d)) fuelN (20,n5,n6,r8)
noncomputable def l125_0_b (d:Nat) (n2:Int) (kx125_0_0:Int→Int→(List t0)→Option (List t0)) (ag4:(Int×Int×(List t0))→Option (List t0)) (n5:Int) (n6:Int) (l7:List t0):Option (List t0) :=
 oif (decide ((n6:Int)≤n2)) (
 obind (g154 d l7 n5 n6 false) fun r8 =>
 ag4 (n6,(IntKind.i64.wrap (n6+20)),r8)) (
 kx125_0_0 n5 n6 l7)
noncomputable def l125_0 (d:Nat) (n2:Int) (kx125_0_0:Int→Int→(List t0)→Option (List t0)) (ag4:(Int×Int×(List t0))→Option (List t0)) (s:(Int×Int×(List t0))):Option (List t0):=l125_0_b d n2 kx125_0_0 ag4 s.1 s.2.1 s.2.2
theorem e125 (d:Nat) (l1:List t0) (n2:Int) (b3:Bool):g125 (d+1) l1 n2 b3 =
 iterP (l125_0 d n2 (j125_2 d n2)) fuelN (0,20,l1):=by kernel_rfl
theorem e93 (d:Nat) (l1:List t0) (b2:Bool):g93 (d+1) l1 b2 =
 obind (g125 d l1 ((l1.length:Nat):Int) false) fun r3 =>
 some r3:=by kernel_rfl
noncomputable def j50_0 (d:Nat) (x1:t1) (r2:List t0) (r3:List t3) (b4:Bool):Option t2 :=
 oif b4 (
 oif (decide (0≤(x1.2.2.2.2.2.2.2.2:Int))) (
 obind (x1.2.1[(x1.2.2.2.2.2.2.2.2:Int).toNat]?) fun x5 =>
 obind (g93 d r2 false) fun r6 =>
 some (x1.1,r6,r3,x5.1)) none) (
 obind (g93 d r2 false) fun r7 =>
 some (x1.1,r7,r3,0))
theorem e50 (d:Nat) (x1:t1):g50 (d+1) x1 =
 obind (g91 d x1.2.1) fun r2 =>
 obind (g92 d x1.2.2.2.2.2.2.1) fun r3 =>
 oif (decide ((x1.2.2.2.2.2.2.2.2:Int)≥0)) (
 j50_0 d x1 r2 r3 (decide ((x1.2.2.2.2.2.2.2.2:Int) < ((x1.2.1.length:Nat):Int)))) (
 j50_0 d x1 r2 r3 false):=by kernel_rfl
theorem e158 (d:Nat) (n1:Int):g158 (d+1) n1 =
 oif (decide ((n1:Int)≥97)) (
 some (decide ((n1:Int)≤122))) (
 some false):=by kernel_rfl
noncomputable def j159_0 (d:Nat) (b3:Bool):Option Bool :=
 some false
noncomputable def l159_0_b (d:Nat) (s1:ByteArray) (kx159_0_0:Bool→Option Bool) (ag2:t5→Option Bool) (b3:Bool) (n4:Int):Option Bool :=
 oif (decide ((n4:Int) < 14)) (
 oif (decide (0≤(n4:Int))) (
 obind (([(⟨#[113,100,105,115,99]⟩:ByteArray),(⟨#[100,101,102,97,117,108,116]⟩:ByteArray),(⟨#[99,108,97,115,115]⟩:ByteArray),(⟨#[114,97,116,101]⟩:ByteArray),(⟨#[99,101,105,108]⟩:ByteArray),(⟨#[98,117,114,115,116]⟩:ByteArray),(⟨#[99,98,117,114,115,116]⟩:ByteArray),(⟨#[112,114,105,111]⟩:ByteArray),(⟨#[108,105,109,105,116]⟩:ByteArray),(⟨#[102,105,108,116,101,114]⟩:ByteArray),(⟨#[115,111,117,114,99,101]⟩:ByteArray),(⟨#[100,101,115,116]⟩:ByteArray),(⟨#[112,111,114,116]⟩:ByteArray),(⟨#[109,97,114,107]⟩:ByteArray)]:List ByteArray)[(n4:Int).toNat]?) fun s5 =>
 oif ((s5:ByteArray).toList==(s1:ByteArray).toList) (
 some true) (
 ag2 (b3,(IntKind.i64.wrap (n4+1))))) none) (
 kx159_0_0 b3)
noncomputable def l159_0 (d:Nat) (s1:ByteArray) (kx159_0_0:Bool→Option Bool) (ag2:t5→Option Bool) (s:t5):Option Bool:=l159_0_b d s1 kx159_0_0 ag2 s.1 s.2
theorem e159 (d:Nat) (s1:ByteArray):g159 (d+1) s1 =
 iterP (l159_0 d s1 (j159_0 d)) fuelN (false,0):=by kernel_rfl
noncomputable def j134_0 (d:Nat) (s1:ByteArray) (b4:Bool):Option Bool :=
 obind (g159 d s1) fun r5 =>
 some (!r5)
noncomputable def l134_0_b (d:Nat) (s1:ByteArray) (kx134_0_0:Bool→Option Bool) (ag3:t5→Option Bool) (b4:Bool) (n5:Int):Option Bool :=
 oif (decide ((n5:Int) < ((s1:ByteArray).size:Int))) (
 oif (decide (0≤(n5:Int))) (
 obind ((s1:ByteArray).data.toList[(n5:Int).toNat]?) fun c6 =>
 obind (g158 d (c6.toNat:Int)) fun r7 =>
 oif (!r7) (
 some false) (
 ag3 (b4,(IntKind.i64.wrap (n5+1))))) none) (
 kx134_0_0 b4)
noncomputable def l134_0 (d:Nat) (s1:ByteArray) (kx134_0_0:Bool→Option Bool) (ag3:t5→Option Bool) (s:t5):Option Bool:=l134_0_b d s1 kx134_0_0 ag3 s.1 s.2
noncomputable def j134_1 (d:Nat) (s1:ByteArray) (b2:Bool):Option Bool :=
 oif b2 (
 some false) (
 iterP (l134_0 d s1 (j134_0 d s1)) fuelN (false,0))
theorem e134 (d:Nat) (s1:ByteArray):g134 (d+1) s1 =
 oif (decide ((((s1:ByteArray).size:Int):Int) < 1)) (
 j134_1 d s1 true) (
 j134_1 d s1 (decide ((((s1:ByteArray).size:Int):Int) > 8))):=by kernel_rfl
theorem e160 (d:Nat) (n1:Int):g160 (d+1) n1 =
 oif (decide ((n1:Int)≥1)) (
 some (decide ((n1:Int)≤999))) (
 some false):=by kernel_rfl
noncomputable def j135_0 (d:Nat) (x1:t2) (b3:Bool):Option Bool :=
 oif (decide ((((x1.2.1.length:Nat):Int):Int)≥1)) (
 some (decide ((((x1.2.1.length:Nat):Int):Int)≤24))) (
 some false)
noncomputable def l135_0_b (d:Nat) (x1:t2) (kx135_0_0:Bool→Option Bool) (ag2:t5→Option Bool) (b3:Bool) (n4:Int):Option Bool :=
 oif (decide ((n4:Int) < ((x1.2.1.length:Nat):Int))) (
 oif (decide (0≤(n4:Int))) (
 obind (x1.2.1[(n4:Int).toNat]?) fun x5 =>
 obind (g160 d x5.1) fun r6 =>
 oif (!r6) (
 some false) (
 oif (decide ((n4:Int) > 0)) (
 oif (decide (0≤((IntKind.i64.wrap (n4 - 1)):Int))) (
 obind (x1.2.1[((IntKind.i64.wrap (n4 - 1)):Int).toNat]?) fun x7 =>
 oif (decide ((x5.1:Int)≤x7.1)) (
 some false) (
 ag2 (b3,(IntKind.i64.wrap (n4+1))))) none) (
 ag2 (b3,(IntKind.i64.wrap (n4+1)))))) none) (
 kx135_0_0 b3)
noncomputable def l135_0 (d:Nat) (x1:t2) (kx135_0_0:Bool→Option Bool) (ag2:t5→Option Bool) (s:t5):Option Bool:=l135_0_b d x1 kx135_0_0 ag2 s.1 s.2
theorem e135 (d:Nat) (x1:t2):g135 (d+1) x1 =
 iterP (l135_0 d x1 (j135_0 d x1)) fuelN (false,0):=by kernel_rfl
noncomputable def j168i163_0 (d:Nat) (n4:Int):Option Int :=
 some (-1)
noncomputable def l168i163_0_b (d:Nat) (x1:t2) (n2:Int) (kx168i163_0_0:Int→Option Int) (ag3:t6→Option Int) (n4:Int) (n5:Int):Option Int :=
 oif (decide ((n5:Int) < ((x1.2.1.length:Nat):Int))) (
 oif (decide (0≤(n5:Int))) (
 obind (x1.2.1[(n5:Int).toNat]?) fun x6 =>
 oif ((x6.1:Int)==n2) (
 some n5) (
 ag3 (n4,(IntKind.i64.wrap (n5+1))))) none) (
 kx168i163_0_0 n4)
noncomputable def l168i163_0 (d:Nat) (x1:t2) (n2:Int) (kx168i163_0_0:Int→Option Int) (ag3:t6→Option Int) (s:t6):Option Int:=l168i163_0_b d x1 n2 kx168i163_0_0 ag3 s.1 s.2
theorem e168 (d:Nat) (x1:t2) (n2:Int):g168 (d+3) x1 n2 =
 iterP (l168i163_0 d x1 n2 (j168i163_0 d)) fuelN (0,0):=by kernel_rfl
noncomputable def j161_0 (d:Nat) (l3:List Int):Option (List Int) :=
 some l3
noncomputable def j161_1 (d:Nat) (ag2:((List Int)×Int)→Option (List Int)) (l3:List Int) (n4:Int) (b6:Bool) (b7:Bool):Option (List Int) :=
 oif b7 (
 oif (Nat.ble ((l3.length+[n4].length)*8) roomMax) (
 ag2 ((l3++[n4]),(IntKind.i64.wrap (n4+1)))) none) (
 ag2 (l3,(IntKind.i64.wrap (n4+1))))
noncomputable def l161_0_b (d:Nat) (x1:t2) (kx161_0_0:(List Int)→Option (List Int)) (ag2:((List Int)×Int)→Option (List Int)) (l3:List Int) (n4:Int):Option (List Int) :=
 oif (decide ((n4:Int) < ((x1.2.1.length:Nat):Int))) (
 oif (decide (0≤(n4:Int))) (
 obind (x1.2.1[(n4:Int).toNat]?) fun x5 =>
 oif ((x5.2.1:Int) != 0) (
 obind (g168 d x1 x5.2.1) fun r6 =>
 j161_1 d ag2 l3 n4 true (decide ((r6:Int) < 0))) (
 j161_1 d ag2 l3 n4 false false)) none) (
 kx161_0_0 l3)
noncomputable def l161_0 (d:Nat) (x1:t2) (kx161_0_0:(List Int)→Option (List Int)) (ag2:((List Int)×Int)→Option (List Int)) (s:((List Int)×Int)):Option (List Int):=l161_0_b d x1 kx161_0_0 ag2 s.1 s.2
theorem e161 (d:Nat) (x1:t2):g161 (d+1) x1 =
 iterP (l161_0 d x1 (j161_0 d)) fuelN (([]:List Int),0):=by kernel_rfl
noncomputable def j136_0 (d:Nat) (x1:t2) (n3:Int):Option Bool :=
 oif ((n3:Int)==1) (
 obind (g161 d x1) fun r4 =>
 some ((((r4.length:Nat):Int):Int)==0)) (
 some false)
noncomputable def l136_0_b (d:Nat) (x1:t2) (kx136_0_0:Int→Option Bool) (ag2:t6→Option Bool) (n3:Int) (n4:Int):Option Bool :=
 oif (decide ((n4:Int) < ((x1.2.1.length:Nat):Int))) (
 oif (decide (0≤(n4:Int))) (
 obind (x1.2.1[(n4:Int).toNat]?) fun x5 =>
 oif ((x5.2.1:Int)==0) (
 ag2 ((IntKind.i64.wrap (n3+1)),(IntKind.i64.wrap (n4+1)))) (
 ag2 (n3,(IntKind.i64.wrap (n4+1))))) none) (
 kx136_0_0 n3)
noncomputable def l136_0 (d:Nat) (x1:t2) (kx136_0_0:Int→Option Bool) (ag2:t6→Option Bool) (s:t6):Option Bool:=l136_0_b d x1 kx136_0_0 ag2 s.1 s.2
theorem e136 (d:Nat) (x1:t2):g136 (d+1) x1 =
 iterP (l136_0 d x1 (j136_0 d x1)) fuelN (0,0):=by kernel_rfl
noncomputable def j191_0 (d:Nat) (n4:Int):Option Int :=
 some (-1)
noncomputable def l191_0_b (d:Nat) (l1:List Int) (n2:Int) (kx191_0_0:Int→Option Int) (ag3:t6→Option Int) (n4:Int) (n5:Int):Option Int :=
 oif (decide ((n5:Int) < ((l1.length:Nat):Int))) (
 oif (decide (0≤(n5:Int))) (
 obind (l1[(n5:Int).toNat]?) fun n6 =>
 oif ((n2:Int)==n6) (
 some n5) (
 ag3 (n4,(IntKind.i64.wrap (n5+1))))) none) (
 kx191_0_0 n4)
noncomputable def l191_0 (d:Nat) (l1:List Int) (n2:Int) (kx191_0_0:Int→Option Int) (ag3:t6→Option Int) (s:t6):Option Int:=l191_0_b d l1 n2 kx191_0_0 ag3 s.1 s.2
theorem e191 (d:Nat) (l1:List Int) (n2:Int):g191 (d+1) l1 n2 =
 iterP (l191_0 d l1 n2 (j191_0 d)) fuelN (0,0):=by kernel_rfl
theorem e180 (d:Nat) (l1:List Int) (n2:Int):g180 (d+1) l1 n2 =
 obind (g191 d l1 n2) fun r3 =>
 some (decide ((r3:Int)≥0)):=by kernel_rfl
noncomputable def j162_0 (d:Nat) (b4:Bool) (l5:List Int) (l6:List Int):Option ((List Int)×Bool) :=
 some (l6,true)
noncomputable def l162_0_b (d:Nat) (x1:t2) (kx162_0_0:Bool→(List Int)→(List Int)→Option ((List Int)×Bool)) (ag3:(Int×(List Int)×Bool×(List Int))→Option ((List Int)×Bool)) (n4:Int) (l5:List Int) (b6:Bool) (l7:List Int):Option ((List Int)×Bool) :=
 oif (decide ((n4:Int)≥0)) (
 obind (g180 d l7 n4) fun r8 =>
 oif r8 (
 some (l7,false)) (
 oif (Nat.ble ((l7.length+[n4].length)*8) roomMax) (
 oif (decide (0≤(n4:Int))) (
 obind (x1.2.1[(n4:Int).toNat]?) fun x9 =>
 obind (g168 d x1 x9.2.1) fun r10 =>
 ag3 (r10,l5,b6,(l7++[n4]))) none) none)) (
 kx162_0_0 b6 l5 l7)
noncomputable def l162_0 (d:Nat) (x1:t2) (kx162_0_0:Bool→(List Int)→(List Int)→Option ((List Int)×Bool)) (ag3:(Int×(List Int)×Bool×(List Int))→Option ((List Int)×Bool)) (s:(Int×(List Int)×Bool×(List Int))):Option ((List Int)×Bool):=l162_0_b d x1 kx162_0_0 ag3 s.1 s.2.1 s.2.2.1 s.2.2.2
theorem e162 (d:Nat) (x1:t2) (n2:Int):g162 (d+1) x1 n2 =
 iterP (l162_0 d x1 (j162_0 d)) fuelN (n2,[],false,([]:List Int)):=by kernel_rfl
noncomputable def j137_0 (d:Nat) (b3:Bool):Option Bool :=
 some true
noncomputable def l137_0_b (d:Nat) (x1:t2) (kx137_0_0:Bool→Option Bool) (ag2:t5→Option Bool) (b3:Bool) (n4:Int):Option Bool :=
 oif (decide ((n4:Int) < ((x1.2.1.length:Nat):Int))) (
 obind (g162 d x1 n4) fun r5 =>
 oif (!r5.2) (
 some false) (
 oif (decide ((((r5.1.length:Nat):Int):Int) > 8)) (
 some false) (
 oif (decide (0≤((IntKind.i64.wrap (((r5.1.length:Nat):Int) - 1)):Int))) (
 oif (Nat.blt (((IntKind.i64.wrap (((r5.1.length:Nat):Int) - 1)):Int).toNat) r5.1.length) (
 obind (r5.1[((IntKind.i64.wrap (((r5.1.length:Nat):Int) - 1)):Int).toNat]?) fun n6 =>
 oif (decide (0≤(n6:Int))) (
 obind (x1.2.1[(n6:Int).toNat]?) fun x7 =>
 oif ((x7.2.1:Int) != 0) (
 some false) (
 ag2 (b3,(IntKind.i64.wrap (n4+1))))) none) none) none))) (
 kx137_0_0 b3)
noncomputable def l137_0 (d:Nat) (x1:t2) (kx137_0_0:Bool→Option Bool) (ag2:t5→Option Bool) (s:t5):Option Bool:=l137_0_b d x1 kx137_0_0 ag2 s.1 s.2
theorem e137 (d:Nat) (x1:t2):g137 (d+1) x1 =
 iterP (l137_0 d x1 (j137_0 d)) fuelN (false,0):=by kernel_rfl
theorem e140 (d:Nat) (x1:t0):g140 (d+1) x1 =
 oif (decide ((x1.2.2.1:Int)≥1)) (
 oif (decide ((x1.2.2.1:Int)≤100000)) (
 oif (decide ((x1.2.2.2.1:Int)≥x1.2.2.1)) (
 some (decide ((x1.2.2.2.1:Int)≤100000))) (
 some false)) (
 some false)) (
 some false):=by kernel_rfl
noncomputable def j141i138i163_0 (d:Nat) (n3:Int):Option Bool :=
 some (!(decide (((-1):Int)≥0)))
noncomputable def l141i138i163_0_b (d:Nat) (x1:t2) (kx141i138i163_0_0:Int→Option Bool) (ag2:t6→Option Bool) (n3:Int) (n4:Int):Option Bool :=
 oif (decide ((n4:Int) < ((x1.2.1.length:Nat):Int))) (
 oif (decide (0≤(n4:Int))) (
 obind (x1.2.1[(n4:Int).toNat]?) fun x5 =>
 oif (decide ((x5.2.2.1:Int) < 0)) (
 some (!(decide ((n4:Int)≥0)))) (
 oif (decide ((x5.2.2.1:Int) > 1000000000)) (
 some (!(decide ((n4:Int)≥0)))) (
 ag2 (n3,(IntKind.i64.wrap (n4+1)))))) none) (
 kx141i138i163_0_0 n3)
noncomputable def l141i138i163_0 (d:Nat) (x1:t2) (kx141i138i163_0_0:Int→Option Bool) (ag2:t6→Option Bool) (s:t6):Option Bool:=l141i138i163_0_b d x1 kx141i138i163_0_0 ag2 s.1 s.2
theorem e141 (d:Nat) (x1:t2):g141 (d+4) x1 =
 iterP (l141i138i163_0 d x1 (j141i138i163_0 d)) fuelN (0,0):=by kernel_rfl
noncomputable def j173_0 (d:Nat) (l4:List Int):Option (List Int) :=
 some l4
noncomputable def l173_0_b (d:Nat) (x1:t2) (n2:Int) (kx173_0_0:(List Int)→Option (List Int)) (ag3:((List Int)×Int)→Option (List Int)) (l4:List Int) (n5:Int):Option (List Int) :=
 oif (decide ((n5:Int) < ((x1.2.1.length:Nat):Int))) (
 oif (decide (0≤(n5:Int))) (
 obind (x1.2.1[(n5:Int).toNat]?) fun x6 =>
 oif (decide (0≤(n2:Int))) (
 obind (x1.2.1[(n2:Int).toNat]?) fun x7 =>
 oif ((x6.2.1:Int)==x7.1) (
 oif (Nat.ble ((l4.length+[n5].length)*8) roomMax) (
 ag3 ((l4++[n5]),(IntKind.i64.wrap (n5+1)))) none) (
 ag3 (l4,(IntKind.i64.wrap (n5+1))))) none) none) (
 kx173_0_0 l4)
noncomputable def l173_0 (d:Nat) (x1:t2) (n2:Int) (kx173_0_0:(List Int)→Option (List Int)) (ag3:((List Int)×Int)→Option (List Int)) (s:((List Int)×Int)):Option (List Int):=l173_0_b d x1 n2 kx173_0_0 ag3 s.1 s.2
theorem e173 (d:Nat) (x1:t2) (n2:Int):g173 (d+1) x1 n2 =
 iterP (l173_0 d x1 n2 (j173_0 d)) fuelN (([]:List Int),0):=by kernel_rfl
noncomputable def j165_0 (d:Nat) (n5:Int):Option Int :=
 some n5
noncomputable def l165_0_b (d:Nat) (x1:t2) (r3:List Int) (kx165_0_0:Int→Option Int) (ag4:t6→Option Int) (n5:Int) (n6:Int):Option Int :=
 oif (decide ((n6:Int) < ((r3.length:Nat):Int))) (
 oif (decide (0≤(n6:Int))) (
 oif (Nat.blt ((n6:Int).toNat) r3.length) (
 obind (r3[(n6:Int).toNat]?) fun n7 =>
 oif (decide (0≤(n7:Int))) (
 obind (x1.2.1[(n7:Int).toNat]?) fun x8 =>
 ag4 ((IntKind.i64.wrap (n5+x8.2.2.1)),(IntKind.i64.wrap (n6+1)))) none) none) none) (
 kx165_0_0 n5)
noncomputable def l165_0 (d:Nat) (x1:t2) (r3:List Int) (kx165_0_0:Int→Option Int) (ag4:t6→Option Int) (s:t6):Option Int:=l165_0_b d x1 r3 kx165_0_0 ag4 s.1 s.2
theorem e165 (d:Nat) (x1:t2) (n2:Int):g165 (d+1) x1 n2 =
 obind (g173 d x1 n2) fun r3 =>
 iterP (l165_0 d x1 r3 (j165_0 d)) fuelN (0,0):=by kernel_rfl
noncomputable def j142_0 (d:Nat) (l3:List Int):Option (List Int) :=
 some l3
noncomputable def l142_0_b (d:Nat) (x1:t2) (kx142_0_0:(List Int)→Option (List Int)) (ag2:((List Int)×Int)→Option (List Int)) (l3:List Int) (n4:Int):Option (List Int) :=
 oif (decide ((n4:Int) < ((x1.2.1.length:Nat):Int))) (
 oif (decide (0≤(n4:Int))) (
 obind (x1.2.1[(n4:Int).toNat]?) fun x5 =>
 obind (g165 d x1 n4) fun r6 =>
 oif (decide ((r6:Int) > x5.2.2.1)) (
 oif (Nat.ble ((l3.length+[n4].length)*8) roomMax) (
 ag2 ((l3++[n4]),(IntKind.i64.wrap (n4+1)))) none) (
 ag2 (l3,(IntKind.i64.wrap (n4+1))))) none) (
 kx142_0_0 l3)
noncomputable def l142_0 (d:Nat) (x1:t2) (kx142_0_0:(List Int)→Option (List Int)) (ag2:((List Int)×Int)→Option (List Int)) (s:((List Int)×Int)):Option (List Int):=l142_0_b d x1 kx142_0_0 ag2 s.1 s.2
theorem e142 (d:Nat) (x1:t2):g142 (d+1) x1 =
 iterP (l142_0 d x1 (j142_0 d)) fuelN (([]:List Int),0):=by kernel_rfl
theorem e144 (d:Nat) (x1:t0):g144 (d+1) x1 =
 oif (decide ((x1.2.2.2.2.1:Int)≥1500)) (
 oif (decide ((x1.2.2.2.2.1:Int)≤1000000)) (
 oif (decide ((x1.2.2.2.2.2.1:Int)≥1500)) (
 oif (decide ((x1.2.2.2.2.2.1:Int)≤1000000)) (
 oif (decide ((x1.2.2.2.2.2.2.1:Int)≥0)) (
 some (decide ((x1.2.2.2.2.2.2.1:Int)≤7))) (
 some false)) (
 some false)) (
 some false)) (
 some false)) (
 some false):=by kernel_rfl
noncomputable def j166i138i163_0 (d:Nat) (n4:Int):Option Bool :=
 some (!(decide (((-1):Int)≥0)))
noncomputable def l166i138i163_0_b (d:Nat) (x1:t2) (n2:Int) (kx166i138i163_0_0:Int→Option Bool) (ag3:t6→Option Bool) (n4:Int) (n5:Int):Option Bool :=
 oif (decide ((n5:Int) < ((x1.2.1.length:Nat):Int))) (
 oif (decide (0≤(n5:Int))) (
 obind (x1.2.1[(n5:Int).toNat]?) fun x6 =>
 oif (decide (0≤(n2:Int))) (
 obind (x1.2.1[(n2:Int).toNat]?) fun x7 =>
 oif ((x6.2.1:Int)==x7.1) (
 some (!(decide ((n5:Int)≥0)))) (
 ag3 (n4,(IntKind.i64.wrap (n5+1))))) none) none) (
 kx166i138i163_0_0 n4)
noncomputable def l166i138i163_0 (d:Nat) (x1:t2) (n2:Int) (kx166i138i163_0_0:Int→Option Bool) (ag3:t6→Option Bool) (s:t6):Option Bool:=l166i138i163_0_b d x1 n2 kx166i138i163_0_0 ag3 s.1 s.2
theorem e166 (d:Nat) (x1:t2) (n2:Int):g166 (d+4) x1 n2 =
 iterP (l166i138i163_0 d x1 n2 (j166i138i163_0 d)) fuelN (0,0):=by kernel_rfl
theorem e145 (d:Nat) (x1:t2) (n2:Int):g145 (d+1) x1 n2 =
 oif (decide (0≤(n2:Int))) (
 obind (x1.2.1[(n2:Int).toNat]?) fun x3 =>
 obind (g166 d x1 n2) fun r4 =>
 oif r4 (
 oif (decide ((x3.2.2.2.2.2.2.2:Int)≥1)) (
 some (decide ((x3.2.2.2.2.2.2.2:Int)≤60))) (
 some false)) (
 some ((x3.2.2.2.2.2.2.2:Int)==0))) none:=by kernel_rfl
theorem e147 (d:Nat) (x1:t2) (n2:Int):g147 (d+1) x1 n2 =
 obind (g168 d x1 n2) fun r3 =>
 oif (decide ((r3:Int)≥0)) (
 obind (g166 d x1 r3) fun r4 =>
 some r4) (
 some false):=by kernel_rfl
theorem e167 (d:Nat) (x1:t3):g167 (d+1) x1 =
 oif (decide ((x1.1:Int)≥1)) (
 oif (decide ((x1.1:Int)≤99)) (
 oif (decide ((x1.2.1:Int)≥0)) (
 oif (decide ((x1.2.1:Int)≤3)) (
 oif (decide ((x1.2.2.1:Int)≥0)) (
 oif (decide ((x1.2.2.1:Int)≤65535)) (
 oif (decide ((x1.2.2.2.1:Int)≥0)) (
 oif (decide ((x1.2.2.2.1:Int)≤65535)) (
 some (((IntKind.i64.wrap ((BitVec.ofInt IntKind.i64.bits x1.2.2.2.1 &&& ~~~BitVec.ofInt IntKind.i64.bits x1.2.2.1).toNat:Int)):Int)==0)) (
 some false)) (
 some false)) (
 some false)) (
 some false)) (
 some false)) (
 some false)) (
 some false)) (
 some false):=by kernel_rfl
noncomputable def j146_0 (d:Nat) (x1:t2) (b3:Bool):Option Bool :=
 some (decide ((((x1.2.2.1.length:Nat):Int):Int)≤16))
noncomputable def j146_1 (d:Nat) (ag2:t5→Option Bool) (b3:Bool) (n4:Int) (b6:Bool) (b7:Bool) (b8:Bool) (b9:Bool) (b10:Bool) (b11:Bool):Option Bool :=
 oif b11 (
 some false) (
 ag2 (b3,(IntKind.i64.wrap (n4+1))))
noncomputable def l146_0_b (d:Nat) (x1:t2) (kx146_0_0:Bool→Option Bool) (ag2:t5→Option Bool) (b3:Bool) (n4:Int):Option Bool :=
 oif (decide ((n4:Int) < ((x1.2.2.1.length:Nat):Int))) (
 oif (decide (0≤(n4:Int))) (
 obind (x1.2.2.1[(n4:Int).toNat]?) fun x5 =>
 obind (g167 d x5) fun r6 =>
 oif (!r6) (
 j146_1 d ag2 b3 n4 r6 (!r6) true true true true) (
 oif (decide ((n4:Int) > 0)) (
 oif (decide (0≤((IntKind.i64.wrap (n4 - 1)):Int))) (
 obind (x1.2.2.1[((IntKind.i64.wrap (n4 - 1)):Int).toNat]?) fun x7 =>
 oif (decide ((x5.1:Int)≤x7.1)) (
 j146_1 d ag2 b3 n4 r6 (!r6) false (decide ((x5.1:Int)≤x7.1)) true true) (
 obind (g147 d x1 x5.2.2.2.2) fun r8 =>
 j146_1 d ag2 b3 n4 r6 (!r6) false (decide ((x5.1:Int)≤x7.1)) false (!r8))) none) (
 obind (g147 d x1 x5.2.2.2.2) fun r9 =>
 j146_1 d ag2 b3 n4 r6 (!r6) false false false (!r9)))) none) (
 kx146_0_0 b3)
noncomputable def l146_0 (d:Nat) (x1:t2) (kx146_0_0:Bool→Option Bool) (ag2:t5→Option Bool) (s:t5):Option Bool:=l146_0_b d x1 kx146_0_0 ag2 s.1 s.2
theorem e146 (d:Nat) (x1:t2):g146 (d+1) x1 =
 iterP (l146_0 d x1 (j146_0 d x1)) fuelN (false,0):=by kernel_rfl
noncomputable def j122i138i163_0 (d:Nat) (n8:Int):Option Bool :=
 some (!(decide (((-1):Int)≥0)))
noncomputable def l122i138i163_0_b (d:Nat) (x1:t2) (kx122i138i163_0_0:Int→Option Bool) (ag7:t6→Option Bool) (n8:Int) (n9:Int):Option Bool :=
 oif (decide ((n9:Int) < ((x1.2.1.length:Nat):Int))) (
 oif (decide (0≤(n9:Int))) (
 obind (x1.2.1[(n9:Int).toNat]?) fun x10 =>
 obind (g140 d x10) fun r11 =>
 oif (!r11) (
 some (!(decide ((n9:Int)≥0)))) (
 ag7 (n8,(IntKind.i64.wrap (n9+1))))) none) (
 kx122i138i163_0_0 n8)
noncomputable def l122i138i163_0 (d:Nat) (x1:t2) (kx122i138i163_0_0:Int→Option Bool) (ag7:t6→Option Bool) (s:t6):Option Bool:=l122i138i163_0_b d x1 kx122i138i163_0_0 ag7 s.1 s.2
noncomputable def j122i138i163_1 (d:Nat) (n15:Int):Option Bool :=
 some (!(decide (((-1):Int)≥0)))
noncomputable def l122i138i163_0x_b (d:Nat) (x1:t2) (kx122i138i163_0_0:Int→Option Bool) (ag14:t6→Option Bool) (n15:Int) (n16:Int):Option Bool :=
 oif (decide ((n16:Int) < ((x1.2.1.length:Nat):Int))) (
 oif (decide (0≤(n16:Int))) (
 obind (x1.2.1[(n16:Int).toNat]?) fun x17 =>
 obind (g144 d x17) fun r18 =>
 oif (!r18) (
 some (!(decide ((n16:Int)≥0)))) (
 ag14 (n15,(IntKind.i64.wrap (n16+1))))) none) (
 kx122i138i163_0_0 n15)
noncomputable def l122i138i163_0x (d:Nat) (x1:t2) (kx122i138i163_0_0:Int→Option Bool) (ag14:t6→Option Bool) (s:t6):Option Bool:=l122i138i163_0x_b d x1 kx122i138i163_0_0 ag14 s.1 s.2
noncomputable def j122_0 (d:Nat) (b20:Bool):Option Bool :=
 some true
noncomputable def l122_0_b (d:Nat) (x1:t2) (kx122_0_0:Bool→Option Bool) (ag19:t5→Option Bool) (b20:Bool) (n21:Int):Option Bool :=
 oif (decide ((n21:Int) < ((x1.2.1.length:Nat):Int))) (
 obind (g145 (d+3) x1 n21) fun r22 =>
 oif (!r22) (
 some false) (
 ag19 (b20,(IntKind.i64.wrap (n21+1))))) (
 kx122_0_0 b20)
noncomputable def l122_0 (d:Nat) (x1:t2) (kx122_0_0:Bool→Option Bool) (ag19:t5→Option Bool) (s:t5):Option Bool:=l122_0_b d x1 kx122_0_0 ag19 s.1 s.2
theorem e122 (d:Nat) (x1:t2) (n2:Int):g122 (d+4) x1 n2 =
 oif ((n2:Int)==1) (
 obind (g134 (d+3) x1.1) fun r3 =>
 some r3) (
 oif ((n2:Int)==2) (
 obind (g135 (d+3) x1) fun r4 =>
 some r4) (
 oif ((n2:Int)==3) (
 obind (g136 (d+3) x1) fun r5 =>
 some r5) (
 oif ((n2:Int)==4) (
 obind (g137 (d+3) x1) fun r6 =>
 some r6) (
 oif ((n2:Int)==5) (
 iterP (l122i138i163_0 d x1 (j122i138i163_0 d)) fuelN (0,0)) (
 oif ((n2:Int)==6) (
 obind (g141 (d+3) x1) fun r12 =>
 oif r12 (
 obind (g142 (d+3) x1) fun r13 =>
 some ((((r13.length:Nat):Int):Int)==0)) (
 some false)) (
 oif ((n2:Int)==7) (
 iterP (l122i138i163_0x d x1 (j122i138i163_1 d)) fuelN (0,0)) (
 oif ((n2:Int)==8) (
 iterP (l122_0 d x1 (j122_0 d)) fuelN (false,0)) (
 oif ((n2:Int)==9) (
 obind (g146 (d+3) x1) fun r23 =>
 some r23) (
 oif ((x1.2.2.2:Int)==0) (
 some true) (
 obind (g147 (d+3) x1 x1.2.2.2) fun r24 =>
 some r24)))))))))):=by kernel_rfl
noncomputable def j87_0 (d:Nat) (b4:Bool):Option Bool :=
 some true
noncomputable def l87_0_b (d:Nat) (x1:t2) (kx87_0_0:Bool→Option Bool) (ag3:t5→Option Bool) (b4:Bool) (n5:Int):Option Bool :=
 oif (decide ((n5:Int)≤10)) (
 obind (g122 d x1 n5) fun r6 =>
 oif (!r6) (
 some false) (
 ag3 (b4,(IntKind.i64.wrap (n5+1))))) (
 kx87_0_0 b4)
noncomputable def l87_0 (d:Nat) (x1:t2) (kx87_0_0:Bool→Option Bool) (ag3:t5→Option Bool) (s:t5):Option Bool:=l87_0_b d x1 kx87_0_0 ag3 s.1 s.2
noncomputable def j87_1 (d:Nat) (x1:t2) (b2:Bool):Option Bool :=
 oif b2 (
 some false) (
 iterP (l87_0 d x1 (j87_0 d)) fuelN (false,1))
theorem e87 (d:Nat) (x1:t2):g87 (d+1) x1 =
 oif (decide ((((x1.2.1.length:Nat):Int):Int) > 24)) (
 j87_1 d x1 true) (
 j87_1 d x1 (decide ((((x1.2.2.1.length:Nat):Int):Int) > 16))):=by kernel_rfl
theorem e178 (d:Nat) (n1:Int) (n2:Int):g178 (d+1) n1 n2 =
 some ((IntKind.u64.wrap ((IntKind.u64.wrap ((IntKind.u64.wrap ((n1.fdiv (2 ^ (min (32:Int).toNat IntKind.u64.bits)))*(n2.fdiv (2 ^ (min (32:Int).toNat IntKind.u64.bits)))))+((IntKind.u64.wrap ((IntKind.u64.wrap ((n1.fdiv (2 ^ (min (32:Int).toNat IntKind.u64.bits)))*(IntKind.u64.wrap ((BitVec.ofInt IntKind.u64.bits n2 &&& BitVec.ofInt IntKind.u64.bits 4294967295).toNat:Int))))+((IntKind.u64.wrap ((IntKind.u64.wrap ((BitVec.ofInt IntKind.u64.bits n1 &&& BitVec.ofInt IntKind.u64.bits 4294967295).toNat:Int))*(IntKind.u64.wrap ((BitVec.ofInt IntKind.u64.bits n2 &&& BitVec.ofInt IntKind.u64.bits 4294967295).toNat:Int)))).fdiv (2 ^ (min (32:Int).toNat IntKind.u64.bits))))).fdiv (2 ^ (min (32:Int).toNat IntKind.u64.bits)))))+((IntKind.u64.wrap ((IntKind.u64.wrap ((BitVec.ofInt IntKind.u64.bits (IntKind.u64.wrap ((IntKind.u64.wrap ((n1.fdiv (2 ^ (min (32:Int).toNat IntKind.u64.bits)))*(IntKind.u64.wrap ((BitVec.ofInt IntKind.u64.bits n2 &&& BitVec.ofInt IntKind.u64.bits 4294967295).toNat:Int))))+((IntKind.u64.wrap ((IntKind.u64.wrap ((BitVec.ofInt IntKind.u64.bits n1 &&& BitVec.ofInt IntKind.u64.bits 4294967295).toNat:Int))*(IntKind.u64.wrap ((BitVec.ofInt IntKind.u64.bits n2 &&& BitVec.ofInt IntKind.u64.bits 4294967295).toNat:Int)))).fdiv (2 ^ (min (32:Int).toNat IntKind.u64.bits))))) &&& BitVec.ofInt IntKind.u64.bits 4294967295).toNat:Int))+(IntKind.u64.wrap ((IntKind.u64.wrap ((BitVec.ofInt IntKind.u64.bits n1 &&& BitVec.ofInt IntKind.u64.bits 4294967295).toNat:Int))*(n2.fdiv (2 ^ (min (32:Int).toNat IntKind.u64.bits))))))).fdiv (2 ^ (min (32:Int).toNat IntKind.u64.bits))))),(IntKind.u64.wrap (n1*n2))):=by kernel_rfl
theorem e153 (d:Nat) (n1:Int) (n2:Int):g153 (d+1) n1 n2 =
 obind (g178 d n1 n2) fun r3 =>
 some (r3.1,r3.2):=by kernel_rfl
noncomputable def j124_0 (d:Nat) (l6:List Int):Option (List Int) :=
 some l6
noncomputable def l124_0_b (d:Nat) (kx124_0_0:(List Int)→Option (List Int)) (ag5:(Int×(List Int))→Option (List Int)) (n6:Int) (l7:List Int):Option (List Int) :=
 oif (decide ((n6:Int) < ((l7.length:Nat):Int))) (
 oif (decide (0≤(n6:Int))) (
 oif (Nat.ble ((n6:Int).toNat) l7.length) (
 oif (decide (0≤(n6:Int))) (
 oif (Nat.ble ((n6:Int).toNat) l7.length) (
 ag5 ((IntKind.i64.wrap (n6+((min (l7.take ((n6:Int).toNat)).length (l7.length - (0+(n6:Int).toNat)):Nat):Int))),(cpy l7 (0+(n6:Int).toNat) (l7.length - (0+(n6:Int).toNat)) (l7.take ((n6:Int).toNat))))) none) none) none) none) (
 kx124_0_0 l7)
noncomputable def l124_0 (d:Nat) (kx124_0_0:(List Int)→Option (List Int)) (ag5:(Int×(List Int))→Option (List Int)) (s:(Int×(List Int))):Option (List Int):=l124_0_b d kx124_0_0 ag5 s.1 s.2
noncomputable def j124_1 (d:Nat) (l1:List Int) (r3:t6) (b4:Bool):Option (List Int) :=
 oif b4 (
 none) (
 oif (decide (0≤((IntKind.i64.wrap r3.2):Int))) (
 oif (decide (0≤((IntKind.i64.wrap r3.2):Int))) (
 oif (Nat.ble (((IntKind.i64.wrap r3.2):Int).toNat) (((IntKind.i64.wrap r3.2):Int).toNat)&&Nat.ble ((((IntKind.i64.wrap r3.2):Int).toNat)*8) roomMax) (
 iterP (l124_0 d (j124_0 d)) fuelN (((min l1.length ((List.replicate (((IntKind.i64.wrap r3.2):Int).toNat) (0:Int)).length):Nat):Int),(cpy (List.replicate (((IntKind.i64.wrap r3.2):Int).toNat) (0:Int)) 0 ((List.replicate (((IntKind.i64.wrap r3.2):Int).toNat) (0:Int)).length) l1))) none) none) none)
theorem e124 (d:Nat) (l1:List Int) (n2:Int):g124 (d+1) l1 n2 =
 oif (decide ((n2:Int) < 0)) (
 none) (
 obind (g153 d (IntKind.u64.wrap ((l1.length:Nat):Int)) (IntKind.u64.wrap n2)) fun r3 =>
 oif (decide ((r3.1:Int) > 0)) (
 j124_1 d l1 r3 true) (
 j124_1 d l1 r3 (decide ((r3.2:Int) > 9223372036854775807)))):=by kernel_rfl
theorem e148 (d:Nat) (n1:Int):g148 (d+1) n1 =
 itoaV n1:=by kernel_rfl
theorem e170 (d:Nat) (s1:ByteArray) (n2:Int):g170 (d+1) s1 n2 =
 repV s1 n2:=by kernel_rfl
theorem e149 (d:Nat) (x1:t4) (n2:Int) (s3:ByteArray):g149 (d+1) x1 n2 s3 =
 obind (g170 d (⟨#[32,32]⟩:ByteArray) n2) fun r4 =>
 oif (Nat.ble ((r4:ByteArray).size+(s3:ByteArray).size) 9223372036854775807) (
 oif (Nat.ble ((x1.2.1.length+[((r4:ByteArray)++(s3:ByteArray))].length)*16) roomMax) (
 some (x1.1,(x1.2.1++[((r4:ByteArray)++(s3:ByteArray))]),x1.2.2)) none) none:=by kernel_rfl
noncomputable def j172_0 (d:Nat) (n1:Int) (b4:Bool):Option ByteArray :=
 oif b4 (
 obind (g148 d (IntKind.i64.wrap (n1.tdiv 1000))) fun r5 =>
 oif (Nat.ble ((r5:ByteArray).size+((⟨#[107]⟩:ByteArray):ByteArray).size) 9223372036854775807) (
 some ((r5:ByteArray)++((⟨#[107]⟩:ByteArray):ByteArray))) none) (
 obind (g148 d n1) fun r6 =>
 some r6)
noncomputable def j172_1 (d:Nat) (n1:Int) (b2:Bool):Option ByteArray :=
 oif b2 (
 obind (g148 d (IntKind.i64.wrap (n1.tdiv 1000000))) fun r3 =>
 oif (Nat.ble ((r3:ByteArray).size+((⟨#[109]⟩:ByteArray):ByteArray).size) 9223372036854775807) (
 some ((r3:ByteArray)++((⟨#[109]⟩:ByteArray):ByteArray))) none) (
 oif (decide ((n1:Int) > 0)) (
 j172_0 d n1 (((n1.tmod 1000):Int)==0)) (
 j172_0 d n1 false))
theorem e172 (d:Nat) (n1:Int):g172 (d+1) n1 =
 oif (decide ((n1:Int) > 0)) (
 j172_1 d n1 (((n1.tmod 1000000):Int)==0)) (
 j172_1 d n1 false):=by kernel_rfl
theorem e171 (d:Nat) (x1:t0):g171 (d+1) x1 =
 obind (g148 d x1.1) fun r2 =>
 oif (Nat.ble (((⟨#[99,108,97,115,115,32]⟩:ByteArray):ByteArray).size+(r2:ByteArray).size) 9223372036854775807) (
 oif (Nat.ble (((((⟨#[99,108,97,115,115,32]⟩:ByteArray):ByteArray)++(r2:ByteArray)):ByteArray).size+((⟨#[32,114,97,116,101,32]⟩:ByteArray):ByteArray).size) 9223372036854775807) (
 obind (g172 d x1.2.2.1) fun r3 =>
 oif (Nat.ble (((((((⟨#[99,108,97,115,115,32]⟩:ByteArray):ByteArray)++(r2:ByteArray)):ByteArray)++((⟨#[32,114,97,116,101,32]⟩:ByteArray):ByteArray)):ByteArray).size+(r3:ByteArray).size) 9223372036854775807) (
 oif (Nat.ble (((((((((⟨#[99,108,97,115,115,32]⟩:ByteArray):ByteArray)++(r2:ByteArray)):ByteArray)++((⟨#[32,114,97,116,101,32]⟩:ByteArray):ByteArray)):ByteArray)++(r3:ByteArray)):ByteArray).size+((⟨#[32,99,101,105,108,32]⟩:ByteArray):ByteArray).size) 9223372036854775807) (
 obind (g172 d x1.2.2.2.1) fun r4 =>
 oif (Nat.ble (((((((((((⟨#[99,108,97,115,115,32]⟩:ByteArray):ByteArray)++(r2:ByteArray)):ByteArray)++((⟨#[32,114,97,116,101,32]⟩:ByteArray):ByteArray)):ByteArray)++(r3:ByteArray)):ByteArray)++((⟨#[32,99,101,105,108,32]⟩:ByteArray):ByteArray)):ByteArray).size+(r4:ByteArray).size) 9223372036854775807) (
 oif (Nat.ble (((((((((((((⟨#[99,108,97,115,115,32]⟩:ByteArray):ByteArray)++(r2:ByteArray)):ByteArray)++((⟨#[32,114,97,116,101,32]⟩:ByteArray):ByteArray)):ByteArray)++(r3:ByteArray)):ByteArray)++((⟨#[32,99,101,105,108,32]⟩:ByteArray):ByteArray)):ByteArray)++(r4:ByteArray)):ByteArray).size+((⟨#[32,98,117,114,115,116,32]⟩:ByteArray):ByteArray).size) 9223372036854775807) (
 obind (g172 d x1.2.2.2.2.1) fun r5 =>
 oif (Nat.ble (((((((((((((((⟨#[99,108,97,115,115,32]⟩:ByteArray):ByteArray)++(r2:ByteArray)):ByteArray)++((⟨#[32,114,97,116,101,32]⟩:ByteArray):ByteArray)):ByteArray)++(r3:ByteArray)):ByteArray)++((⟨#[32,99,101,105,108,32]⟩:ByteArray):ByteArray)):ByteArray)++(r4:ByteArray)):ByteArray)++((⟨#[32,98,117,114,115,116,32]⟩:ByteArray):ByteArray)):ByteArray).size+(r5:ByteArray).size) 9223372036854775807) (
 oif (Nat.ble (((((((((((((((((⟨#[99,108,97,115,115,32]⟩:ByteArray):ByteArray)++(r2:ByteArray)):ByteArray)++((⟨#[32,114,97,116,101,32]⟩:ByteArray):ByteArray)):ByteArray)++(r3:ByteArray)):ByteArray)++((⟨#[32,99,101,105,108,32]⟩:ByteArray):ByteArray)):ByteArray)++(r4:ByteArray)):ByteArray)++((⟨#[32,98,117,114,115,116,32]⟩:ByteArray):ByteArray)):ByteArray)++(r5:ByteArray)):ByteArray).size+((⟨#[32,99,98,117,114,115,116,32]⟩:ByteArray):ByteArray).size) 9223372036854775807) (
 obind (g172 d x1.2.2.2.2.2.1) fun r6 =>
 oif (Nat.ble (((((((((((((((((((⟨#[99,108,97,115,115,32]⟩:ByteArray):ByteArray)++(r2:ByteArray)):ByteArray)++((⟨#[32,114,97,116,101,32]⟩:ByteArray):ByteArray)):ByteArray)++(r3:ByteArray)):ByteArray)++((⟨#[32,99,101,105,108,32]⟩:ByteArray):ByteArray)):ByteArray)++(r4:ByteArray)):ByteArray)++((⟨#[32,98,117,114,115,116,32]⟩:ByteArray):ByteArray)):ByteArray)++(r5:ByteArray)):ByteArray)++((⟨#[32,99,98,117,114,115,116,32]⟩:ByteArray):ByteArray)):ByteArray).size+(r6:ByteArray).size) 9223372036854775807) (
 oif (Nat.ble (((((((((((((((((((((⟨#[99,108,97,115,115,32]⟩:ByteArray):ByteArray)++(r2:ByteArray)):ByteArray)++((⟨#[32,114,97,116,101,32]⟩:ByteArray):ByteArray)):ByteArray)++(r3:ByteArray)):ByteArray)++((⟨#[32,99,101,105,108,32]⟩:ByteArray):ByteArray)):ByteArray)++(r4:ByteArray)):ByteArray)++((⟨#[32,98,117,114,115,116,32]⟩:ByteArray):ByteArray)):ByteArray)++(r5:ByteArray)):ByteArray)++((⟨#[32,99,98,117,114,115,116,32]⟩:ByteArray):ByteArray)):ByteArray)++(r6:ByteArray)):ByteArray).size+((⟨#[32,112,114,105,111,32]⟩:ByteArray):ByteArray).size) 9223372036854775807) (
 obind (g148 d x1.2.2.2.2.2.2.1) fun r7 =>
 oif (Nat.ble (((((((((((((((((((((((⟨#[99,108,97,115,115,32]⟩:ByteArray):ByteArray)++(r2:ByteArray)):ByteArray)++((⟨#[32,114,97,116,101,32]⟩:ByteArray):ByteArray)):ByteArray)++(r3:ByteArray)):ByteArray)++((⟨#[32,99,101,105,108,32]⟩:ByteArray):ByteArray)):ByteArray)++(r4:ByteArray)):ByteArray)++((⟨#[32,98,117,114,115,116,32]⟩:ByteArray):ByteArray)):ByteArray)++(r5:ByteArray)):ByteArray)++((⟨#[32,99,98,117,114,115,116,32]⟩:ByteArray):ByteArray)):ByteArray)++(r6:ByteArray)):ByteArray)++((⟨#[32,112,114,105,111,32]⟩:ByteArray):ByteArray)):ByteArray).size+(r7:ByteArray).size) 9223372036854775807) (
 some (((((((((((((((((((((((⟨#[99,108,97,115,115,32]⟩:ByteArray):ByteArray)++(r2:ByteArray)):ByteArray)++((⟨#[32,114,97,116,101,32]⟩:ByteArray):ByteArray)):ByteArray)++(r3:ByteArray)):ByteArray)++((⟨#[32,99,101,105,108,32]⟩:ByteArray):ByteArray)):ByteArray)++(r4:ByteArray)):ByteArray)++((⟨#[32,98,117,114,115,116,32]⟩:ByteArray):ByteArray)):ByteArray)++(r5:ByteArray)):ByteArray)++((⟨#[32,99,98,117,114,115,116,32]⟩:ByteArray):ByteArray)):ByteArray)++(r6:ByteArray)):ByteArray)++((⟨#[32,112,114,105,111,32]⟩:ByteArray):ByteArray)):ByteArray)++(r7:ByteArray))) none) none) none) none) none) none) none) none) none) none) none:=by kernel_rfl
noncomputable def j150_0 (d:Nat) (n2:Int) (s6:ByteArray) (l7:List t0) (l8:List t3) (n9:Int) (l10:List ByteArray) (l11:List Int) (l12:List Int) (l13:List Int):Option t4 :=
 oif (decide (0≤(n2:Int))) (
 oif (Nat.blt ((n2:Int).toNat) l13.length) (
 obind (l13[(n2:Int).toNat]?) fun n14 =>
 some ((s6,l7,l8,n9),l10,l11,l12,(l13.set ((n2:Int).toNat) ((l10.length:Nat):Int)))) none) none
noncomputable def j150_1 (d:Nat) (n2:Int) (n3:Int) (s15:ByteArray) (l16:List t0) (l17:List t3) (n18:Int) (l19:List ByteArray) (l20:List Int) (l21:List Int) (l22:List Int):Option t4 :=
 obind (g149 d ((s15,l16,l17,n18),l19,l20,l21,l22) n3 (⟨#[125]⟩:ByteArray)) fun r23 =>
 j150_0 d n2 r23.1.1 r23.1.2.1 r23.1.2.2.1 r23.1.2.2.2 r23.2.1 r23.2.2.1 r23.2.2.2.1 r23.2.2.2.2
noncomputable def l150_0_b (d:Nat) (n3:Int) (r13:List Int) (kx150_0_0:ByteArray→(List t0)→(List t3)→Int→(List ByteArray)→(List Int)→(List Int)→(List Int)→Option t4) (ag14:(Int×t4)→Option t4) (n15:Int) (x16:t4):Option t4 :=
 oif (decide ((n15:Int) < ((r13.length:Nat):Int))) (
 oif (decide (0≤(n15:Int))) (
 oif (Nat.blt ((n15:Int).toNat) r13.length) (
 obind (r13[(n15:Int).toNat]?) fun n17 =>
 obind (g150 d x16 n17 (IntKind.i64.wrap (n3+1))) fun r18 =>
 ag14 ((IntKind.i64.wrap (n15+1)),r18)) none) none) (
 kx150_0_0 x16.1.1 x16.1.2.1 x16.1.2.2.1 x16.1.2.2.2 x16.2.1 x16.2.2.1 x16.2.2.2.1 x16.2.2.2.2)
noncomputable def l150_0 (d:Nat) (n3:Int) (r13:List Int) (kx150_0_0:ByteArray→(List t0)→(List t3)→Int→(List ByteArray)→(List Int)→(List Int)→(List Int)→Option t4) (ag14:(Int×t4)→Option t4) (s:(Int×t4)):Option t4:=l150_0_b d n3 r13 kx150_0_0 ag14 s.1 s.2
theorem e150 (d:Nat) (x1:t4) (n2:Int) (n3:Int):g150 (d+1) x1 n2 n3 =
 oif (decide (0≤(n2:Int))) (
 obind (x1.1.2.1[(n2:Int).toNat]?) fun x4 =>
 oif (Nat.ble ((x1.2.2.1.length+[n2].length)*8) roomMax) (
 obind (g166 d x1.1 n2) fun r5 =>
 oif r5 (
 obind (g171 d x4) fun r6 =>
 oif (Nat.ble ((r6:ByteArray).size+((⟨#[32,108,105,109,105,116,32]⟩:ByteArray):ByteArray).size) 9223372036854775807) (
 obind (g172 d x4.2.2.2.2.2.2.2) fun r7 =>
 oif (Nat.ble ((((r6:ByteArray)++((⟨#[32,108,105,109,105,116,32]⟩:ByteArray):ByteArray)):ByteArray).size+(r7:ByteArray).size) 9223372036854775807) (
 oif (Nat.ble ((((((r6:ByteArray)++((⟨#[32,108,105,109,105,116,32]⟩:ByteArray):ByteArray)):ByteArray)++(r7:ByteArray)):ByteArray).size+((⟨#[59]⟩:ByteArray):ByteArray).size) 9223372036854775807) (
 obind (g149 d (x1.1,x1.2.1,(x1.2.2.1++[n2]),x1.2.2.2) n3 ((((((r6:ByteArray)++((⟨#[32,108,105,109,105,116,32]⟩:ByteArray):ByteArray)):ByteArray)++(r7:ByteArray)):ByteArray)++((⟨#[59]⟩:ByteArray):ByteArray))) fun r8 =>
 oif (decide (0≤(n2:Int))) (
 oif (Nat.blt ((n2:Int).toNat) r8.2.2.2.1.length) (
 obind (r8.2.2.2.1[(n2:Int).toNat]?) fun n9 =>
 j150_0 d n2 r8.1.1 r8.1.2.1 r8.1.2.2.1 r8.1.2.2.2 r8.2.1 r8.2.2.1 (r8.2.2.2.1.set ((n2:Int).toNat) ((r8.2.1.length:Nat):Int)) r8.2.2.2.2) none) none) none) none) none) (
 obind (g171 d x4) fun r10 =>
 oif (Nat.ble ((r10:ByteArray).size+((⟨#[32,123]⟩:ByteArray):ByteArray).size) 9223372036854775807) (
 obind (g149 d (x1.1,x1.2.1,(x1.2.2.1++[n2]),x1.2.2.2) n3 ((r10:ByteArray)++((⟨#[32,123]⟩:ByteArray):ByteArray))) fun r11 =>
 oif (decide (0≤(n2:Int))) (
 oif (Nat.blt ((n2:Int).toNat) r11.2.2.2.1.length) (
 obind (r11.2.2.2.1[(n2:Int).toNat]?) fun n12 =>
 obind (g173 d r11.1 n2) fun r13 =>
 iterP (l150_0 d n3 r13 (j150_1 d n2 n3)) fuelN (0,(r11.1,r11.2.1,r11.2.2.1,(r11.2.2.2.1.set ((n2:Int).toNat) ((r11.2.1.length:Nat):Int)),r11.2.2.2.2))) none) none) none)) none) none:=by kernel_rfl
noncomputable def j151i163_0 (d:Nat) (n3:Int):Option Int :=
 some (-1)
noncomputable def l151i163_0_b (d:Nat) (x1:t2) (kx151i163_0_0:Int→Option Int) (ag2:t6→Option Int) (n3:Int) (n4:Int):Option Int :=
 oif (decide ((n4:Int) < ((x1.2.1.length:Nat):Int))) (
 oif (decide (0≤(n4:Int))) (
 obind (x1.2.1[(n4:Int).toNat]?) fun x5 =>
 oif ((x5.2.1:Int)==0) (
 some n4) (
 ag2 (n3,(IntKind.i64.wrap (n4+1))))) none) (
 kx151i163_0_0 n3)
noncomputable def l151i163_0 (d:Nat) (x1:t2) (kx151i163_0_0:Int→Option Int) (ag2:t6→Option Int) (s:t6):Option Int:=l151i163_0_b d x1 kx151i163_0_0 ag2 s.1 s.2
theorem e151 (d:Nat) (x1:t2):g151 (d+3) x1 =
 iterP (l151i163_0 d x1 (j151i163_0 d)) fuelN (0,0):=by kernel_rfl
noncomputable def j189_0 (d:Nat) (s4:ByteArray):Option (ByteArray×Bool) :=
 oif (Nat.ble (((⟨#[48,120]⟩:ByteArray):ByteArray).size+(s4:ByteArray).size) 9223372036854775807) (
 some ((((⟨#[48,120]⟩:ByteArray):ByteArray)++(s4:ByteArray)),true)) none
noncomputable def j189_1 (d:Nat) (kx189_0_0:ByteArray→Option (ByteArray×Bool)) (ag3:(Int×ByteArray)→Option (ByteArray×Bool)) (n4:Int) (s5:ByteArray) (b6:Bool) (b7:Bool):Option (ByteArray×Bool) :=
 oif b7 (
 oif (decide (0≤((IntKind.i64.wrap ((IntKind.i64.wrap ((BitVec.ofInt IntKind.i64.bits n4 &&& BitVec.ofInt IntKind.i64.bits 15).toNat:Int))+1)):Int))) (
 oif (decide (0≤((IntKind.i64.wrap ((BitVec.ofInt IntKind.i64.bits n4 &&& BitVec.ofInt IntKind.i64.bits 15).toNat:Int)):Int))) (
 oif (Nat.ble (((IntKind.i64.wrap ((BitVec.ofInt IntKind.i64.bits n4 &&& BitVec.ofInt IntKind.i64.bits 15).toNat:Int)):Int).toNat) (((IntKind.i64.wrap ((IntKind.i64.wrap ((BitVec.ofInt IntKind.i64.bits n4 &&& BitVec.ofInt IntKind.i64.bits 15).toNat:Int))+1)):Int).toNat)&&Nat.ble (((IntKind.i64.wrap ((IntKind.i64.wrap ((BitVec.ofInt IntKind.i64.bits n4 &&& BitVec.ofInt IntKind.i64.bits 15).toNat:Int))+1)):Int).toNat) ((⟨#[48,49,50,51,52,53,54,55,56,57,97,98,99,100,101,102]⟩:ByteArray):ByteArray).size) (
 oif (Nat.ble (((((⟨#[48,49,50,51,52,53,54,55,56,57,97,98,99,100,101,102]⟩:ByteArray):ByteArray).extract (((IntKind.i64.wrap ((BitVec.ofInt IntKind.i64.bits n4 &&& BitVec.ofInt IntKind.i64.bits 15).toNat:Int)):Int).toNat) (((IntKind.i64.wrap ((IntKind.i64.wrap ((BitVec.ofInt IntKind.i64.bits n4 &&& BitVec.ofInt IntKind.i64.bits 15).toNat:Int))+1)):Int).toNat)):ByteArray).size+(s5:ByteArray).size) 9223372036854775807) (
 ag3 ((n4.fdiv (2 ^ (min (4:Int).toNat IntKind.i64.bits))),(((((⟨#[48,49,50,51,52,53,54,55,56,57,97,98,99,100,101,102]⟩:ByteArray):ByteArray).extract (((IntKind.i64.wrap ((BitVec.ofInt IntKind.i64.bits n4 &&& BitVec.ofInt IntKind.i64.bits 15).toNat:Int)):Int).toNat) (((IntKind.i64.wrap ((IntKind.i64.wrap ((BitVec.ofInt IntKind.i64.bits n4 &&& BitVec.ofInt IntKind.i64.bits 15).toNat:Int))+1)):Int).toNat)):ByteArray)++(s5:ByteArray)))) none) none) none) none) (
 kx189_0_0 s5)
noncomputable def l189_0_b (d:Nat) (kx189_0_0:ByteArray→Option (ByteArray×Bool)) (ag3:(Int×ByteArray)→Option (ByteArray×Bool)) (n4:Int) (s5:ByteArray):Option (ByteArray×Bool) :=
 oif (decide ((n4:Int) > 0)) (
 j189_1 d kx189_0_0 ag3 n4 s5 true true) (
 j189_1 d kx189_0_0 ag3 n4 s5 false ((s5:ByteArray).toList==((⟨#[]⟩:ByteArray):ByteArray).toList))
noncomputable def l189_0 (d:Nat) (kx189_0_0:ByteArray→Option (ByteArray×Bool)) (ag3:(Int×ByteArray)→Option (ByteArray×Bool)) (s:(Int×ByteArray)):Option (ByteArray×Bool):=l189_0_b d kx189_0_0 ag3 s.1 s.2
noncomputable def j189_2 (d:Nat) (n1:Int) (b2:Bool):Option (ByteArray×Bool) :=
 oif b2 (
 some ((⟨#[]⟩:ByteArray),false)) (
 iterP (l189_0 d (j189_0 d)) fuelN (n1,(⟨#[]⟩:ByteArray)))
theorem e189 (d:Nat) (n1:Int):g189 (d+1) n1 =
 oif (decide ((n1:Int) < 0)) (
 j189_2 d n1 true) (
 j189_2 d n1 (decide ((n1:Int) > 4294967295))):=by kernel_rfl
theorem e175 (d:Nat) (n1:Int):g175 (d+1) n1 =
 oif (decide ((n1:Int) < 0)) (
 some ((⟨#[]⟩:ByteArray),false)) (
 oif (decide ((n1:Int) > 65535)) (
 some ((⟨#[]⟩:ByteArray),false)) (
 obind (g189 d n1) fun r2 =>
 some (r2.1,r2.2))):=by kernel_rfl
theorem e176 (d:Nat):g176 (d+1) =
 some [(⟨#[115,111,117,114,99,101]⟩:ByteArray),(⟨#[100,101,115,116]⟩:ByteArray),(⟨#[112,111,114,116]⟩:ByteArray),(⟨#[109,97,114,107]⟩:ByteArray)]:=by kernel_rfl
theorem e152 (d:Nat) (x1:t3):g152 (d+1) x1 =
 obind (g175 d x1.2.2.2.1) fun r2 =>
 obind (g175 d x1.2.2.1) fun r3 =>
 obind (g148 d x1.1) fun r4 =>
 oif (Nat.ble (((⟨#[102,105,108,116,101,114,32]⟩:ByteArray):ByteArray).size+(r4:ByteArray).size) 9223372036854775807) (
 oif (Nat.ble (((((⟨#[102,105,108,116,101,114,32]⟩:ByteArray):ByteArray)++(r4:ByteArray)):ByteArray).size+((⟨#[32]⟩:ByteArray):ByteArray).size) 9223372036854775807) (
 obind (g176 d) fun r5 =>
 oif (decide (0≤(x1.2.1:Int))) (
 oif (Nat.blt ((x1.2.1:Int).toNat) r5.length) (
 obind (r5[(x1.2.1:Int).toNat]?) fun s6 =>
 oif (Nat.ble (((((((⟨#[102,105,108,116,101,114,32]⟩:ByteArray):ByteArray)++(r4:ByteArray)):ByteArray)++((⟨#[32]⟩:ByteArray):ByteArray)):ByteArray).size+(s6:ByteArray).size) 9223372036854775807) (
 oif (Nat.ble (((((((((⟨#[102,105,108,116,101,114,32]⟩:ByteArray):ByteArray)++(r4:ByteArray)):ByteArray)++((⟨#[32]⟩:ByteArray):ByteArray)):ByteArray)++(s6:ByteArray)):ByteArray).size+((⟨#[32]⟩:ByteArray):ByteArray).size) 9223372036854775807) (
 oif (Nat.ble (((((((((((⟨#[102,105,108,116,101,114,32]⟩:ByteArray):ByteArray)++(r4:ByteArray)):ByteArray)++((⟨#[32]⟩:ByteArray):ByteArray)):ByteArray)++(s6:ByteArray)):ByteArray)++((⟨#[32]⟩:ByteArray):ByteArray)):ByteArray).size+(r2.1:ByteArray).size) 9223372036854775807) (
 oif (Nat.ble (((((((((((((⟨#[102,105,108,116,101,114,32]⟩:ByteArray):ByteArray)++(r4:ByteArray)):ByteArray)++((⟨#[32]⟩:ByteArray):ByteArray)):ByteArray)++(s6:ByteArray)):ByteArray)++((⟨#[32]⟩:ByteArray):ByteArray)):ByteArray)++(r2.1:ByteArray)):ByteArray).size+((⟨#[32,47,32]⟩:ByteArray):ByteArray).size) 9223372036854775807) (
 oif (Nat.ble (((((((((((((((⟨#[102,105,108,116,101,114,32]⟩:ByteArray):ByteArray)++(r4:ByteArray)):ByteArray)++((⟨#[32]⟩:ByteArray):ByteArray)):ByteArray)++(s6:ByteArray)):ByteArray)++((⟨#[32]⟩:ByteArray):ByteArray)):ByteArray)++(r2.1:ByteArray)):ByteArray)++((⟨#[32,47,32]⟩:ByteArray):ByteArray)):ByteArray).size+(r3.1:ByteArray).size) 9223372036854775807) (
 oif (Nat.ble (((((((((((((((((⟨#[102,105,108,116,101,114,32]⟩:ByteArray):ByteArray)++(r4:ByteArray)):ByteArray)++((⟨#[32]⟩:ByteArray):ByteArray)):ByteArray)++(s6:ByteArray)):ByteArray)++((⟨#[32]⟩:ByteArray):ByteArray)):ByteArray)++(r2.1:ByteArray)):ByteArray)++((⟨#[32,47,32]⟩:ByteArray):ByteArray)):ByteArray)++(r3.1:ByteArray)):ByteArray).size+((⟨#[32,45,62,32]⟩:ByteArray):ByteArray).size) 9223372036854775807) (
 obind (g148 d x1.2.2.2.2) fun r7 =>
 oif (Nat.ble (((((((((((((((((((⟨#[102,105,108,116,101,114,32]⟩:ByteArray):ByteArray)++(r4:ByteArray)):ByteArray)++((⟨#[32]⟩:ByteArray):ByteArray)):ByteArray)++(s6:ByteArray)):ByteArray)++((⟨#[32]⟩:ByteArray):ByteArray)):ByteArray)++(r2.1:ByteArray)):ByteArray)++((⟨#[32,47,32]⟩:ByteArray):ByteArray)):ByteArray)++(r3.1:ByteArray)):ByteArray)++((⟨#[32,45,62,32]⟩:ByteArray):ByteArray)):ByteArray).size+(r7:ByteArray).size) 9223372036854775807) (
 oif (Nat.ble (((((((((((((((((((((⟨#[102,105,108,116,101,114,32]⟩:ByteArray):ByteArray)++(r4:ByteArray)):ByteArray)++((⟨#[32]⟩:ByteArray):ByteArray)):ByteArray)++(s6:ByteArray)):ByteArray)++((⟨#[32]⟩:ByteArray):ByteArray)):ByteArray)++(r2.1:ByteArray)):ByteArray)++((⟨#[32,47,32]⟩:ByteArray):ByteArray)):ByteArray)++(r3.1:ByteArray)):ByteArray)++((⟨#[32,45,62,32]⟩:ByteArray):ByteArray)):ByteArray)++(r7:ByteArray)):ByteArray).size+((⟨#[59]⟩:ByteArray):ByteArray).size) 9223372036854775807) (
 some (((((((((((((((((((((⟨#[102,105,108,116,101,114,32]⟩:ByteArray):ByteArray)++(r4:ByteArray)):ByteArray)++((⟨#[32]⟩:ByteArray):ByteArray)):ByteArray)++(s6:ByteArray)):ByteArray)++((⟨#[32]⟩:ByteArray):ByteArray)):ByteArray)++(r2.1:ByteArray)):ByteArray)++((⟨#[32,47,32]⟩:ByteArray):ByteArray)):ByteArray)++(r3.1:ByteArray)):ByteArray)++((⟨#[32,45,62,32]⟩:ByteArray):ByteArray)):ByteArray)++(r7:ByteArray)):ByteArray)++((⟨#[59]⟩:ByteArray):ByteArray))) none) none) none) none) none) none) none) none) none) none) none) none:=by kernel_rfl
noncomputable def j88_0 (d:Nat) (x1:t2) (l20:List t6) (s39:ByteArray) (n40:Int) (l41:List t0) (l42:List Int) (l43:List Int) (l44:List Int) (l45:List Int) (l46:List t3) (l47:List Int):Option t1 :=
 oif ((x1.2.2.2:Int) != 0) (
 some (s39,l41,l42,l43,l44,l45,l46,l47,((mfind l20 x1.2.2.2).getD 0))) (
 some (s39,l41,l42,l43,l44,l45,l46,l47,n40))
noncomputable def l88_3_b (d:Nat) (x1:t2) (l20:List t6) (kx88_3_0:ByteArray→Int→(List t0)→(List Int)→(List Int)→(List Int)→(List Int)→(List t3)→(List Int)→Option t1) (ag38:(Int×t1)→Option t1) (n39:Int) (x40:t1):Option t1 :=
 oif (decide ((n39:Int) < ((x1.2.2.1.length:Nat):Int))) (
 oif (decide (0≤(n39:Int))) (
 obind (x1.2.2.1[(n39:Int).toNat]?) fun x41 =>
 oif (Nat.ble ((x40.2.2.2.2.2.2.2.1.length+[((mfind l20 x41.2.2.2.2).getD 0)].length)*8) roomMax) (
 ag38 ((IntKind.i64.wrap (n39+1)),(x40.1,x40.2.1,x40.2.2.1,x40.2.2.2.1,x40.2.2.2.2.1,x40.2.2.2.2.2.1,x40.2.2.2.2.2.2.1,(x40.2.2.2.2.2.2.2.1++[((mfind l20 x41.2.2.2.2).getD 0)]),x40.2.2.2.2.2.2.2.2))) none) none) (
 kx88_3_0 x40.1 x40.2.2.2.2.2.2.2.2 x40.2.1 x40.2.2.1 x40.2.2.2.1 x40.2.2.2.2.1 x40.2.2.2.2.2.1 x40.2.2.2.2.2.2.1 x40.2.2.2.2.2.2.2.1)
noncomputable def l88_3 (d:Nat) (x1:t2) (l20:List t6) (kx88_3_0:ByteArray→Int→(List t0)→(List Int)→(List Int)→(List Int)→(List Int)→(List t3)→(List Int)→Option t1) (ag38:(Int×t1)→Option t1) (s:(Int×t1)):Option t1:=l88_3_b d x1 l20 kx88_3_0 ag38 s.1 s.2
noncomputable def j88_1 (d:Nat) (x1:t2) (s18:ByteArray) (n19:Int) (l20:List t6) (l21:List t0) (l26:List t3) (l27:List Int) (l33:List Int) (l34:List Int) (l35:List Int) (l37:List Int):Option t1 :=
 iterP (l88_3 d x1 l20 (j88_0 d x1 l20)) fuelN (0,(s18,l21,l35,l33,l34,l37,l26,l27,n19))
noncomputable def l88_2_b (d:Nat) (l32:List Int) (kx88_2_0:(List Int)→Option t1) (ag36:(Int×(List Int))→Option t1) (n37:Int) (l38:List Int):Option t1 :=
 oif (decide ((n37:Int)≥0)) (
 oif (decide (0≤(n37:Int))) (
 oif (Nat.blt ((n37:Int).toNat) l38.length) (
 obind (l38[(n37:Int).toNat]?) fun n39 =>
 oif (decide (0≤(n37:Int))) (
 oif (Nat.blt ((n37:Int).toNat) l32.length) (
 obind (l32[(n37:Int).toNat]?) fun n40 =>
 oif (decide ((n40:Int)≥0)) (
 oif (decide (0≤(n37:Int))) (
 oif (Nat.blt ((n37:Int).toNat) l32.length) (
 obind (l32[(n37:Int).toNat]?) fun n41 =>
 oif (decide (0≤(n41:Int))) (
 oif (Nat.blt ((n41:Int).toNat) ((l38.set ((n37:Int).toNat) (IntKind.i64.wrap (n37+1))).length)) (
 obind ((l38.set ((n37:Int).toNat) (IntKind.i64.wrap (n37+1)))[(n41:Int).toNat]?) fun n42 =>
 oif (decide (0≤(n37:Int))) (
 oif (Nat.blt ((n37:Int).toNat) ((l38.set ((n37:Int).toNat) (IntKind.i64.wrap (n37+1))).length)) (
 obind ((l38.set ((n37:Int).toNat) (IntKind.i64.wrap (n37+1)))[(n37:Int).toNat]?) fun n43 =>
 ag36 ((IntKind.i64.wrap (n37 - 1)),((l38.set ((n37:Int).toNat) (IntKind.i64.wrap (n37+1))).set ((n37:Int).toNat) n42))) none) none) none) none) none) none) (
 ag36 ((IntKind.i64.wrap (n37 - 1)),(l38.set ((n37:Int).toNat) (IntKind.i64.wrap (n37+1)))))) none) none) none) none) (
 kx88_2_0 l38)
noncomputable def l88_2 (d:Nat) (l32:List Int) (kx88_2_0:(List Int)→Option t1) (ag36:(Int×(List Int))→Option t1) (s:(Int×(List Int))):Option t1:=l88_2_b d l32 kx88_2_0 ag36 s.1 s.2
noncomputable def j88_2 (d:Nat) (x1:t2) (s18:ByteArray) (n19:Int) (l20:List t6) (l21:List t0) (l26:List t3) (l27:List Int) (l32:List Int) (l33:List Int) (l34:List Int) (l35:List Int):Option t1 :=
 iterP (l88_2 d l32 (j88_1 d x1 s18 n19 l20 l21 l26 l27 l33 l34 l35)) fuelN ((IntKind.i64.wrap (((l21.length:Nat):Int) - 1)),(List.replicate ((((l21.length:Nat):Int):Int).toNat) (0:Int)))
noncomputable def j88_3 (d:Nat) (l20:List t6) (ag31:(Int×(List Int)×(List Int)×(List Int)×(List Int))→Option t1) (n32:Int) (l35:List Int) (l36:List Int) (x37:t0) (b41:Bool) (l42:List Int) (l43:List Int):Option t1 :=
 oif (decide (0≤(((mfind l20 x37.2.1).getD 0):Int))) (
 oif (Nat.blt ((((mfind l20 x37.2.1).getD 0):Int).toNat) l36.length) (
 obind (l36[(((mfind l20 x37.2.1).getD 0):Int).toNat]?) fun n44 =>
 ag31 ((IntKind.i64.wrap (n32+1)),l42,l43,(l35.set ((n32:Int).toNat) ((mfind l20 x37.2.1).getD 0)),(l36.set ((((mfind l20 x37.2.1).getD 0):Int).toNat) n32))) none) none
noncomputable def l88_1_b (d:Nat) (l20:List t6) (l21:List t0) (kx88_1_0:(List Int)→(List Int)→(List Int)→(List Int)→Option t1) (ag31:(Int×(List Int)×(List Int)×(List Int)×(List Int))→Option t1) (n32:Int) (l33:List Int) (l34:List Int) (l35:List Int) (l36:List Int):Option t1 :=
 oif (decide ((n32:Int) < ((l21.length:Nat):Int))) (
 oif (decide (0≤(n32:Int))) (
 oif (Nat.blt ((n32:Int).toNat) l21.length) (
 obind (l21[(n32:Int).toNat]?) fun x37 =>
 oif (!((mfind l20 x37.2.1).isSome)) (
 oif (decide (0≤(n32:Int))) (
 oif (Nat.blt ((n32:Int).toNat) l35.length) (
 obind (l35[(n32:Int).toNat]?) fun n38 =>
 ag31 ((IntKind.i64.wrap (n32+1)),l33,l34,(l35.set ((n32:Int).toNat) (-1)),l36)) none) none) (
 oif (decide (0≤(n32:Int))) (
 oif (Nat.blt ((n32:Int).toNat) l35.length) (
 obind (l35[(n32:Int).toNat]?) fun n39 =>
 oif (decide (0≤(((mfind l20 x37.2.1).getD 0):Int))) (
 oif (Nat.blt ((((mfind l20 x37.2.1).getD 0):Int).toNat) l36.length) (
 obind (l36[(((mfind l20 x37.2.1).getD 0):Int).toNat]?) fun n40 =>
 oif (decide ((n40:Int) < 0)) (
 oif (decide (0≤(((mfind l20 x37.2.1).getD 0):Int))) (
 oif (Nat.blt ((((mfind l20 x37.2.1).getD 0):Int).toNat) l33.length) (
 obind (l33[(((mfind l20 x37.2.1).getD 0):Int).toNat]?) fun n41 =>
 j88_3 d l20 ag31 n32 l35 l36 x37 true (l33.set ((((mfind l20 x37.2.1).getD 0):Int).toNat) n32) l34) none) none) (
 oif (decide (0≤(((mfind l20 x37.2.1).getD 0):Int))) (
 oif (Nat.blt ((((mfind l20 x37.2.1).getD 0):Int).toNat) l36.length) (
 obind (l36[(((mfind l20 x37.2.1).getD 0):Int).toNat]?) fun n42 =>
 oif (decide (0≤(n42:Int))) (
 oif (Nat.blt ((n42:Int).toNat) l34.length) (
 obind (l34[(n42:Int).toNat]?) fun n43 =>
 j88_3 d l20 ag31 n32 l35 l36 x37 false l33 (l34.set ((n42:Int).toNat) n32)) none) none) none) none)) none) none) none) none)) none) none) (
 kx88_1_0 l36 l33 l34 l35)
noncomputable def l88_1 (d:Nat) (l20:List t6) (l21:List t0) (kx88_1_0:(List Int)→(List Int)→(List Int)→(List Int)→Option t1) (ag31:(Int×(List Int)×(List Int)×(List Int)×(List Int))→Option t1) (s:(Int×(List Int)×(List Int)×(List Int)×(List Int))):Option t1:=l88_1_b d l20 l21 kx88_1_0 ag31 s.1 s.2.1 s.2.2.1 s.2.2.2.1 s.2.2.2.2
noncomputable def j88_4 (d:Nat) (x1:t2) (s18:ByteArray) (n19:Int) (l20:List t6) (l21:List t0) (l22:List Int) (l23:List Int) (l24:List Int) (l25:List Int) (l26:List t3) (l27:List Int):Option t1 :=
 obind (g124 (d+1) [(-1)] ((l21.length:Nat):Int)) fun r28 =>
 obind (g124 (d+1) [(-1)] ((l21.length:Nat):Int)) fun r29 =>
 oif (decide (0≤(((l21.length:Nat):Int):Int))) (
 oif (decide (0≤(((l21.length:Nat):Int):Int))) (
 oif (Nat.ble ((((l21.length:Nat):Int):Int).toNat) ((((l21.length:Nat):Int):Int).toNat)&&Nat.ble (((((l21.length:Nat):Int):Int).toNat)*8) roomMax) (
 oif (decide (0≤(((l21.length:Nat):Int):Int))) (
 oif (decide (0≤(((l21.length:Nat):Int):Int))) (
 oif (Nat.ble ((((l21.length:Nat):Int):Int).toNat) ((((l21.length:Nat):Int):Int).toNat)&&Nat.ble (((((l21.length:Nat):Int):Int).toNat)*8) roomMax) (
 obind (g124 (d+1) [(-1)] ((l21.length:Nat):Int)) fun r30 =>
 iterP (l88_1 d l20 l21 (j88_2 d x1 s18 n19 l20 l21 l26 l27)) fuelN (0,r28,r29,(List.replicate ((((l21.length:Nat):Int):Int).toNat) (0:Int)),r30)) none) none) none) none) none) none
noncomputable def l88_0_b (d:Nat) (x1:t2) (r16:t4) (kx88_0_0:ByteArray→Int→(List t6)→(List t0)→(List Int)→(List Int)→(List Int)→(List Int)→(List t3)→(List Int)→Option t1) (ag17:(Int×t1×(List (List (List t6))))→Option t1) (n18:Int) (x19:t1) (l20:List (List (List t6))):Option t1 :=
 oif (decide ((n18:Int) < ((r16.2.2.1.length:Nat):Int))) (
 oif (decide (0≤(n18:Int))) (
 oif (Nat.blt ((n18:Int).toNat) r16.2.2.1.length) (
 obind (r16.2.2.1[(n18:Int).toNat]?) fun n21 =>
 oif (decide (0≤(n21:Int))) (
 obind (x1.2.1[(n21:Int).toNat]?) fun x22 =>
 oif (Nat.ble ((x19.2.1.length+[x22].length)*64) roomMax) (
 oif (decide (0≤(n21:Int))) (
 obind (x1.2.1[(n21:Int).toNat]?) fun x23 =>
 ag17 ((IntKind.i64.wrap (n18+1)),(x19.1,(x19.2.1++[x22]),x19.2.2),([[(mput (unMp l20) x23.1 n18)]]:List (List (List t6))))) none) none) none) none) none) (
 kx88_0_0 x19.1 x19.2.2.2.2.2.2.2.2 (unMp l20) x19.2.1 x19.2.2.1 x19.2.2.2.1 x19.2.2.2.2.1 x19.2.2.2.2.2.1 x19.2.2.2.2.2.2.1 x19.2.2.2.2.2.2.2.1)
noncomputable def l88_0 (d:Nat) (x1:t2) (r16:t4) (kx88_0_0:ByteArray→Int→(List t6)→(List t0)→(List Int)→(List Int)→(List Int)→(List Int)→(List t3)→(List Int)→Option t1) (ag17:(Int×t1×(List (List (List t6))))→Option t1) (s:(Int×t1×(List (List (List t6))))):Option t1:=l88_0_b d x1 r16 kx88_0_0 ag17 s.1 s.2.1 s.2.2
noncomputable def j88i123_0 (d:Nat) (x1:t2) (r2:List t3) (s8:ByteArray) (l9:List t0) (l10:List t3) (n11:Int) (l12:List ByteArray) (l13:List Int) (l14:List Int) (l15:List Int):Option t1 :=
 obind (g149 d ((s8,l9,l10,n11),l12,l13,l14,l15) 0 (⟨#[125]⟩:ByteArray)) fun r16 =>
 iterP (l88_0 d x1 r16 (j88_4 d x1)) fuelN (0,(x1.1,[],[],[],[],[],r2,[],(-1)),([[([]:List t6)]]:List (List (List t6))))
noncomputable def l88i123_0_b (d:Nat) (x1:t2) (kx88i123_0_0:ByteArray→(List t0)→(List t3)→Int→(List ByteArray)→(List Int)→(List Int)→(List Int)→Option t1) (ag7:(Int×t4)→Option t1) (n8:Int) (x9:t4):Option t1 :=
 oif (decide ((n8:Int) < ((x1.2.2.1.length:Nat):Int))) (
 oif (decide (0≤(n8:Int))) (
 obind (x1.2.2.1[(n8:Int).toNat]?) fun x10 =>
 obind (g152 d x10) fun r11 =>
 obind (g149 d x9 1 r11) fun r12 =>
 ag7 ((IntKind.i64.wrap (n8+1)),r12)) none) (
 kx88i123_0_0 x9.1.1 x9.1.2.1 x9.1.2.2.1 x9.1.2.2.2 x9.2.1 x9.2.2.1 x9.2.2.2.1 x9.2.2.2.2)
noncomputable def l88i123_0 (d:Nat) (x1:t2) (kx88i123_0_0:ByteArray→(List t0)→(List t3)→Int→(List ByteArray)→(List Int)→(List Int)→(List Int)→Option t1) (ag7:(Int×t4)→Option t1) (s:(Int×t4)):Option t1:=l88i123_0_b d x1 kx88i123_0_0 ag7 s.1 s.2
noncomputable def j88i123_1 (d:Nat) (x1:t2) (r2:List t3) (s3:ByteArray):Option t1 :=
 oif (Nat.ble ((s3:ByteArray).size+((⟨#[32,123]⟩:ByteArray):ByteArray).size) 9223372036854775807) (
 obind (g149 d (x1,[],[],(List.replicate ((((x1.2.1.length:Nat):Int):Int).toNat) (0:Int)),(List.replicate ((((x1.2.1.length:Nat):Int):Int).toNat) (0:Int))) 0 ((s3:ByteArray)++((⟨#[32,123]⟩:ByteArray):ByteArray))) fun r4 =>
 obind (g151 d x1) fun r5 =>
 obind (g150 d r4 r5 1) fun r6 =>
 iterP (l88i123_0 d x1 (j88i123_0 d x1 r2)) fuelN (0,r6)) none
theorem e88 (d:Nat) (x1:t2):g88 (d+2) x1 =
 obind (g92 (d+1) x1.2.2.1) fun r2 =>
 oif (decide (0≤(((x1.2.1.length:Nat):Int):Int))) (
 oif (decide (0≤(((x1.2.1.length:Nat):Int):Int))) (
 oif (Nat.ble ((((x1.2.1.length:Nat):Int):Int).toNat) ((((x1.2.1.length:Nat):Int):Int).toNat)&&Nat.ble (((((x1.2.1.length:Nat):Int):Int).toNat)*8) roomMax) (
 oif (decide (0≤(((x1.2.1.length:Nat):Int):Int))) (
 oif (decide (0≤(((x1.2.1.length:Nat):Int):Int))) (
 oif (Nat.ble ((((x1.2.1.length:Nat):Int):Int).toNat) ((((x1.2.1.length:Nat):Int):Int).toNat)&&Nat.ble (((((x1.2.1.length:Nat):Int):Int).toNat)*8) roomMax) (
 oif (Nat.ble (((⟨#[113,100,105,115,99,32]⟩:ByteArray):ByteArray).size+(x1.1:ByteArray).size) 9223372036854775807) (
 oif ((x1.2.2.2:Int) != 0) (
 obind (g148 d x1.2.2.2) fun r3 =>
 oif (Nat.ble (((⟨#[32,100,101,102,97,117,108,116,32]⟩:ByteArray):ByteArray).size+(r3:ByteArray).size) 9223372036854775807) (
 oif (Nat.ble (((((⟨#[113,100,105,115,99,32]⟩:ByteArray):ByteArray)++(x1.1:ByteArray)):ByteArray).size+((((⟨#[32,100,101,102,97,117,108,116,32]⟩:ByteArray):ByteArray)++(r3:ByteArray)):ByteArray).size) 9223372036854775807) (
 j88i123_1 d x1 r2 (((((⟨#[113,100,105,115,99,32]⟩:ByteArray):ByteArray)++(x1.1:ByteArray)):ByteArray)++((((⟨#[32,100,101,102,97,117,108,116,32]⟩:ByteArray):ByteArray)++(r3:ByteArray)):ByteArray))) none) none) (
 j88i123_1 d x1 r2 (((⟨#[113,100,105,115,99,32]⟩:ByteArray):ByteArray)++(x1.1:ByteArray)))) none) none) none) none) none) none) none:=by kernel_rfl
noncomputable def j89_0 (d:Nat) (b4:Bool):Option Bool :=
 some true
noncomputable def l89_0_b (d:Nat) (l1:List t0) (l2:List t0) (kx89_0_0:Bool→Option Bool) (ag3:t5→Option Bool) (b4:Bool) (n5:Int):Option Bool :=
 oif (decide ((n5:Int) < ((l1.length:Nat):Int))) (
 oif (decide (0≤(n5:Int))) (
 obind (l1[(n5:Int).toNat]?) fun x6 =>
 oif (decide (0≤(n5:Int))) (
 obind (l2[(n5:Int).toNat]?) fun x7 =>
 oif (!(((x6.1:Int)==x7.1)&&(((x6.2.1:Int)==x7.2.1)&&(((x6.2.2.1:Int)==x7.2.2.1)&&(((x6.2.2.2.1:Int)==x7.2.2.2.1)&&(((x6.2.2.2.2.1:Int)==x7.2.2.2.2.1)&&(((x6.2.2.2.2.2.1:Int)==x7.2.2.2.2.2.1)&&(((x6.2.2.2.2.2.2.1:Int)==x7.2.2.2.2.2.2.1)&&(((x6.2.2.2.2.2.2.2:Int)==x7.2.2.2.2.2.2.2)&&true))))))))) (
 some false) (
 ag3 (b4,(IntKind.i64.wrap (n5+1))))) none) none) (
 kx89_0_0 b4)
noncomputable def l89_0 (d:Nat) (l1:List t0) (l2:List t0) (kx89_0_0:Bool→Option Bool) (ag3:t5→Option Bool) (s:t5):Option Bool:=l89_0_b d l1 l2 kx89_0_0 ag3 s.1 s.2
theorem e89 (d:Nat) (l1:List t0) (l2:List t0):g89 (d+1) l1 l2 =
 oif ((((l1.length:Nat):Int):Int) != ((l2.length:Nat):Int)) (
 some false) (
 iterP (l89_0 d l1 l2 (j89_0 d)) fuelN (false,0)):=by kernel_rfl
noncomputable def j90_0 (d:Nat) (b4:Bool):Option Bool :=
 some true
noncomputable def l90_0_b (d:Nat) (l1:List Int) (l2:List Int) (kx90_0_0:Bool→Option Bool) (ag3:t5→Option Bool) (b4:Bool) (n5:Int):Option Bool :=
 oif (decide ((n5:Int) < ((l1.length:Nat):Int))) (
 oif (decide (0≤(n5:Int))) (
 obind (l1[(n5:Int).toNat]?) fun n6 =>
 oif (decide (0≤(n5:Int))) (
 obind (l2[(n5:Int).toNat]?) fun n7 =>
 oif ((n6:Int) != n7) (
 some false) (
 ag3 (b4,(IntKind.i64.wrap (n5+1))))) none) none) (
 kx90_0_0 b4)
noncomputable def l90_0 (d:Nat) (l1:List Int) (l2:List Int) (kx90_0_0:Bool→Option Bool) (ag3:t5→Option Bool) (s:t5):Option Bool:=l90_0_b d l1 l2 kx90_0_0 ag3 s.1 s.2
theorem e90 (d:Nat) (l1:List Int) (l2:List Int):g90 (d+1) l1 l2 =
 oif ((((l1.length:Nat):Int):Int) != ((l2.length:Nat):Int)) (
 some false) (
 iterP (l90_0 d l1 l2 (j90_0 d)) fuelN (false,0)):=by kernel_rfl
noncomputable def j49_0 (d:Nat) (x1:t1) (b2:Bool):Option Bool :=
 oif b2 (
 some false) (
 obind (g50 d x1) fun r3 =>
 obind (g87 d r3) fun r4 =>
 oif (!r4) (
 some false) (
 obind (g88 d r3) fun r5 =>
 obind (g89 d x1.2.1 r5.2.1) fun r6 =>
 oif r6 (
 obind (g90 d x1.2.2.1 r5.2.2.1) fun r7 =>
 oif r7 (
 obind (g90 d x1.2.2.2.1 r5.2.2.2.1) fun r8 =>
 oif r8 (
 obind (g90 d x1.2.2.2.2.1 r5.2.2.2.2.1) fun r9 =>
 oif r9 (
 obind (g90 d x1.2.2.2.2.2.1 r5.2.2.2.2.2.1) fun r10 =>
 oif r10 (
 obind (g90 d x1.2.2.2.2.2.2.2.1 r5.2.2.2.2.2.2.2.1) fun r11 =>
 oif r11 (
 some ((x1.2.2.2.2.2.2.2.2:Int)==r5.2.2.2.2.2.2.2.2)) (
 some false)) (
 some false)) (
 some false)) (
 some false)) (
 some false)) (
 some false)))
theorem e49 (d:Nat) (x1:t1):g49 (d+1) x1 =
 oif (decide ((((x1.2.1.length:Nat):Int):Int) > 24)) (
 j49_0 d x1 true) (
 j49_0 d x1 (decide ((((x1.2.2.2.2.2.2.1.length:Nat):Int):Int) > 16))):=by kernel_rfl
theorem e12 (d:Nat) (x1:t1):g12 (d+1) x1 =
 obind (g49 d x1) fun r2 =>
 oif (!r2) (
 some (((⟨#[]⟩:ByteArray),[],[],0),false)) (
 obind (g50 d x1) fun r3 =>
 some (r3,true)):=by kernel_rfl
theorem e96 (d:Nat) (x1:t0) (x2:t0):g96 (d+1) x1 x2 =
 oif ((x1.1:Int) != x2.1) (
 some false) (
 oif ((x1.2.1:Int) != x2.2.1) (
 some false) (
 oif ((x1.2.2.1:Int) != x2.2.2.1) (
 some false) (
 oif ((x1.2.2.2.1:Int) != x2.2.2.2.1) (
 some false) (
 oif ((x1.2.2.2.2.1:Int) != x2.2.2.2.2.1) (
 some false) (
 oif ((x1.2.2.2.2.2.1:Int) != x2.2.2.2.2.2.1) (
 some false) (
 oif ((x1.2.2.2.2.2.2.1:Int) != x2.2.2.2.2.2.2.1) (
 some false) (
 oif ((x1.2.2.2.2.2.2.2:Int) != x2.2.2.2.2.2.2.2) (
 some false) (
 some true)))))))):=by kernel_rfl
noncomputable def j51_0 (d:Nat) (b4:Bool):Option Bool :=
 some true
noncomputable def l51_0_b (d:Nat) (l1:List t0) (l2:List t0) (kx51_0_0:Bool→Option Bool) (ag3:t5→Option Bool) (b4:Bool) (n5:Int):Option Bool :=
 oif (decide ((n5:Int) < ((l1.length:Nat):Int))) (
 oif (decide (0≤(n5:Int))) (
 obind (l1[(n5:Int).toNat]?) fun x6 =>
 oif (decide (0≤(n5:Int))) (
 obind (l2[(n5:Int).toNat]?) fun x7 =>
 obind (g96 d x6 x7) fun r8 =>
 oif (!r8) (
 some false) (
 ag3 (b4,(IntKind.i64.wrap (n5+1))))) none) none) (
 kx51_0_0 b4)
noncomputable def l51_0 (d:Nat) (l1:List t0) (l2:List t0) (kx51_0_0:Bool→Option Bool) (ag3:t5→Option Bool) (s:t5):Option Bool:=l51_0_b d l1 l2 kx51_0_0 ag3 s.1 s.2
theorem e51 (d:Nat) (l1:List t0) (l2:List t0):g51 (d+1) l1 l2 =
 oif ((((l1.length:Nat):Int):Int) != ((l2.length:Nat):Int)) (
 some false) (
 iterP (l51_0 d l1 l2 (j51_0 d)) fuelN (false,0)):=by kernel_rfl
theorem e97 (d:Nat) (x1:t3) (x2:t3):g97 (d+1) x1 x2 =
 oif ((x1.1:Int) != x2.1) (
 some false) (
 oif ((x1.2.1:Int) != x2.2.1) (
 some false) (
 oif ((x1.2.2.1:Int) != x2.2.2.1) (
 some false) (
 oif ((x1.2.2.2.1:Int) != x2.2.2.2.1) (
 some false) (
 oif ((x1.2.2.2.2:Int) != x2.2.2.2.2) (
 some false) (
 some true))))):=by kernel_rfl
noncomputable def j52_0 (d:Nat) (b4:Bool):Option Bool :=
 some true
noncomputable def l52_0_b (d:Nat) (l1:List t3) (l2:List t3) (kx52_0_0:Bool→Option Bool) (ag3:t5→Option Bool) (b4:Bool) (n5:Int):Option Bool :=
 oif (decide ((n5:Int) < ((l1.length:Nat):Int))) (
 oif (decide (0≤(n5:Int))) (
 obind (l1[(n5:Int).toNat]?) fun x6 =>
 oif (decide (0≤(n5:Int))) (
 obind (l2[(n5:Int).toNat]?) fun x7 =>
 obind (g97 d x6 x7) fun r8 =>
 oif (!r8) (
 some false) (
 ag3 (b4,(IntKind.i64.wrap (n5+1))))) none) none) (
 kx52_0_0 b4)
noncomputable def l52_0 (d:Nat) (l1:List t3) (l2:List t3) (kx52_0_0:Bool→Option Bool) (ag3:t5→Option Bool) (s:t5):Option Bool:=l52_0_b d l1 l2 kx52_0_0 ag3 s.1 s.2
theorem e52 (d:Nat) (l1:List t3) (l2:List t3):g52 (d+1) l1 l2 =
 oif ((((l1.length:Nat):Int):Int) != ((l2.length:Nat):Int)) (
 some false) (
 iterP (l52_0 d l1 l2 (j52_0 d)) fuelN (false,0)):=by kernel_rfl
theorem e13 (d:Nat) (x1:t2) (x2:t2):g13 (d+1) x1 x2 =
 oif (!((x1.1:ByteArray).toList==(x2.1:ByteArray).toList)) (
 some false) (
 obind (g51 d x1.2.1 x2.2.1) fun r3 =>
 oif (!r3) (
 some false) (
 obind (g52 d x1.2.2.1 x2.2.2.1) fun r4 =>
 oif (!r4) (
 some false) (
 oif ((x1.2.2.2:Int) != x2.2.2.2) (
 some false) (
 some true)))):=by kernel_rfl
noncomputable def j29_0 (d:Nat) (b4:Bool):Option Bool :=
 some true
noncomputable def l29_0_b (d:Nat) (l1:List Int) (l2:List Int) (kx29_0_0:Bool→Option Bool) (ag3:t5→Option Bool) (b4:Bool) (n5:Int):Option Bool :=
 oif (decide ((n5:Int) < ((l1.length:Nat):Int))) (
 oif (decide (0≤(n5:Int))) (
 obind (l1[(n5:Int).toNat]?) fun n6 =>
 oif (decide (0≤(n5:Int))) (
 obind (l2[(n5:Int).toNat]?) fun n7 =>
 oif ((n6:Int) != n7) (
 some false) (
 ag3 (b4,(IntKind.i64.wrap (n5+1))))) none) none) (
 kx29_0_0 b4)
noncomputable def l29_0 (d:Nat) (l1:List Int) (l2:List Int) (kx29_0_0:Bool→Option Bool) (ag3:t5→Option Bool) (s:t5):Option Bool:=l29_0_b d l1 l2 kx29_0_0 ag3 s.1 s.2
theorem e29 (d:Nat) (l1:List Int) (l2:List Int):g29 (d+1) l1 l2 =
 oif ((((l1.length:Nat):Int):Int) != ((l2.length:Nat):Int)) (
 some false) (
 iterP (l29_0 d l1 l2 (j29_0 d)) fuelN (false,0)):=by kernel_rfl
theorem e14 (d:Nat) (x1:t1) (x2:t1):g14 (d+1) x1 x2 =
 oif (!((x1.1:ByteArray).toList==(x2.1:ByteArray).toList)) (
 some false) (
 obind (g51 d x1.2.1 x2.2.1) fun r3 =>
 oif (!r3) (
 some false) (
 obind (g29 d x1.2.2.1 x2.2.2.1) fun r4 =>
 oif (!r4) (
 some false) (
 obind (g29 d x1.2.2.2.1 x2.2.2.2.1) fun r5 =>
 oif (!r5) (
 some false) (
 obind (g29 d x1.2.2.2.2.1 x2.2.2.2.2.1) fun r6 =>
 oif (!r6) (
 some false) (
 obind (g29 d x1.2.2.2.2.2.1 x2.2.2.2.2.2.1) fun r7 =>
 oif (!r7) (
 some false) (
 obind (g52 d x1.2.2.2.2.2.2.1 x2.2.2.2.2.2.2.1) fun r8 =>
 oif (!r8) (
 some false) (
 obind (g29 d x1.2.2.2.2.2.2.2.1 x2.2.2.2.2.2.2.2.1) fun r9 =>
 oif (!r9) (
 some false) (
 oif ((x1.2.2.2.2.2.2.2.2:Int) != x2.2.2.2.2.2.2.2.2) (
 some false) (
 some true))))))))):=by kernel_rfl
noncomputable def j55_0 (d:Nat) (n4:Int) (n5:Int):Option Int :=
 some n4
noncomputable def l55_0_b (d:Nat) (l1:List t0) (kx55_0_0:Int→Int→Option Int) (ag3:(Int×Int×Int)→Option Int) (n4:Int) (n5:Int) (n6:Int):Option Int :=
 oif (decide ((n6:Int) < ((l1.length:Nat):Int))) (
 oif (decide (0≤(n6:Int))) (
 obind (l1[(n6:Int).toNat]?) fun x7 =>
 oif ((x7.1:Int) != n4) (
 some (-1)) (
 oif (decide (0≤(n6:Int))) (
 obind (l1[(n6:Int).toNat]?) fun x8 =>
 oif ((x8.2.1:Int) != (IntKind.i64.wrap (n4+1))) (
 some (-1)) (
 oif (decide (0≤(n6:Int))) (
 obind (l1[(n6:Int).toNat]?) fun x9 =>
 oif ((x9.2.2.1:Int) != (IntKind.i64.wrap ((IntKind.i64.wrap (n4+1))+1))) (
 some (-1)) (
 oif (decide (0≤(n6:Int))) (
 obind (l1[(n6:Int).toNat]?) fun x10 =>
 oif ((x10.2.2.2.1:Int) != (IntKind.i64.wrap ((IntKind.i64.wrap ((IntKind.i64.wrap (n4+1))+1))+1))) (
 some (-1)) (
 oif (decide (0≤(n6:Int))) (
 obind (l1[(n6:Int).toNat]?) fun x11 =>
 oif ((x11.2.2.2.2.1:Int) != (IntKind.i64.wrap ((IntKind.i64.wrap ((IntKind.i64.wrap ((IntKind.i64.wrap (n4+1))+1))+1))+1))) (
 some (-1)) (
 oif (decide (0≤(n6:Int))) (
 obind (l1[(n6:Int).toNat]?) fun x12 =>
 oif ((x12.2.2.2.2.2.1:Int) != (IntKind.i64.wrap ((IntKind.i64.wrap ((IntKind.i64.wrap ((IntKind.i64.wrap ((IntKind.i64.wrap (n4+1))+1))+1))+1))+1))) (
 some (-1)) (
 oif (decide (0≤(n6:Int))) (
 obind (l1[(n6:Int).toNat]?) fun x13 =>
 oif ((x13.2.2.2.2.2.2.1:Int) != (IntKind.i64.wrap ((IntKind.i64.wrap ((IntKind.i64.wrap ((IntKind.i64.wrap ((IntKind.i64.wrap ((IntKind.i64.wrap (n4+1))+1))+1))+1))+1))+1))) (
 some (-1)) (
 oif (decide (0≤(n6:Int))) (
 obind (l1[(n6:Int).toNat]?) fun x14 =>
 oif ((x14.2.2.2.2.2.2.2:Int) != (IntKind.i64.wrap ((IntKind.i64.wrap ((IntKind.i64.wrap ((IntKind.i64.wrap ((IntKind.i64.wrap ((IntKind.i64.wrap ((IntKind.i64.wrap (n4+1))+1))+1))+1))+1))+1))+1))) (
 some (-1)) (
 ag3 ((IntKind.i64.wrap ((IntKind.i64.wrap ((IntKind.i64.wrap ((IntKind.i64.wrap ((IntKind.i64.wrap ((IntKind.i64.wrap ((IntKind.i64.wrap ((IntKind.i64.wrap (n4+1))+1))+1))+1))+1))+1))+1))+1)),n5,(IntKind.i64.wrap (n6+1))))) none)) none)) none)) none)) none)) none)) none)) none) (
 kx55_0_0 n4 n5)
noncomputable def l55_0 (d:Nat) (l1:List t0) (kx55_0_0:Int→Int→Option Int) (ag3:(Int×Int×Int)→Option Int) (s:(Int×Int×Int)):Option Int:=l55_0_b d l1 kx55_0_0 ag3 s.1 s.2.1 s.2.2
theorem e55 (d:Nat) (l1:List t0) (n2:Int):g55 (d+1) l1 n2 =
 iterP (l55_0 d l1 (j55_0 d)) fuelN (n2,0,0):=by kernel_rfl
noncomputable def j56_0 (d:Nat) (n4:Int) (n5:Int):Option Int :=
 some n4
noncomputable def l56_0_b (d:Nat) (l1:List t3) (kx56_0_0:Int→Int→Option Int) (ag3:(Int×Int×Int)→Option Int) (n4:Int) (n5:Int) (n6:Int):Option Int :=
 oif (decide ((n6:Int) < ((l1.length:Nat):Int))) (
 oif (decide (0≤(n6:Int))) (
 obind (l1[(n6:Int).toNat]?) fun x7 =>
 oif ((x7.1:Int) != n4) (
 some (-1)) (
 oif (decide (0≤(n6:Int))) (
 obind (l1[(n6:Int).toNat]?) fun x8 =>
 oif ((x8.2.1:Int) != (IntKind.i64.wrap (n4+1))) (
 some (-1)) (
 oif (decide (0≤(n6:Int))) (
 obind (l1[(n6:Int).toNat]?) fun x9 =>
 oif ((x9.2.2.1:Int) != (IntKind.i64.wrap ((IntKind.i64.wrap (n4+1))+1))) (
 some (-1)) (
 oif (decide (0≤(n6:Int))) (
 obind (l1[(n6:Int).toNat]?) fun x10 =>
 oif ((x10.2.2.2.1:Int) != (IntKind.i64.wrap ((IntKind.i64.wrap ((IntKind.i64.wrap (n4+1))+1))+1))) (
 some (-1)) (
 oif (decide (0≤(n6:Int))) (
 obind (l1[(n6:Int).toNat]?) fun x11 =>
 oif ((x11.2.2.2.2:Int) != (IntKind.i64.wrap ((IntKind.i64.wrap ((IntKind.i64.wrap ((IntKind.i64.wrap (n4+1))+1))+1))+1))) (
 some (-1)) (
 ag3 ((IntKind.i64.wrap ((IntKind.i64.wrap ((IntKind.i64.wrap ((IntKind.i64.wrap ((IntKind.i64.wrap (n4+1))+1))+1))+1))+1)),n5,(IntKind.i64.wrap (n6+1))))) none)) none)) none)) none)) none) (
 kx56_0_0 n4 n5)
noncomputable def l56_0 (d:Nat) (l1:List t3) (kx56_0_0:Int→Int→Option Int) (ag3:(Int×Int×Int)→Option Int) (s:(Int×Int×Int)):Option Int:=l56_0_b d l1 kx56_0_0 ag3 s.1 s.2.1 s.2.2
theorem e56 (d:Nat) (l1:List t3) (n2:Int):g56 (d+1) l1 n2 =
 iterP (l56_0 d l1 (j56_0 d)) fuelN (n2,0,0):=by kernel_rfl
theorem e17 (d:Nat) (x1:t2) (n2:Int):g17 (d+1) x1 n2 =
 obind (g55 d x1.2.1 n2) fun r3 =>
 oif (decide ((r3:Int) < 0)) (
 some (-1)) (
 obind (g56 d x1.2.2.1 r3) fun r4 =>
 oif (decide ((r4:Int) < 0)) (
 some (-1)) (
 some r4)):=by kernel_rfl
noncomputable def j32_0 (d:Nat) (n4:Int) (l5:List Int):Option (Int×(List Int)) :=
 some (n4,l5)
noncomputable def l32_0_b (d:Nat) (kx32_0_0:Int→(List Int)→Option (Int×(List Int))) (ag3:(Int×Int×(List Int))→Option (Int×(List Int))) (n4:Int) (n5:Int) (l6:List Int):Option (Int×(List Int)) :=
 oif (decide ((n5:Int) < ((l6.length:Nat):Int))) (
 oif (decide (0≤(n5:Int))) (
 oif (Nat.blt ((n5:Int).toNat) l6.length) (
 obind (l6[(n5:Int).toNat]?) fun n7 =>
 ag3 ((IntKind.i64.wrap (n4+1)),(IntKind.i64.wrap (n5+1)),(l6.set ((n5:Int).toNat) n4))) none) none) (
 kx32_0_0 n4 l6)
noncomputable def l32_0 (d:Nat) (kx32_0_0:Int→(List Int)→Option (Int×(List Int))) (ag3:(Int×Int×(List Int))→Option (Int×(List Int))) (s:(Int×Int×(List Int))):Option (Int×(List Int)):=l32_0_b d kx32_0_0 ag3 s.1 s.2.1 s.2.2
theorem e32 (d:Nat) (l1:List Int) (n2:Int):g32 (d+1) l1 n2 =
 iterP (l32_0 d (j32_0 d)) fuelN (n2,0,l1):=by kernel_rfl
noncomputable def j53_0 (d:Nat) (n4:Int) (l5:List t0):Option (Int×(List t0)) :=
 some (n4,l5)
noncomputable def l53_0_b (d:Nat) (kx53_0_0:Int→(List t0)→Option (Int×(List t0))) (ag3:(Int×Int×(List t0))→Option (Int×(List t0))) (n4:Int) (n5:Int) (l6:List t0):Option (Int×(List t0)) :=
 oif (decide ((n5:Int) < ((l6.length:Nat):Int))) (
 oif (decide (0≤(n5:Int))) (
 oif (Nat.blt ((n5:Int).toNat) l6.length) (
 obind (l6[(n5:Int).toNat]?) fun x7 =>
 oif (decide (0≤(n5:Int))) (
 oif (Nat.blt ((n5:Int).toNat) ((l6.set ((n5:Int).toNat) (n4,x7.2)).length)) (
 obind ((l6.set ((n5:Int).toNat) (n4,x7.2))[(n5:Int).toNat]?) fun x8 =>
 oif (decide (0≤(n5:Int))) (
 oif (Nat.blt ((n5:Int).toNat) (((l6.set ((n5:Int).toNat) (n4,x7.2)).set ((n5:Int).toNat) (x8.1,(IntKind.i64.wrap (n4+1)),x8.2.2)).length)) (
 obind (((l6.set ((n5:Int).toNat) (n4,x7.2)).set ((n5:Int).toNat) (x8.1,(IntKind.i64.wrap (n4+1)),x8.2.2))[(n5:Int).toNat]?) fun x9 =>
 oif (decide (0≤(n5:Int))) (
 oif (Nat.blt ((n5:Int).toNat) ((((l6.set ((n5:Int).toNat) (n4,x7.2)).set ((n5:Int).toNat) (x8.1,(IntKind.i64.wrap (n4+1)),x8.2.2)).set ((n5:Int).toNat) (x9.1,x9.2.1,(IntKind.i64.wrap ((IntKind.i64.wrap (n4+1))+1)),x9.2.2.2)).length)) (
 obind ((((l6.set ((n5:Int).toNat) (n4,x7.2)).set ((n5:Int).toNat) (x8.1,(IntKind.i64.wrap (n4+1)),x8.2.2)).set ((n5:Int).toNat) (x9.1,x9.2.1,(IntKind.i64.wrap ((IntKind.i64.wrap (n4+1))+1)),x9.2.2.2))[(n5:Int).toNat]?) fun x10 =>
 oif (decide (0≤(n5:Int))) (
 oif (Nat.blt ((n5:Int).toNat) (((((l6.set ((n5:Int).toNat) (n4,x7.2)).set ((n5:Int).toNat) (x8.1,(IntKind.i64.wrap (n4+1)),x8.2.2)).set ((n5:Int).toNat) (x9.1,x9.2.1,(IntKind.i64.wrap ((IntKind.i64.wrap (n4+1))+1)),x9.2.2.2)).set ((n5:Int).toNat) (x10.1,x10.2.1,x10.2.2.1,(IntKind.i64.wrap ((IntKind.i64.wrap ((IntKind.i64.wrap (n4+1))+1))+1)),x10.2.2.2.2)).length)) (
 obind (((((l6.set ((n5:Int).toNat) (n4,x7.2)).set ((n5:Int).toNat) (x8.1,(IntKind.i64.wrap (n4+1)),x8.2.2)).set ((n5:Int).toNat) (x9.1,x9.2.1,(IntKind.i64.wrap ((IntKind.i64.wrap (n4+1))+1)),x9.2.2.2)).set ((n5:Int).toNat) (x10.1,x10.2.1,x10.2.2.1,(IntKind.i64.wrap ((IntKind.i64.wrap ((IntKind.i64.wrap (n4+1))+1))+1)),x10.2.2.2.2))[(n5:Int).toNat]?) fun x11 =>
 oif (decide (0≤(n5:Int))) (
 oif (Nat.blt ((n5:Int).toNat) ((((((l6.set ((n5:Int).toNat) (n4,x7.2)).set ((n5:Int).toNat) (x8.1,(IntKind.i64.wrap (n4+1)),x8.2.2)).set ((n5:Int).toNat) (x9.1,x9.2.1,(IntKind.i64.wrap ((IntKind.i64.wrap (n4+1))+1)),x9.2.2.2)).set ((n5:Int).toNat) (x10.1,x10.2.1,x10.2.2.1,(IntKind.i64.wrap ((IntKind.i64.wrap ((IntKind.i64.wrap (n4+1))+1))+1)),x10.2.2.2.2)).set ((n5:Int).toNat) (x11.1,x11.2.1,x11.2.2.1,x11.2.2.2.1,(IntKind.i64.wrap ((IntKind.i64.wrap ((IntKind.i64.wrap ((IntKind.i64.wrap (n4+1))+1))+1))+1)),x11.2.2.2.2.2)).length)) (
 obind ((((((l6.set ((n5:Int).toNat) (n4,x7.2)).set ((n5:Int).toNat) (x8.1,(IntKind.i64.wrap (n4+1)),x8.2.2)).set ((n5:Int).toNat) (x9.1,x9.2.1,(IntKind.i64.wrap ((IntKind.i64.wrap (n4+1))+1)),x9.2.2.2)).set ((n5:Int).toNat) (x10.1,x10.2.1,x10.2.2.1,(IntKind.i64.wrap ((IntKind.i64.wrap ((IntKind.i64.wrap (n4+1))+1))+1)),x10.2.2.2.2)).set ((n5:Int).toNat) (x11.1,x11.2.1,x11.2.2.1,x11.2.2.2.1,(IntKind.i64.wrap ((IntKind.i64.wrap ((IntKind.i64.wrap ((IntKind.i64.wrap (n4+1))+1))+1))+1)),x11.2.2.2.2.2))[(n5:Int).toNat]?) fun x12 =>
 oif (decide (0≤(n5:Int))) (
 oif (Nat.blt ((n5:Int).toNat) (((((((l6.set ((n5:Int).toNat) (n4,x7.2)).set ((n5:Int).toNat) (x8.1,(IntKind.i64.wrap (n4+1)),x8.2.2)).set ((n5:Int).toNat) (x9.1,x9.2.1,(IntKind.i64.wrap ((IntKind.i64.wrap (n4+1))+1)),x9.2.2.2)).set ((n5:Int).toNat) (x10.1,x10.2.1,x10.2.2.1,(IntKind.i64.wrap ((IntKind.i64.wrap ((IntKind.i64.wrap (n4+1))+1))+1)),x10.2.2.2.2)).set ((n5:Int).toNat) (x11.1,x11.2.1,x11.2.2.1,x11.2.2.2.1,(IntKind.i64.wrap ((IntKind.i64.wrap ((IntKind.i64.wrap ((IntKind.i64.wrap (n4+1))+1))+1))+1)),x11.2.2.2.2.2)).set ((n5:Int).toNat) (x12.1,x12.2.1,x12.2.2.1,x12.2.2.2.1,x12.2.2.2.2.1,(IntKind.i64.wrap ((IntKind.i64.wrap ((IntKind.i64.wrap ((IntKind.i64.wrap ((IntKind.i64.wrap (n4+1))+1))+1))+1))+1)),x12.2.2.2.2.2.2)).length)) (
 obind (((((((l6.set ((n5:Int).toNat) (n4,x7.2)).set ((n5:Int).toNat) (x8.1,(IntKind.i64.wrap (n4+1)),x8.2.2)).set ((n5:Int).toNat) (x9.1,x9.2.1,(IntKind.i64.wrap ((IntKind.i64.wrap (n4+1))+1)),x9.2.2.2)).set ((n5:Int).toNat) (x10.1,x10.2.1,x10.2.2.1,(IntKind.i64.wrap ((IntKind.i64.wrap ((IntKind.i64.wrap (n4+1))+1))+1)),x10.2.2.2.2)).set ((n5:Int).toNat) (x11.1,x11.2.1,x11.2.2.1,x11.2.2.2.1,(IntKind.i64.wrap ((IntKind.i64.wrap ((IntKind.i64.wrap ((IntKind.i64.wrap (n4+1))+1))+1))+1)),x11.2.2.2.2.2)).set ((n5:Int).toNat) (x12.1,x12.2.1,x12.2.2.1,x12.2.2.2.1,x12.2.2.2.2.1,(IntKind.i64.wrap ((IntKind.i64.wrap ((IntKind.i64.wrap ((IntKind.i64.wrap ((IntKind.i64.wrap (n4+1))+1))+1))+1))+1)),x12.2.2.2.2.2.2))[(n5:Int).toNat]?) fun x13 =>
 oif (decide (0≤(n5:Int))) (
 oif (Nat.blt ((n5:Int).toNat) ((((((((l6.set ((n5:Int).toNat) (n4,x7.2)).set ((n5:Int).toNat) (x8.1,(IntKind.i64.wrap (n4+1)),x8.2.2)).set ((n5:Int).toNat) (x9.1,x9.2.1,(IntKind.i64.wrap ((IntKind.i64.wrap (n4+1))+1)),x9.2.2.2)).set ((n5:Int).toNat) (x10.1,x10.2.1,x10.2.2.1,(IntKind.i64.wrap ((IntKind.i64.wrap ((IntKind.i64.wrap (n4+1))+1))+1)),x10.2.2.2.2)).set ((n5:Int).toNat) (x11.1,x11.2.1,x11.2.2.1,x11.2.2.2.1,(IntKind.i64.wrap ((IntKind.i64.wrap ((IntKind.i64.wrap ((IntKind.i64.wrap (n4+1))+1))+1))+1)),x11.2.2.2.2.2)).set ((n5:Int).toNat) (x12.1,x12.2.1,x12.2.2.1,x12.2.2.2.1,x12.2.2.2.2.1,(IntKind.i64.wrap ((IntKind.i64.wrap ((IntKind.i64.wrap ((IntKind.i64.wrap ((IntKind.i64.wrap (n4+1))+1))+1))+1))+1)),x12.2.2.2.2.2.2)).set ((n5:Int).toNat) (x13.1,x13.2.1,x13.2.2.1,x13.2.2.2.1,x13.2.2.2.2.1,x13.2.2.2.2.2.1,(IntKind.i64.wrap ((IntKind.i64.wrap ((IntKind.i64.wrap ((IntKind.i64.wrap ((IntKind.i64.wrap ((IntKind.i64.wrap (n4+1))+1))+1))+1))+1))+1)),x13.2.2.2.2.2.2.2)).length)) (
 obind ((((((((l6.set ((n5:Int).toNat) (n4,x7.2)).set ((n5:Int).toNat) (x8.1,(IntKind.i64.wrap (n4+1)),x8.2.2)).set ((n5:Int).toNat) (x9.1,x9.2.1,(IntKind.i64.wrap ((IntKind.i64.wrap (n4+1))+1)),x9.2.2.2)).set ((n5:Int).toNat) (x10.1,x10.2.1,x10.2.2.1,(IntKind.i64.wrap ((IntKind.i64.wrap ((IntKind.i64.wrap (n4+1))+1))+1)),x10.2.2.2.2)).set ((n5:Int).toNat) (x11.1,x11.2.1,x11.2.2.1,x11.2.2.2.1,(IntKind.i64.wrap ((IntKind.i64.wrap ((IntKind.i64.wrap ((IntKind.i64.wrap (n4+1))+1))+1))+1)),x11.2.2.2.2.2)).set ((n5:Int).toNat) (x12.1,x12.2.1,x12.2.2.1,x12.2.2.2.1,x12.2.2.2.2.1,(IntKind.i64.wrap ((IntKind.i64.wrap ((IntKind.i64.wrap ((IntKind.i64.wrap ((IntKind.i64.wrap (n4+1))+1))+1))+1))+1)),x12.2.2.2.2.2.2)).set ((n5:Int).toNat) (x13.1,x13.2.1,x13.2.2.1,x13.2.2.2.1,x13.2.2.2.2.1,x13.2.2.2.2.2.1,(IntKind.i64.wrap ((IntKind.i64.wrap ((IntKind.i64.wrap ((IntKind.i64.wrap ((IntKind.i64.wrap ((IntKind.i64.wrap (n4+1))+1))+1))+1))+1))+1)),x13.2.2.2.2.2.2.2))[(n5:Int).toNat]?) fun x14 =>
 ag3 ((IntKind.i64.wrap ((IntKind.i64.wrap ((IntKind.i64.wrap ((IntKind.i64.wrap ((IntKind.i64.wrap ((IntKind.i64.wrap ((IntKind.i64.wrap ((IntKind.i64.wrap (n4+1))+1))+1))+1))+1))+1))+1))+1)),(IntKind.i64.wrap (n5+1)),((((((((l6.set ((n5:Int).toNat) (n4,x7.2)).set ((n5:Int).toNat) (x8.1,(IntKind.i64.wrap (n4+1)),x8.2.2)).set ((n5:Int).toNat) (x9.1,x9.2.1,(IntKind.i64.wrap ((IntKind.i64.wrap (n4+1))+1)),x9.2.2.2)).set ((n5:Int).toNat) (x10.1,x10.2.1,x10.2.2.1,(IntKind.i64.wrap ((IntKind.i64.wrap ((IntKind.i64.wrap (n4+1))+1))+1)),x10.2.2.2.2)).set ((n5:Int).toNat) (x11.1,x11.2.1,x11.2.2.1,x11.2.2.2.1,(IntKind.i64.wrap ((IntKind.i64.wrap ((IntKind.i64.wrap ((IntKind.i64.wrap (n4+1))+1))+1))+1)),x11.2.2.2.2.2)).set ((n5:Int).toNat) (x12.1,x12.2.1,x12.2.2.1,x12.2.2.2.1,x12.2.2.2.2.1,(IntKind.i64.wrap ((IntKind.i64.wrap ((IntKind.i64.wrap ((IntKind.i64.wrap ((IntKind.i64.wrap (n4+1))+1))+1))+1))+1)),x12.2.2.2.2.2.2)).set ((n5:Int).toNat) (x13.1,x13.2.1,x13.2.2.1,x13.2.2.2.1,x13.2.2.2.2.1,x13.2.2.2.2.2.1,(IntKind.i64.wrap ((IntKind.i64.wrap ((IntKind.i64.wrap ((IntKind.i64.wrap ((IntKind.i64.wrap ((IntKind.i64.wrap (n4+1))+1))+1))+1))+1))+1)),x13.2.2.2.2.2.2.2)).set ((n5:Int).toNat) (x14.1,x14.2.1,x14.2.2.1,x14.2.2.2.1,x14.2.2.2.2.1,x14.2.2.2.2.2.1,x14.2.2.2.2.2.2.1,(IntKind.i64.wrap ((IntKind.i64.wrap ((IntKind.i64.wrap ((IntKind.i64.wrap ((IntKind.i64.wrap ((IntKind.i64.wrap ((IntKind.i64.wrap (n4+1))+1))+1))+1))+1))+1))+1)))))) none) none) none) none) none) none) none) none) none) none) none) none) none) none) none) none) (
 kx53_0_0 n4 l6)
noncomputable def l53_0 (d:Nat) (kx53_0_0:Int→(List t0)→Option (Int×(List t0))) (ag3:(Int×Int×(List t0))→Option (Int×(List t0))) (s:(Int×Int×(List t0))):Option (Int×(List t0)):=l53_0_b d kx53_0_0 ag3 s.1 s.2.1 s.2.2
theorem e53 (d:Nat) (l1:List t0) (n2:Int):g53 (d+1) l1 n2 =
 iterP (l53_0 d (j53_0 d)) fuelN (n2,0,l1):=by kernel_rfl
noncomputable def j54_0 (d:Nat) (n4:Int) (l5:List t3):Option (Int×(List t3)) :=
 some (n4,l5)
noncomputable def l54_0_b (d:Nat) (kx54_0_0:Int→(List t3)→Option (Int×(List t3))) (ag3:(Int×Int×(List t3))→Option (Int×(List t3))) (n4:Int) (n5:Int) (l6:List t3):Option (Int×(List t3)) :=
 oif (decide ((n5:Int) < ((l6.length:Nat):Int))) (
 oif (decide (0≤(n5:Int))) (
 oif (Nat.blt ((n5:Int).toNat) l6.length) (
 obind (l6[(n5:Int).toNat]?) fun x7 =>
 oif (decide (0≤(n5:Int))) (
 oif (Nat.blt ((n5:Int).toNat) ((l6.set ((n5:Int).toNat) (n4,x7.2)).length)) (
 obind ((l6.set ((n5:Int).toNat) (n4,x7.2))[(n5:Int).toNat]?) fun x8 =>
 oif (decide (0≤(n5:Int))) (
 oif (Nat.blt ((n5:Int).toNat) (((l6.set ((n5:Int).toNat) (n4,x7.2)).set ((n5:Int).toNat) (x8.1,(IntKind.i64.wrap (n4+1)),x8.2.2)).length)) (
 obind (((l6.set ((n5:Int).toNat) (n4,x7.2)).set ((n5:Int).toNat) (x8.1,(IntKind.i64.wrap (n4+1)),x8.2.2))[(n5:Int).toNat]?) fun x9 =>
 oif (decide (0≤(n5:Int))) (
 oif (Nat.blt ((n5:Int).toNat) ((((l6.set ((n5:Int).toNat) (n4,x7.2)).set ((n5:Int).toNat) (x8.1,(IntKind.i64.wrap (n4+1)),x8.2.2)).set ((n5:Int).toNat) (x9.1,x9.2.1,(IntKind.i64.wrap ((IntKind.i64.wrap (n4+1))+1)),x9.2.2.2)).length)) (
 obind ((((l6.set ((n5:Int).toNat) (n4,x7.2)).set ((n5:Int).toNat) (x8.1,(IntKind.i64.wrap (n4+1)),x8.2.2)).set ((n5:Int).toNat) (x9.1,x9.2.1,(IntKind.i64.wrap ((IntKind.i64.wrap (n4+1))+1)),x9.2.2.2))[(n5:Int).toNat]?) fun x10 =>
 oif (decide (0≤(n5:Int))) (
 oif (Nat.blt ((n5:Int).toNat) (((((l6.set ((n5:Int).toNat) (n4,x7.2)).set ((n5:Int).toNat) (x8.1,(IntKind.i64.wrap (n4+1)),x8.2.2)).set ((n5:Int).toNat) (x9.1,x9.2.1,(IntKind.i64.wrap ((IntKind.i64.wrap (n4+1))+1)),x9.2.2.2)).set ((n5:Int).toNat) (x10.1,x10.2.1,x10.2.2.1,(IntKind.i64.wrap ((IntKind.i64.wrap ((IntKind.i64.wrap (n4+1))+1))+1)),x10.2.2.2.2)).length)) (
 obind (((((l6.set ((n5:Int).toNat) (n4,x7.2)).set ((n5:Int).toNat) (x8.1,(IntKind.i64.wrap (n4+1)),x8.2.2)).set ((n5:Int).toNat) (x9.1,x9.2.1,(IntKind.i64.wrap ((IntKind.i64.wrap (n4+1))+1)),x9.2.2.2)).set ((n5:Int).toNat) (x10.1,x10.2.1,x10.2.2.1,(IntKind.i64.wrap ((IntKind.i64.wrap ((IntKind.i64.wrap (n4+1))+1))+1)),x10.2.2.2.2))[(n5:Int).toNat]?) fun x11 =>
 ag3 ((IntKind.i64.wrap ((IntKind.i64.wrap ((IntKind.i64.wrap ((IntKind.i64.wrap ((IntKind.i64.wrap (n4+1))+1))+1))+1))+1)),(IntKind.i64.wrap (n5+1)),(((((l6.set ((n5:Int).toNat) (n4,x7.2)).set ((n5:Int).toNat) (x8.1,(IntKind.i64.wrap (n4+1)),x8.2.2)).set ((n5:Int).toNat) (x9.1,x9.2.1,(IntKind.i64.wrap ((IntKind.i64.wrap (n4+1))+1)),x9.2.2.2)).set ((n5:Int).toNat) (x10.1,x10.2.1,x10.2.2.1,(IntKind.i64.wrap ((IntKind.i64.wrap ((IntKind.i64.wrap (n4+1))+1))+1)),x10.2.2.2.2)).set ((n5:Int).toNat) (x11.1,x11.2.1,x11.2.2.1,x11.2.2.2.1,(IntKind.i64.wrap ((IntKind.i64.wrap ((IntKind.i64.wrap ((IntKind.i64.wrap (n4+1))+1))+1))+1)))))) none) none) none) none) none) none) none) none) none) none) (
 kx54_0_0 n4 l6)
noncomputable def l54_0 (d:Nat) (kx54_0_0:Int→(List t3)→Option (Int×(List t3))) (ag3:(Int×Int×(List t3))→Option (Int×(List t3))) (s:(Int×Int×(List t3))):Option (Int×(List t3)):=l54_0_b d kx54_0_0 ag3 s.1 s.2.1 s.2.2
theorem e54 (d:Nat) (l1:List t3) (n2:Int):g54 (d+1) l1 n2 =
 iterP (l54_0 d (j54_0 d)) fuelN (n2,0,l1):=by kernel_rfl
noncomputable def j3_0 (d:Nat) (r6:(t2×Bool)) (r18:(Int×(List t0))) (r19:(Int×(List t3))) (b23:Bool):Option Bool :=
 oif b23 (
 some false) (
 obind (g17 (d+1) (r6.1.1,r18.2,r19.2,r6.1.2.2.2) 1) fun r24 =>
 oif (decide ((r24:Int) < 0)) (
 some false) (
 oif ((r24:Int) != r19.1) (
 some false) (
 some true)))
noncomputable def j3_1 (d:Nat) (x1:t1) (r4:(t2×Bool)) (r6:(t2×Bool)) (b17:Bool):Option Bool :=
 oif b17 (
 some false) (
 obind (g53 d r6.1.2.1 1) fun r18 =>
 obind (g54 d r6.1.2.2.1 r18.1) fun r19 =>
 obind (g17 (d+1) (r6.1.1,r18.2,r19.2,r6.1.2.2.2) 1) fun r20 =>
 oif (decide ((r20:Int) < 0)) (
 some false) (
 oif ((r20:Int) != r19.1) (
 some false) (
 obind (g11 (d+1) x1) fun r21 =>
 obind (g12 (d+1) r21) fun r22 =>
 obind (g13 (d+1) r22.1 r4.1) fun r23 =>
 oif (!r23) (
 j3_0 d r6 r18 r19 true) (
 j3_0 d r6 r18 r19 (!(r22.2==r4.2))))))
noncomputable def j3_2 (d:Nat) (x1:t1) (r4:(t2×Bool)) (r5:t1) (r6:(t2×Bool)) (b7:Bool):Option Bool :=
 oif b7 (
 some false) (
 obind (g11 (d+1) x1) fun r8 =>
 obind (g14 (d+1) r5 r8) fun r9 =>
 oif (!r9) (
 some false) (
 obind (g53 d r5.2.1 1) fun r10 =>
 obind (g32 d r5.2.2.1 r10.1) fun r11 =>
 obind (g32 d r5.2.2.2.1 r11.1) fun r12 =>
 obind (g32 d r5.2.2.2.2.1 r12.1) fun r13 =>
 obind (g32 d r5.2.2.2.2.2.1 r13.1) fun r14 =>
 obind (g54 d r5.2.2.2.2.2.2.1 r14.1) fun r15 =>
 obind (g32 d r5.2.2.2.2.2.2.2.1 r15.1) fun r16 =>
 oif (decide ((r16.1:Int) < 0)) (
 j3_1 d x1 r4 r6 true) (
 obind (g13 (d+1) r6.1 r4.1) fun r17 =>
 oif (!r17) (
 j3_1 d x1 r4 r6 true) (
 j3_1 d x1 r4 r6 (!(r6.2==r4.2))))))
theorem e3 (d:Nat) (x1:t1):g3 (d+2) x1 =
 obind (g9 (d+1) x1 1048576) fun r2 =>
 oif (decide ((r2:Int) < 0)) (
 some true) (
 obind (g11 (d+1) x1) fun r3 =>
 obind (g10 (d+1) r3) fun r4 =>
 obind (g11 (d+1) x1) fun r5 =>
 obind (g12 (d+1) r5) fun r6 =>
 obind (g13 (d+1) r6.1 r4.1) fun r7 =>
 oif (!r7) (
 j3_2 d x1 r4 r5 r6 true) (
 j3_2 d x1 r4 r5 r6 (!(r6.2==r4.2)))):=by kernel_rfl
end Go.Proofs.YtgilhiacfogiaaaGreatDoor
