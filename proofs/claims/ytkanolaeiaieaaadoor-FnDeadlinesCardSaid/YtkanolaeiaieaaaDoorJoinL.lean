/-
  The laying of the function that joins texts, at this program (printed by the kit's lay-plain.mjs).
-/
import Derived.Shelf.Lays
import Derived.Ground.NamesProg
import Derived.Test.YtkanolaeiaieaaaDoorProg
namespace Go.Proofs
open Go.Shelf
def Tryd.lays156_ren : Go.Shelf.Ren := ⟨fun | 156 => 106 | 165 => 137 | 166 => 138 | 169 => 139 | 240 => 154 | 241 => 155 | 276 => 174 | 277 => 175 | n => n, fun | 31 => 99 | 9 => 9 | 3 => 3 | 4 => 4 | 0 => 0 | 20 => 20 | 72 => 159 | 76 => 162 | 70 => 157 | 37 => 22 | 75 => 161 | 127 => 174 | 164 => 184 | 5 => 5 | 80 => 142 | n => n, fun | n => n⟩
theorem Tryd.lays156 : Go.Proofs.Lays.n156 Tryd.prog Tryd.lays156_ren := {
  mixed := by kernel_rfl
  f156 := Tryd.func106.trans (congrArg some (by kernel_rfl))
  f165 := Tryd.func137.trans (congrArg some (by kernel_rfl))
  f166 := Tryd.func138.trans (congrArg some (by kernel_rfl))
  f169 := Tryd.func139.trans (congrArg some (by kernel_rfl))
  f240 := Tryd.func154.trans (congrArg some (by kernel_rfl))
  f241 := Tryd.func155.trans (congrArg some (by kernel_rfl))
  f276 := Tryd.func174.trans (congrArg some (by kernel_rfl))
  f277 := Tryd.func175.trans (congrArg some (by kernel_rfl))
  t0 := Tryd.underlying0
  a0 := Tryd.isAgg0
  z0 := Tryd.sizeOf0
  v0 := Tryd.zeroValue0
  t3 := Tryd.underlying3
  a3 := Tryd.isAgg3
  z3 := Tryd.sizeOf3
  v3 := Tryd.zeroValue3
  t4 := Tryd.underlying4
  a4 := Tryd.isAgg4
  z4 := Tryd.sizeOf4
  v4 := Tryd.zeroValue4
  t9 := Tryd.underlying9
  a9 := Tryd.isAgg9
  z9 := Tryd.sizeOf9
  v9 := Tryd.zeroValue9
  t20 := Tryd.underlying20
  a20 := Tryd.isAgg20
  z20 := Tryd.sizeOf20
  v20 := Tryd.zeroValue20
  t31 := Tryd.underlying99
  a31 := Tryd.isAgg99
  z31 := Tryd.sizeOf99
  v31 := Tryd.zeroValue99
  t37 := Tryd.underlying22
  a37 := Tryd.isAgg22
  z37 := Tryd.sizeOf22
  v37 := Tryd.zeroValue22
  t70 := Tryd.underlying157
  a70 := Tryd.isAgg157
  z70 := Tryd.sizeOf157
  v70 := Tryd.zeroValue157
  t72 := Tryd.underlying159
  a72 := Tryd.isAgg159
  z72 := Tryd.sizeOf159
  v72 := Tryd.zeroValue159
  t75 := Tryd.underlying161
  a75 := Tryd.isAgg161
  z75 := Tryd.sizeOf161
  v75 := Tryd.zeroValue161
  t76 := Tryd.underlying162
  a76 := Tryd.isAgg162
  z76 := Tryd.sizeOf162
  v76 := Tryd.zeroValue162
  t127 := Tryd.underlying174
  a127 := Tryd.isAgg174
  z127 := Tryd.sizeOf174
  v127 := Tryd.zeroValue174
  t164 := Tryd.underlying184
  a164 := Tryd.isAgg184
  z164 := Tryd.sizeOf184
  v164 := Tryd.zeroValue184 }
end Go.Proofs
