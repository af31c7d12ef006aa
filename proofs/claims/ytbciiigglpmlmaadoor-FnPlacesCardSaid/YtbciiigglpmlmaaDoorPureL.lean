/-
  The layings of the functions that count and find a text in a text, at this program (printed by the kit's lay-plain.mjs).
-/
import Derived.Shelf.Lays
import Derived.Ground.NamesProg
import Derived.Test.YtbciiigglpmlmaaDoorProg
namespace Go.Proofs
open Go.Shelf
def Tryd.lays138_ren : Go.Shelf.Ren := ⟨fun | 138 => 122 | 195 => 144 | 218 => 145 | 143 => 146 | 219 => 162 | 217 => 172 | 225 => 173 | 224 => 174 | 267 => 175 | 266 => 179 | 314 => 180 | n => n, fun | 9 => 9 | 3 => 3 | 4 => 4 | 5 => 5 | 0 => 0 | 46 => 82 | 146 => 130 | 51 => 129 | n => n, fun | 1 => 0 | n => n⟩
theorem Tryd.lays138 : Go.Proofs.Lays.n138 Tryd.prog Tryd.lays138_ren := {
  mixed := by kernel_rfl
  f138 := Tryd.func122.trans (congrArg some (by kernel_rfl))
  f143 := Tryd.func146.trans (congrArg some (by kernel_rfl))
  f195 := Tryd.func144.trans (congrArg some (by kernel_rfl))
  f217 := Tryd.func172.trans (congrArg some (by kernel_rfl))
  f218 := Tryd.func145.trans (congrArg some (by kernel_rfl))
  f219 := Tryd.func162.trans (congrArg some (by kernel_rfl))
  f224 := Tryd.func174.trans (congrArg some (by kernel_rfl))
  f225 := Tryd.func173.trans (congrArg some (by kernel_rfl))
  f266 := Tryd.func179.trans (congrArg some (by kernel_rfl))
  f267 := Tryd.func175.trans (congrArg some (by kernel_rfl))
  f314 := Tryd.func180.trans (congrArg some (by kernel_rfl))
  t0 := Tryd.underlying0
  a0 := Tryd.isAgg0
  z0 := Tryd.sizeOf0
  v0 := Tryd.zeroValue0
  t3 := Tryd.underlying3
  a3 := Tryd.isAgg3
  z3 := Tryd.sizeOf3
  v3 := Tryd.zeroValue3
  t4 := Tryd.underlying4
  a4 := Tryd.isAgg4
  z4 := Tryd.sizeOf4
  v4 := Tryd.zeroValue4
  t5 := Tryd.underlying5
  a5 := Tryd.isAgg5
  z5 := Tryd.sizeOf5
  v5 := Tryd.zeroValue5
  t9 := Tryd.underlying9
  a9 := Tryd.isAgg9
  z9 := Tryd.sizeOf9
  v9 := Tryd.zeroValue9
  t46 := Tryd.underlying82
  a46 := Tryd.isAgg82
  z46 := Tryd.sizeOf82
  v46 := Tryd.zeroValue82
  t51 := Tryd.underlying129
  a51 := Tryd.isAgg129
  z51 := Tryd.sizeOf129
  v51 := Tryd.zeroValue129
  t146 := Tryd.underlying130
  a146 := Tryd.isAgg130
  z146 := Tryd.sizeOf130
  v146 := Tryd.zeroValue130
  g1 := by kernel_rfl }
def Tryd.lays143_ren : Go.Shelf.Ren := ⟨fun | 143 => 146 | 219 => 162 | 217 => 172 | 225 => 173 | 224 => 174 | 267 => 175 | 266 => 179 | 314 => 180 | n => n, fun | 9 => 9 | 3 => 3 | 4 => 4 | 5 => 5 | 46 => 82 | 146 => 130 | 51 => 129 | n => n, fun | 1 => 0 | n => n⟩
theorem Tryd.lays143 : Go.Proofs.Lays.n143 Tryd.prog Tryd.lays143_ren := {
  mixed := by kernel_rfl
  f143 := Tryd.func146.trans (congrArg some (by kernel_rfl))
  f217 := Tryd.func172.trans (congrArg some (by kernel_rfl))
  f219 := Tryd.func162.trans (congrArg some (by kernel_rfl))
  f224 := Tryd.func174.trans (congrArg some (by kernel_rfl))
  f225 := Tryd.func173.trans (congrArg some (by kernel_rfl))
  f266 := Tryd.func179.trans (congrArg some (by kernel_rfl))
  f267 := Tryd.func175.trans (congrArg some (by kernel_rfl))
  f314 := Tryd.func180.trans (congrArg some (by kernel_rfl))
  t3 := Tryd.underlying3
  a3 := Tryd.isAgg3
  z3 := Tryd.sizeOf3
  v3 := Tryd.zeroValue3
  t4 := Tryd.underlying4
  a4 := Tryd.isAgg4
  z4 := Tryd.sizeOf4
  v4 := Tryd.zeroValue4
  t5 := Tryd.underlying5
  a5 := Tryd.isAgg5
  z5 := Tryd.sizeOf5
  v5 := Tryd.zeroValue5
  t9 := Tryd.underlying9
  a9 := Tryd.isAgg9
  z9 := Tryd.sizeOf9
  v9 := Tryd.zeroValue9
  t46 := Tryd.underlying82
  a46 := Tryd.isAgg82
  z46 := Tryd.sizeOf82
  v46 := Tryd.zeroValue82
  t51 := Tryd.underlying129
  a51 := Tryd.isAgg129
  z51 := Tryd.sizeOf129
  v51 := Tryd.zeroValue129
  t146 := Tryd.underlying130
  a146 := Tryd.isAgg130
  z146 := Tryd.sizeOf130
  v146 := Tryd.zeroValue130
  g1 := by kernel_rfl }
end Go.Proofs
