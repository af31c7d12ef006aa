/-
  The laying of the function that sorts numbers, at this program (printed by the kit's lay-plain.mjs).
-/
import Derived.Shelf.Lays
import Derived.Ground.NamesProg
import Derived.Test.YtaggjheabeoohaaProg
namespace Go.Proofs
open Go.Shelf
def Try.lays189_ren : Go.Shelf.Ren := ⟨fun | 189 => 148 | 125 => 270 | 257 => 269 | 128 => 331 | 129 => 332 | 294 => 322 | 295 => 323 | 296 => 324 | 297 => 325 | 298 => 326 | 299 => 327 | 216 => 328 | 300 => 329 | 301 => 330 | 328 => 344 | 329 => 345 | 330 => 346 | 331 => 347 | 332 => 348 | 215 => 349 | 343 => 355 | n => n, fun | 28 => 42 | 3 => 3 | 46 => 180 | 0 => 0 | 51 => 283 | 53 => 150 | 4 => 4 | 183 => 278 | 182 => 277 | 131 => 31 | 5 => 5 | 9 => 9 | 218 => 293 | 222 => 297 | 228 => 305 | 229 => 103 | n => n, fun | n => n⟩
theorem Try.lays189 : Go.Proofs.Lays.n189 Try.prog Try.lays189_ren := {
  mixed := by kernel_rfl
  f125 := Try.func270.trans (congrArg some (by kernel_rfl))
  f128 := Try.func331.trans (congrArg some (by kernel_rfl))
  f129 := Try.func332.trans (congrArg some (by kernel_rfl))
  f189 := Try.func148.trans (congrArg some (by kernel_rfl))
  f215 := Try.func349.trans (congrArg some (by kernel_rfl))
  f216 := Try.func328.trans (congrArg some (by kernel_rfl))
  f257 := Try.func269.trans (congrArg some (by kernel_rfl))
  f294 := Try.func322.trans (congrArg some (by kernel_rfl))
  f295 := Try.func323.trans (congrArg some (by kernel_rfl))
  f296 := Try.func324.trans (congrArg some (by kernel_rfl))
  f297 := Try.func325.trans (congrArg some (by kernel_rfl))
  f298 := Try.func326.trans (congrArg some (by kernel_rfl))
  f299 := Try.func327.trans (congrArg some (by kernel_rfl))
  f300 := Try.func329.trans (congrArg some (by kernel_rfl))
  f301 := Try.func330.trans (congrArg some (by kernel_rfl))
  f328 := Try.func344.trans (congrArg some (by kernel_rfl))
  f329 := Try.func345.trans (congrArg some (by kernel_rfl))
  f330 := Try.func346.trans (congrArg some (by kernel_rfl))
  f331 := Try.func347.trans (congrArg some (by kernel_rfl))
  f332 := Try.func348.trans (congrArg some (by kernel_rfl))
  f343 := Try.func355.trans (congrArg some (by kernel_rfl))
  t0 := Try.underlying0
  a0 := Try.isAgg0
  z0 := Try.sizeOf0
  v0 := Try.zeroValue0
  t3 := Try.underlying3
  a3 := Try.isAgg3
  z3 := Try.sizeOf3
  v3 := Try.zeroValue3
  t4 := Try.underlying4
  a4 := Try.isAgg4
  z4 := Try.sizeOf4
  v4 := Try.zeroValue4
  t5 := Try.underlying5
  a5 := Try.isAgg5
  z5 := Try.sizeOf5
  v5 := Try.zeroValue5
  t9 := Try.underlying9
  a9 := Try.isAgg9
  z9 := Try.sizeOf9
  v9 := Try.zeroValue9
  t28 := Try.underlying42
  a28 := Try.isAgg42
  z28 := Try.sizeOf42
  v28 := Try.zeroValue42
  t46 := Try.underlying180
  a46 := Try.isAgg180
  z46 := Try.sizeOf180
  v46 := Try.zeroValue180
  t51 := Try.underlying283
  a51 := Try.isAgg283
  z51 := Try.sizeOf283
  v51 := Try.zeroValue283
  t53 := Try.underlying150
  a53 := Try.isAgg150
  z53 := Try.sizeOf150
  v53 := Try.zeroValue150
  t131 := Try.underlying31
  a131 := Try.isAgg31
  z131 := Try.sizeOf31
  v131 := Try.zeroValue31
  t182 := Try.underlying277
  a182 := Try.isAgg277
  z182 := Try.sizeOf277
  v182 := Try.zeroValue277
  t183 := Try.underlying278
  a183 := Try.isAgg278
  z183 := Try.sizeOf278
  v183 := Try.zeroValue278
  t218 := Try.underlying293
  a218 := Try.isAgg293
  z218 := Try.sizeOf293
  v218 := Try.zeroValue293
  t222 := Try.underlying297
  a222 := Try.isAgg297
  z222 := Try.sizeOf297
  v222 := Try.zeroValue297
  t228 := Try.underlying305
  a228 := Try.isAgg305
  z228 := Try.sizeOf305
  v228 := Try.zeroValue305
  t229 := Try.underlying103
  a229 := Try.isAgg103
  z229 := Try.sizeOf103
  v229 := Try.zeroValue103 }
end Go.Proofs
