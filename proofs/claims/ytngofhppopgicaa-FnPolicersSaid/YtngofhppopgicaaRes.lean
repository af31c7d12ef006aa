/-
  The residual forms of the program's functions under the abstract interpreter, printed by program (wip/gen/gen.py); each equation is checked by the kernel.
  Conditions: none.
-/
import Derived.Test.YtngofhppopgicaaKit
import Derived.Test.YtngofhppopgicaaProg
import Derived.KernelRfl
set_option linter.all false
set_option maxRecDepth 1000000
namespace Go.Proofs.Ytngofhppopgicaa
open Go.Ev Go.Ek

def loopsOf : FuncId → Nat → List (Nat × Value)

  | _, _ => []
def modeOf : FuncId → Ev.Mode

  | _ => .drop
def ann (fuel : Nat) : Ann := ⟨fuel, loopsOf, modeOf, fun _ => none⟩

def vw0 {β : Type} (v : Value) (K : Int → Int → Int → Int → Int → Int → Int → Int → Option β) : Option β := vTup v fun q => vCons q fun x24 q25 => vAgg x24 fun q => vCons q fun x26 q27 => vInt .i64 x26 fun n16 => vCons q27 fun x28 q29 => vInt .i64 x28 fun n17 => vCons q29 fun x30 q31 => vInt .i64 x30 fun n18 => vCons q31 fun x32 q33 => vInt .i64 x32 fun n19 => vCons q33 fun x34 q35 => vInt .i64 x34 fun n20 => vCons q35 fun x36 q37 => vInt .i64 x36 fun n21 => vNil q37 (vCons q25 fun x38 q39 => vInt .i64 x38 fun n22 => vCons q39 fun x40 q41 => vInt .i64 x40 fun n23 => vNil q41 (K n16 n17 n18 n19 n20 n21 n22 n23))
@[congr] theorem vw0_congr {β : Type} {v u : Value} {K : Int → Int → Int → Int → Int → Int → Int → Int → Option β} (h : v = u) : vw0 v K = vw0 u K := by rw [h]
@[go_sem] theorem vw0_mk {β : Type} (n16 : Int) (n17 : Int) (n18 : Int) (n19 : Int) (n20 : Int) (n21 : Int) (n22 : Int) (n23 : Int) (K : Int → Int → Int → Int → Int → Int → Int → Int → Option β) : vw0 (.tuple #[(.agg #[(.int .i64 n16), (.int .i64 n17), (.int .i64 n18), (.int .i64 n19), (.int .i64 n20), (.int .i64 n21)]), (.int .i64 n22), (.int .i64 n23)]) K = K n16 n17 n18 n19 n20 n21 n22 n23 := (rfl)
def vw1 {β : Type} (v : Value) (K : Int → Int → Int → Int → Int → Int → Option β) : Option β := vAgg v fun q => vCons q fun x65 q66 => vInt .i64 x65 fun n59 => vCons q66 fun x67 q68 => vInt .i64 x67 fun n60 => vCons q68 fun x69 q70 => vInt .i64 x69 fun n61 => vCons q70 fun x71 q72 => vInt .i64 x71 fun n62 => vCons q72 fun x73 q74 => vInt .i64 x73 fun n63 => vCons q74 fun x75 q76 => vInt .i64 x75 fun n64 => vNil q76 (K n59 n60 n61 n62 n63 n64)
@[congr] theorem vw1_congr {β : Type} {v u : Value} {K : Int → Int → Int → Int → Int → Int → Option β} (h : v = u) : vw1 v K = vw1 u K := by rw [h]
@[go_sem] theorem vw1_mk {β : Type} (n59 : Int) (n60 : Int) (n61 : Int) (n62 : Int) (n63 : Int) (n64 : Int) (K : Int → Int → Int → Int → Int → Int → Option β) : vw1 (.agg #[(.int .i64 n59), (.int .i64 n60), (.int .i64 n61), (.int .i64 n62), (.int .i64 n63), (.int .i64 n64)]) K = K n59 n60 n61 n62 n63 n64 := (rfl)
def vw2 {β : Type} (v : Value) (K : Int → Int → Int → Int → Int → Int → Int → Bool → Option β) : Option β := vTup v fun q => vCons q fun x100 q101 => vAgg x100 fun q => vCons q fun x102 q103 => vInt .i64 x102 fun n92 => vCons q103 fun x104 q105 => vInt .i64 x104 fun n93 => vCons q105 fun x106 q107 => vInt .i64 x106 fun n94 => vCons q107 fun x108 q109 => vInt .i64 x108 fun n95 => vCons q109 fun x110 q111 => vInt .i64 x110 fun n96 => vCons q111 fun x112 q113 => vInt .i64 x112 fun n97 => vNil q113 (vCons q101 fun x114 q115 => vInt .i64 x114 fun n98 => vCons q115 fun x116 q117 => vBool x116 fun b99 => vNil q117 (K n92 n93 n94 n95 n96 n97 n98 b99))
@[congr] theorem vw2_congr {β : Type} {v u : Value} {K : Int → Int → Int → Int → Int → Int → Int → Bool → Option β} (h : v = u) : vw2 v K = vw2 u K := by rw [h]
@[go_sem] theorem vw2_mk {β : Type} (n92 : Int) (n93 : Int) (n94 : Int) (n95 : Int) (n96 : Int) (n97 : Int) (n98 : Int) (b99 : Bool) (K : Int → Int → Int → Int → Int → Int → Int → Bool → Option β) : vw2 (.tuple #[(.agg #[(.int .i64 n92), (.int .i64 n93), (.int .i64 n94), (.int .i64 n95), (.int .i64 n96), (.int .i64 n97)]), (.int .i64 n98), (.bool b99)]) K = K n92 n93 n94 n95 n96 n97 n98 b99 := (rfl)
def vw3 {β : Type} (v : Value) (K : Int → Bool → Option β) : Option β := vTup v fun q => vCons q fun x158 q159 => vInt .i64 x158 fun n156 => vCons q159 fun x160 q161 => vBool x160 fun b157 => vNil q161 (K n156 b157)
@[congr] theorem vw3_congr {β : Type} {v u : Value} {K : Int → Bool → Option β} (h : v = u) : vw3 v K = vw3 u K := by rw [h]
@[go_sem] theorem vw3_mk {β : Type} (n156 : Int) (b157 : Bool) (K : Int → Bool → Option β) : vw3 (.tuple #[(.int .i64 n156), (.bool b157)]) K = K n156 b157 := (rfl)
def vw4 {β : Type} (v : Value) (K : Int → Int → Int → Int → Int → Int → Int → Option β) : Option β := vTup v fun q => vCons q fun x189 q190 => vAgg x189 fun q => vCons q fun x191 q192 => vInt .i64 x191 fun n182 => vCons q192 fun x193 q194 => vInt .i64 x193 fun n183 => vCons q194 fun x195 q196 => vInt .i64 x195 fun n184 => vCons q196 fun x197 q198 => vInt .i64 x197 fun n185 => vCons q198 fun x199 q200 => vInt .i64 x199 fun n186 => vCons q200 fun x201 q202 => vInt .i64 x201 fun n187 => vNil q202 (vCons q190 fun x203 q204 => vInt .i64 x203 fun n188 => vNil q204 (K n182 n183 n184 n185 n186 n187 n188))
@[congr] theorem vw4_congr {β : Type} {v u : Value} {K : Int → Int → Int → Int → Int → Int → Int → Option β} (h : v = u) : vw4 v K = vw4 u K := by rw [h]
@[go_sem] theorem vw4_mk {β : Type} (n182 : Int) (n183 : Int) (n184 : Int) (n185 : Int) (n186 : Int) (n187 : Int) (n188 : Int) (K : Int → Int → Int → Int → Int → Int → Int → Option β) : vw4 (.tuple #[(.agg #[(.int .i64 n182), (.int .i64 n183), (.int .i64 n184), (.int .i64 n185), (.int .i64 n186), (.int .i64 n187)]), (.int .i64 n188)]) K = K n182 n183 n184 n185 n186 n187 n188 := (rfl)
def vw5 {β : Type} (v : Value) (K : Int → Int → Int → Int → Option β) : Option β := vTup v fun q => vCons q fun x243 q244 => vInt .i64 x243 fun n239 => vCons q244 fun x245 q246 => vInt .i64 x245 fun n240 => vCons q246 fun x247 q248 => vInt .i64 x247 fun n241 => vCons q248 fun x249 q250 => vInt .i64 x249 fun n242 => vNil q250 (K n239 n240 n241 n242)
@[congr] theorem vw5_congr {β : Type} {v u : Value} {K : Int → Int → Int → Int → Option β} (h : v = u) : vw5 v K = vw5 u K := by rw [h]
@[go_sem] theorem vw5_mk {β : Type} (n239 : Int) (n240 : Int) (n241 : Int) (n242 : Int) (K : Int → Int → Int → Int → Option β) : vw5 (.tuple #[(.int .i64 n239), (.int .i64 n240), (.int .i64 n241), (.int .i64 n242)]) K = K n239 n240 n241 n242 := (rfl)
def vw6 {β : Type} (v : Value) (K : Int → Int → Int → Int → Int → Int → Bool → Option β) : Option β := vTup v fun q => vCons q fun x270 q271 => vAgg x270 fun q => vCons q fun x272 q273 => vInt .i64 x272 fun n263 => vCons q273 fun x274 q275 => vInt .i64 x274 fun n264 => vCons q275 fun x276 q277 => vInt .i64 x276 fun n265 => vCons q277 fun x278 q279 => vInt .i64 x278 fun n266 => vCons q279 fun x280 q281 => vInt .i64 x280 fun n267 => vCons q281 fun x282 q283 => vInt .i64 x282 fun n268 => vNil q283 (vCons q271 fun x284 q285 => vBool x284 fun b269 => vNil q285 (K n263 n264 n265 n266 n267 n268 b269))
@[congr] theorem vw6_congr {β : Type} {v u : Value} {K : Int → Int → Int → Int → Int → Int → Bool → Option β} (h : v = u) : vw6 v K = vw6 u K := by rw [h]
@[go_sem] theorem vw6_mk {β : Type} (n263 : Int) (n264 : Int) (n265 : Int) (n266 : Int) (n267 : Int) (n268 : Int) (b269 : Bool) (K : Int → Int → Int → Int → Int → Int → Bool → Option β) : vw6 (.tuple #[(.agg #[(.int .i64 n263), (.int .i64 n264), (.int .i64 n265), (.int .i64 n266), (.int .i64 n267), (.int .i64 n268)]), (.bool b269)]) K = K n263 n264 n265 n266 n267 n268 b269 := (rfl)
/-- loop.example/g00838/laws.FnPolicers -/
def f3 (call : FuncId → List Value → Nat → Heap → Option (Value × Heap)) (fuel lim : Nat) (a1 : Option Addr) (l2 : Nat) (e3 : Nat) (a4 : Option Addr) (l5 : Nat) (e6 : Nat) (H₀ : Heap) : Option (Value × Heap) :=
 oif (decide (((IntKind.i64.wrap (((l2 : Nat) : Int) + ((l5 : Nat) : Int))) : Int) > 1048576)) (
 fin H₀.length [(.bool true)] H₀) (
 obind (call 9 [(.slice a1 l2 e3)] lim H₀) fun r7 =>
 vw0 r7.1 fun n42 n43 n44 n45 n46 n47 n48 n49 =>
 let H50 := hpush r7.2 [(.int .i64 0), (.int .i64 0), (.int .i64 0), (.int .i64 0), (.int .i64 0), (.int .i64 0)]
 obind (hstoreN H50 lim ⟨r7.2.length, 0, none⟩ [(.int .i64 n42), (.int .i64 n43), (.int .i64 n44), (.int .i64 n45), (.int .i64 n46), (.int .i64 n47)]) fun H51 =>
 obind (hloadN H51 ⟨r7.2.length, 0, none⟩ 6) fun l52 =>
 vw1 (.agg l52.toArray) fun n77 n78 n79 n80 n81 n82 =>
 obind (call 10 [(.agg #[(.int .i64 n77), (.int .i64 n78), (.int .i64 n79), (.int .i64 n80), (.int .i64 n81), (.int .i64 n82)]), (.int .i64 n48), (.int .i64 n49)] lim H51) fun r83 =>
 vw2 r83.1 fun n118 n119 n120 n121 n122 n123 n124 b125 =>
 let H126 := hpush r83.2 [(.int .i64 0), (.int .i64 0), (.int .i64 0), (.int .i64 0), (.int .i64 0), (.int .i64 0)]
 obind (hstoreN H126 lim ⟨r83.2.length, 0, none⟩ [(.int .i64 n118), (.int .i64 n119), (.int .i64 n120), (.int .i64 n121), (.int .i64 n122), (.int .i64 n123)]) fun H127 =>
 obind (hloadN H127 ⟨r7.2.length, 0, none⟩ 6) fun l128 =>
 vw1 (.agg l128.toArray) fun n129 n130 n131 n132 n133 n134 =>
 obind (call 11 [(.agg #[(.int .i64 n129), (.int .i64 n130), (.int .i64 n131), (.int .i64 n132), (.int .i64 n133), (.int .i64 n134)]), (.int .i64 n48), (.int .i64 n49)] lim H127) fun r135 =>
 vw2 r135.1 fun n136 n137 n138 n139 n140 n141 n142 b143 =>
 let H144 := hpush r135.2 [(.int .i64 0), (.int .i64 0), (.int .i64 0), (.int .i64 0), (.int .i64 0), (.int .i64 0)]
 obind (hstoreN H144 lim ⟨r135.2.length, 0, none⟩ [(.int .i64 n136), (.int .i64 n137), (.int .i64 n138), (.int .i64 n139), (.int .i64 n140), (.int .i64 n141)]) fun H145 =>
 obind (hloadN H145 ⟨r7.2.length, 0, none⟩ 6) fun l146 =>
 vw1 (.agg l146.toArray) fun n147 n148 n149 n150 n151 n152 =>
 obind (call 12 [(.agg #[(.int .i64 n147), (.int .i64 n148), (.int .i64 n149), (.int .i64 n150), (.int .i64 n151), (.int .i64 n152)]), (.int .i64 n48), (.int .i64 n49)] lim H145) fun r153 =>
 vw3 r153.1 fun n162 b163 =>
 obind (hloadN r153.2 ⟨r7.2.length, 0, none⟩ 6) fun l164 =>
 vw1 (.agg l164.toArray) fun n165 n166 n167 n168 n169 n170 =>
 obind (call 13 [(.agg #[(.int .i64 n165), (.int .i64 n166), (.int .i64 n167), (.int .i64 n168), (.int .i64 n169), (.int .i64 n170)]), (.int .i64 n48), (.int .i64 n49)] lim r153.2) fun r171 =>
 vw3 r171.1 fun n172 b173 =>
 obind (call 14 [(.slice a4 l5 e6)] lim r171.2) fun r174 =>
 vw4 r174.1 fun n205 n206 n207 n208 n209 n210 n211 =>
 let H212 := hpush r174.2 [(.int .i64 0), (.int .i64 0), (.int .i64 0), (.int .i64 0), (.int .i64 0), (.int .i64 0)]
 obind (hstoreN H212 lim ⟨r174.2.length, 0, none⟩ [(.int .i64 n205), (.int .i64 n206), (.int .i64 n207), (.int .i64 n208), (.int .i64 n209), (.int .i64 n210)]) fun H213 =>
 obind (hloadN H213 ⟨r174.2.length, 0, none⟩ 6) fun l214 =>
 vw1 (.agg l214.toArray) fun n215 n216 n217 n218 n219 n220 =>
 obind (call 15 [(.agg #[(.int .i64 n215), (.int .i64 n216), (.int .i64 n217), (.int .i64 n218), (.int .i64 n219), (.int .i64 n220)]), (.int .i64 n211)] lim H213) fun r221 =>
 vw3 r221.1 fun n222 b223 =>
 obind (hloadN r221.2 ⟨r174.2.length, 0, none⟩ 6) fun l224 =>
 vw1 (.agg l224.toArray) fun n225 n226 n227 n228 n229 n230 =>
 obind (call 16 [(.agg #[(.int .i64 n225), (.int .i64 n226), (.int .i64 n227), (.int .i64 n228), (.int .i64 n229), (.int .i64 n230)]), (.int .i64 n211)] lim r221.2) fun r231 =>
 vw3 r231.1 fun n232 b233 =>
 obind (call 17 [(.slice a4 l5 e6)] lim r231.2) fun r234 =>
 vw5 r234.1 fun n251 n252 n253 n254 =>
 obind (call 18 [(.int .i64 n251), (.int .i64 n252), (.int .i64 n253), (.int .i64 n254)] lim r234.2) fun r255 =>
 vw6 r255.1 fun n286 n287 n288 n289 n290 n291 b292 =>
 let H293 := hpush r255.2 [(.int .i64 0), (.int .i64 0), (.int .i64 0), (.int .i64 0), (.int .i64 0), (.int .i64 0)]
 obind (hstoreN H293 lim ⟨r255.2.length, 0, none⟩ [(.int .i64 n286), (.int .i64 n287), (.int .i64 n288), (.int .i64 n289), (.int .i64 n290), (.int .i64 n291)]) fun H294 =>
 obind (call 19 [(.int .i64 n251), (.int .i64 n252), (.int .i64 n253), (.int .i64 n254)] lim H294) fun r295 =>
 vw6 r295.1 fun n296 n297 n298 n299 n300 n301 b302 =>
 let H303 := hpush r295.2 [(.int .i64 0), (.int .i64 0), (.int .i64 0), (.int .i64 0), (.int .i64 0), (.int .i64 0)]
 obind (hstoreN H303 lim ⟨r295.2.length, 0, none⟩ [(.int .i64 n296), (.int .i64 n297), (.int .i64 n298), (.int .i64 n299), (.int .i64 n300), (.int .i64 n301)]) fun H304 =>
 oif (!(b125 == b143)) (
 oif (sameRd (obind (hloadN H304 ⟨r7.2.length, 0, none⟩ 6) fun l => some (.agg l.toArray)) (obind (hloadN H304 ⟨r7.2.length, 0, none⟩ 6) fun l => some (.agg l.toArray))) (
 fin H₀.length [(.bool false)] H304) none) (
 obind (hloadN H304 ⟨r83.2.length, 0, none⟩ 6) fun l305 =>
 vw1 (.agg l305.toArray) fun n306 n307 n308 n309 n310 n311 =>
 obind (hloadN H304 ⟨r135.2.length, 0, none⟩ 6) fun l312 =>
 vw1 (.agg l312.toArray) fun n313 n314 n315 n316 n317 n318 =>
 oif (!((((n306 : Int) == n313) && (((n307 : Int) == n314) && (((n308 : Int) == n315) && true))) && ((((n309 : Int) == n316) && (((n310 : Int) == n317) && (((n311 : Int) == n318) && true))) && true))) (
 oif (sameRd (obind (hloadN H304 ⟨r7.2.length, 0, none⟩ 6) fun l => some (.agg l.toArray)) (obind (hloadN H304 ⟨r7.2.length, 0, none⟩ 6) fun l => some (.agg l.toArray))) (
 fin H₀.length [(.bool false)] H304) none) (
 oif ((n124 : Int) != n142) (
 oif (sameRd (obind (hloadN H304 ⟨r7.2.length, 0, none⟩ 6) fun l => some (.agg l.toArray)) (obind (hloadN H304 ⟨r7.2.length, 0, none⟩ 6) fun l => some (.agg l.toArray))) (
 fin H₀.length [(.bool false)] H304) none) (
 oif (!(b163 == b173)) (
 oif (sameRd (obind (hloadN H304 ⟨r7.2.length, 0, none⟩ 6) fun l => some (.agg l.toArray)) (obind (hloadN H304 ⟨r7.2.length, 0, none⟩ 6) fun l => some (.agg l.toArray))) (
 fin H₀.length [(.bool false)] H304) none) (
 oif ((n162 : Int) != n172) (
 oif (sameRd (obind (hloadN H304 ⟨r7.2.length, 0, none⟩ 6) fun l => some (.agg l.toArray)) (obind (hloadN H304 ⟨r7.2.length, 0, none⟩ 6) fun l => some (.agg l.toArray))) (
 fin H₀.length [(.bool false)] H304) none) (
 oif (!(b223 == b233)) (
 oif (sameRd (obind (hloadN H304 ⟨r7.2.length, 0, none⟩ 6) fun l => some (.agg l.toArray)) (obind (hloadN H304 ⟨r7.2.length, 0, none⟩ 6) fun l => some (.agg l.toArray))) (
 fin H₀.length [(.bool false)] H304) none) (
 oif ((n222 : Int) != n232) (
 oif (sameRd (obind (hloadN H304 ⟨r7.2.length, 0, none⟩ 6) fun l => some (.agg l.toArray)) (obind (hloadN H304 ⟨r7.2.length, 0, none⟩ 6) fun l => some (.agg l.toArray))) (
 fin H₀.length [(.bool false)] H304) none) (
 oif (!(b292 == b302)) (
 oif (sameRd (obind (hloadN H304 ⟨r7.2.length, 0, none⟩ 6) fun l => some (.agg l.toArray)) (obind (hloadN H304 ⟨r7.2.length, 0, none⟩ 6) fun l => some (.agg l.toArray))) (
 fin H₀.length [(.bool false)] H304) none) (
 obind (hloadN H304 ⟨r255.2.length, 0, none⟩ 6) fun l319 =>
 vw1 (.agg l319.toArray) fun n320 n321 n322 n323 n324 n325 =>
 obind (hloadN H304 ⟨r295.2.length, 0, none⟩ 6) fun l326 =>
 vw1 (.agg l326.toArray) fun n327 n328 n329 n330 n331 n332 =>
 oif (!((((n320 : Int) == n327) && (((n321 : Int) == n328) && (((n322 : Int) == n329) && true))) && ((((n323 : Int) == n330) && (((n324 : Int) == n331) && (((n325 : Int) == n332) && true))) && true))) (
 oif (sameRd (obind (hloadN H304 ⟨r7.2.length, 0, none⟩ 6) fun l => some (.agg l.toArray)) (obind (hloadN H304 ⟨r7.2.length, 0, none⟩ 6) fun l => some (.agg l.toArray))) (
 fin H₀.length [(.bool false)] H304) none) (
 obind (hloadN H304 ⟨r7.2.length, 0, none⟩ 6) fun l333 =>
 vw1 (.agg l333.toArray) fun n334 n335 n336 n337 n338 n339 =>
 obind (call 20 [(.agg #[(.int .i64 n334), (.int .i64 n335), (.int .i64 n336), (.int .i64 n337), (.int .i64 n338), (.int .i64 n339)])] lim H304) fun r340 =>
 vBool r340.1 fun b341 =>
 obind (hloadN r340.2 ⟨r7.2.length, 0, none⟩ 6) fun l342 =>
 vw1 (.agg l342.toArray) fun n343 n344 n345 n346 n347 n348 =>
 obind (call 21 [(.agg #[(.int .i64 n343), (.int .i64 n344), (.int .i64 n345), (.int .i64 n346), (.int .i64 n347), (.int .i64 n348)])] lim r340.2) fun r349 =>
 vBool r349.1 fun b350 =>
 oif (!(b341 == b350)) (
 oif (sameRd (obind (hloadN H304 ⟨r7.2.length, 0, none⟩ 6) fun l => some (.agg l.toArray)) (obind (hloadN r340.2 ⟨r7.2.length, 0, none⟩ 6) fun l => some (.agg l.toArray))) (
 fin H₀.length [(.bool false)] r349.2) none) (
 oif (!(b163 == b125)) (
 oif (sameRd (obind (hloadN H304 ⟨r7.2.length, 0, none⟩ 6) fun l => some (.agg l.toArray)) (obind (hloadN r340.2 ⟨r7.2.length, 0, none⟩ 6) fun l => some (.agg l.toArray))) (
 fin H₀.length [(.bool false)] r349.2) none) (
 oif b292 (
 obind (hloadN r349.2 ⟨r255.2.length, 0, none⟩ 6) fun l351 =>
 vw1 (.agg l351.toArray) fun n352 n353 n354 n355 n356 n357 =>
 obind (call 20 [(.agg #[(.int .i64 n352), (.int .i64 n353), (.int .i64 n354), (.int .i64 n355), (.int .i64 n356), (.int .i64 n357)])] lim r349.2) fun r358 =>
 vBool r358.1 fun b359 =>
 oif (sameRd (obind (hloadN H304 ⟨r7.2.length, 0, none⟩ 6) fun l => some (.agg l.toArray)) (obind (hloadN r340.2 ⟨r7.2.length, 0, none⟩ 6) fun l => some (.agg l.toArray))) (
 oif (!b359) (
 fin H₀.length [(.bool false)] r358.2) (
 oif (!b125) (
 fin H₀.length [(.bool true)] r358.2) (
 obind (hloadN r358.2 ⟨r7.2.length, 0, none⟩ 6) fun l360 =>
 vw1 (.agg l360.toArray) fun n361 n362 n363 n364 n365 n366 =>
 obind (call 12 [(.agg #[(.int .i64 n361), (.int .i64 n362), (.int .i64 n363), (.int .i64 n364), (.int .i64 n365), (.int .i64 n366)]), (.int .i64 n48), (.int .i64 2)] lim r358.2) fun r367 =>
 vw3 r367.1 fun n368 b369 =>
 obind (hloadN r367.2 ⟨r7.2.length, 0, none⟩ 6) fun l370 =>
 vw1 (.agg l370.toArray) fun n371 n372 n373 n374 n375 n376 =>
 obind (call 15 [(.agg #[(.int .i64 n371), (.int .i64 n372), (.int .i64 n373), (.int .i64 n374), (.int .i64 n375), (.int .i64 n376)]), (.int .i64 n48)] lim r367.2) fun r377 =>
 vw3 r377.1 fun n378 b379 =>
 obind (hloadN r377.2 ⟨r7.2.length, 0, none⟩ 6) fun l380 =>
 vw1 (.agg l380.toArray) fun n381 n382 n383 n384 n385 n386 =>
 obind (call 16 [(.agg #[(.int .i64 n381), (.int .i64 n382), (.int .i64 n383), (.int .i64 n384), (.int .i64 n385), (.int .i64 n386)]), (.int .i64 n48)] lim r377.2) fun r387 =>
 vw3 r387.1 fun n388 b389 =>
 oif (!b369) (
 fin H₀.length [(.bool false)] r387.2) (
 oif (!b379) (
 fin H₀.length [(.bool false)] r387.2) (
 oif (!b389) (
 fin H₀.length [(.bool false)] r387.2) (
 oif ((n368 : Int) != n388) (
 fin H₀.length [(.bool false)] r387.2) (
 oif ((n378 : Int) != n388) (
 fin H₀.length [(.bool false)] r387.2) (
 oif ((n142 : Int) != n172) (
 fin H₀.length [(.bool false)] r387.2) (
 oif (decide ((n142 : Int) > n49)) (
 fin H₀.length [(.bool false)] r387.2) (
 oif (decide ((n142 : Int) > n388)) (
 fin H₀.length [(.bool false)] r387.2) (
 obind (hloadN r387.2 ⟨r83.2.length, 0, none⟩ 6) fun l390 =>
 vw1 (.agg l390.toArray) fun n391 n392 n393 n394 n395 n396 =>
 obind (call 20 [(.agg #[(.int .i64 n391), (.int .i64 n392), (.int .i64 n393), (.int .i64 n394), (.int .i64 n395), (.int .i64 n396)])] lim r387.2) fun r397 =>
 vBool r397.1 fun b398 =>
 oif (!b398) (
 fin H₀.length [(.bool false)] r397.2) (
 oif ((n142 : Int) != 0) (
 oif ((n142 : Int) == 2) (
 obind (hload r397.2 ⟨r7.2.length, 0 + 3 + 2, none⟩) fun u399 =>
 vInt .i64 u399 fun n400 =>
 obind (hload r397.2 ⟨r135.2.length, 0 + 3 + 2, none⟩) fun u401 =>
 vInt .i64 u401 fun n402 =>
 oif (((IntKind.i64.wrap (n400 - n402)) : Int) == n48) (
 obind (hload r397.2 ⟨r7.2.length, 0 + 0 + 2, none⟩) fun u403 =>
 vInt .i64 u403 fun n404 =>
 obind (hload r397.2 ⟨r135.2.length, 0 + 0 + 2, none⟩) fun u405 =>
 vInt .i64 u405 fun n406 =>
 fin H₀.length [(.bool (((IntKind.i64.wrap (n404 - n406)) : Int) == n48))] r397.2) (
 fin H₀.length [(.bool false)] r397.2)) (
 obind (hload r397.2 ⟨r7.2.length, 0 + 3 + 2, none⟩) fun u407 =>
 vInt .i64 u407 fun n408 =>
 obind (hload r397.2 ⟨r135.2.length, 0 + 3 + 2, none⟩) fun u409 =>
 vInt .i64 u409 fun n410 =>
 oif (((IntKind.i64.wrap (n408 - n410)) : Int) == n48) (
 obind (hload r397.2 ⟨r7.2.length, 0 + 0 + 2, none⟩) fun u411 =>
 vInt .i64 u411 fun n412 =>
 obind (hload r397.2 ⟨r135.2.length, 0 + 0 + 2, none⟩) fun u413 =>
 vInt .i64 u413 fun n414 =>
 fin H₀.length [(.bool (((IntKind.i64.wrap (n412 - n414)) : Int) == 0))] r397.2) (
 fin H₀.length [(.bool false)] r397.2))) (
 oif ((n142 : Int) == 2) (
 obind (hload r397.2 ⟨r7.2.length, 0 + 3 + 2, none⟩) fun u415 =>
 vInt .i64 u415 fun n416 =>
 obind (hload r397.2 ⟨r135.2.length, 0 + 3 + 2, none⟩) fun u417 =>
 vInt .i64 u417 fun n418 =>
 oif (((IntKind.i64.wrap (n416 - n418)) : Int) == 0) (
 obind (hload r397.2 ⟨r7.2.length, 0 + 0 + 2, none⟩) fun u419 =>
 vInt .i64 u419 fun n420 =>
 obind (hload r397.2 ⟨r135.2.length, 0 + 0 + 2, none⟩) fun u421 =>
 vInt .i64 u421 fun n422 =>
 fin H₀.length [(.bool (((IntKind.i64.wrap (n420 - n422)) : Int) == n48))] r397.2) (
 fin H₀.length [(.bool false)] r397.2)) (
 obind (hload r397.2 ⟨r7.2.length, 0 + 3 + 2, none⟩) fun u423 =>
 vInt .i64 u423 fun n424 =>
 obind (hload r397.2 ⟨r135.2.length, 0 + 3 + 2, none⟩) fun u425 =>
 vInt .i64 u425 fun n426 =>
 oif (((IntKind.i64.wrap (n424 - n426)) : Int) == 0) (
 obind (hload r397.2 ⟨r7.2.length, 0 + 0 + 2, none⟩) fun u427 =>
 vInt .i64 u427 fun n428 =>
 obind (hload r397.2 ⟨r135.2.length, 0 + 0 + 2, none⟩) fun u429 =>
 vInt .i64 u429 fun n430 =>
 fin H₀.length [(.bool (((IntKind.i64.wrap (n428 - n430)) : Int) == 0))] r397.2) (
 fin H₀.length [(.bool false)] r397.2))))))))))))))) none) (
 oif (sameRd (obind (hloadN H304 ⟨r7.2.length, 0, none⟩ 6) fun l => some (.agg l.toArray)) (obind (hloadN r340.2 ⟨r7.2.length, 0, none⟩ 6) fun l => some (.agg l.toArray))) (
 oif (!b125) (
 fin H₀.length [(.bool true)] r349.2) (
 obind (hloadN r349.2 ⟨r7.2.length, 0, none⟩ 6) fun l431 =>
 vw1 (.agg l431.toArray) fun n432 n433 n434 n435 n436 n437 =>
 obind (call 12 [(.agg #[(.int .i64 n432), (.int .i64 n433), (.int .i64 n434), (.int .i64 n435), (.int .i64 n436), (.int .i64 n437)]), (.int .i64 n48), (.int .i64 2)] lim r349.2) fun r438 =>
 vw3 r438.1 fun n439 b440 =>
 obind (hloadN r438.2 ⟨r7.2.length, 0, none⟩ 6) fun l441 =>
 vw1 (.agg l441.toArray) fun n442 n443 n444 n445 n446 n447 =>
 obind (call 15 [(.agg #[(.int .i64 n442), (.int .i64 n443), (.int .i64 n444), (.int .i64 n445), (.int .i64 n446), (.int .i64 n447)]), (.int .i64 n48)] lim r438.2) fun r448 =>
 vw3 r448.1 fun n449 b450 =>
 obind (hloadN r448.2 ⟨r7.2.length, 0, none⟩ 6) fun l451 =>
 vw1 (.agg l451.toArray) fun n452 n453 n454 n455 n456 n457 =>
 obind (call 16 [(.agg #[(.int .i64 n452), (.int .i64 n453), (.int .i64 n454), (.int .i64 n455), (.int .i64 n456), (.int .i64 n457)]), (.int .i64 n48)] lim r448.2) fun r458 =>
 vw3 r458.1 fun n459 b460 =>
 oif (!b440) (
 fin H₀.length [(.bool false)] r458.2) (
 oif (!b450) (
 fin H₀.length [(.bool false)] r458.2) (
 oif (!b460) (
 fin H₀.length [(.bool false)] r458.2) (
 oif ((n439 : Int) != n459) (
 fin H₀.length [(.bool false)] r458.2) (
 oif ((n449 : Int) != n459) (
 fin H₀.length [(.bool false)] r458.2) (
 oif ((n142 : Int) != n172) (
 fin H₀.length [(.bool false)] r458.2) (
 oif (decide ((n142 : Int) > n49)) (
 fin H₀.length [(.bool false)] r458.2) (
 oif (decide ((n142 : Int) > n459)) (
 fin H₀.length [(.bool false)] r458.2) (
 obind (hloadN r458.2 ⟨r83.2.length, 0, none⟩ 6) fun l461 =>
 vw1 (.agg l461.toArray) fun n462 n463 n464 n465 n466 n467 =>
 obind (call 20 [(.agg #[(.int .i64 n462), (.int .i64 n463), (.int .i64 n464), (.int .i64 n465), (.int .i64 n466), (.int .i64 n467)])] lim r458.2) fun r468 =>
 vBool r468.1 fun b469 =>
 oif (!b469) (
 fin H₀.length [(.bool false)] r468.2) (
 oif ((n142 : Int) != 0) (
 oif ((n142 : Int) == 2) (
 obind (hload r468.2 ⟨r7.2.length, 0 + 3 + 2, none⟩) fun u470 =>
 vInt .i64 u470 fun n471 =>
 obind (hload r468.2 ⟨r135.2.length, 0 + 3 + 2, none⟩) fun u472 =>
 vInt .i64 u472 fun n473 =>
 oif (((IntKind.i64.wrap (n471 - n473)) : Int) == n48) (
 obind (hload r468.2 ⟨r7.2.length, 0 + 0 + 2, none⟩) fun u474 =>
 vInt .i64 u474 fun n475 =>
 obind (hload r468.2 ⟨r135.2.length, 0 + 0 + 2, none⟩) fun u476 =>
 vInt .i64 u476 fun n477 =>
 fin H₀.length [(.bool (((IntKind.i64.wrap (n475 - n477)) : Int) == n48))] r468.2) (
 fin H₀.length [(.bool false)] r468.2)) (
 obind (hload r468.2 ⟨r7.2.length, 0 + 3 + 2, none⟩) fun u478 =>
 vInt .i64 u478 fun n479 =>
 obind (hload r468.2 ⟨r135.2.length, 0 + 3 + 2, none⟩) fun u480 =>
 vInt .i64 u480 fun n481 =>
 oif (((IntKind.i64.wrap (n479 - n481)) : Int) == n48) (
 obind (hload r468.2 ⟨r7.2.length, 0 + 0 + 2, none⟩) fun u482 =>
 vInt .i64 u482 fun n483 =>
 obind (hload r468.2 ⟨r135.2.length, 0 + 0 + 2, none⟩) fun u484 =>
 vInt .i64 u484 fun n485 =>
 fin H₀.length [(.bool (((IntKind.i64.wrap (n483 - n485)) : Int) == 0))] r468.2) (
 fin H₀.length [(.bool false)] r468.2))) (
 oif ((n142 : Int) == 2) (
 obind (hload r468.2 ⟨r7.2.length, 0 + 3 + 2, none⟩) fun u486 =>
 vInt .i64 u486 fun n487 =>
 obind (hload r468.2 ⟨r135.2.length, 0 + 3 + 2, none⟩) fun u488 =>
 vInt .i64 u488 fun n489 =>
 oif (((IntKind.i64.wrap (n487 - n489)) : Int) == 0) (
 obind (hload r468.2 ⟨r7.2.length, 0 + 0 + 2, none⟩) fun u490 =>
 vInt .i64 u490 fun n491 =>
 obind (hload r468.2 ⟨r135.2.length, 0 + 0 + 2, none⟩) fun u492 =>
 vInt .i64 u492 fun n493 =>
 fin H₀.length [(.bool (((IntKind.i64.wrap (n491 - n493)) : Int) == n48))] r468.2) (
 fin H₀.length [(.bool false)] r468.2)) (
 obind (hload r468.2 ⟨r7.2.length, 0 + 3 + 2, none⟩) fun u494 =>
 vInt .i64 u494 fun n495 =>
 obind (hload r468.2 ⟨r135.2.length, 0 + 3 + 2, none⟩) fun u496 =>
 vInt .i64 u496 fun n497 =>
 oif (((IntKind.i64.wrap (n495 - n497)) : Int) == 0) (
 obind (hload r468.2 ⟨r7.2.length, 0 + 0 + 2, none⟩) fun u498 =>
 vInt .i64 u498 fun n499 =>
 obind (hload r468.2 ⟨r135.2.length, 0 + 0 + 2, none⟩) fun u500 =>
 vInt .i64 u500 fun n501 =>
 fin H₀.length [(.bool (((IntKind.i64.wrap (n499 - n501)) : Int) == 0))] r468.2) (
 fin H₀.length [(.bool false)] r468.2)))))))))))))) none)))))))))))))
/-- loop.example/g00838/spec.DrawPolicePacket -/
def f9 (call : FuncId → List Value → Nat → Heap → Option (Value × Heap)) (fuel lim : Nat) (a502 : Option Addr) (l503 : Nat) (e504 : Nat) (H₀ : Heap) : Option (Value × Heap) :=
 let H505 := hpush H₀ [(.int .i64 0), (.int .i64 0), (.int .i64 0), (.int .i64 0), (.int .i64 0), (.int .i64 0)]
 obind (call 103 [(.slice a502 l503 e504)] lim H505) fun r506 =>
 vw0 r506.1 fun n507 n508 n509 n510 n511 n512 n513 n514 =>
 obind (hstoreN r506.2 lim ⟨H₀.length, 0, none⟩ [(.int .i64 n507), (.int .i64 n508), (.int .i64 n509), (.int .i64 n510), (.int .i64 n511), (.int .i64 n512)]) fun H515 =>
 obind (obind (hloadN H515 ⟨H₀.length, 0, none⟩ 6) fun c => obind (obind (obind (some []) fun l => some ((.int .i64 n514) :: l)) fun l => some ((.int .i64 n513) :: l)) fun l => some (.agg c.toArray :: l)) fun vs => fin H₀.length vs H515
/-- loop.example/g00838/impl.PolicePacket -/
def f10 (call : FuncId → List Value → Nat → Heap → Option (Value × Heap)) (fuel lim : Nat) (n516 : Int) (n517 : Int) (n518 : Int) (n519 : Int) (n520 : Int) (n521 : Int) (n522 : Int) (n523 : Int) (H₀ : Heap) : Option (Value × Heap) :=
 let H524 := hpush H₀ [(.int .i64 n516), (.int .i64 n517), (.int .i64 n518), (.int .i64 n519), (.int .i64 n520), (.int .i64 n521)]
 let H525 := hpush H524 [(.int .i64 0), (.int .i64 0), (.int .i64 0), (.int .i64 0), (.int .i64 0), (.int .i64 0)]
 obind (hloadN H525 ⟨H₀.length, 0, none⟩ 6) fun l526 =>
 vw1 (.agg l526.toArray) fun n527 n528 n529 n530 n531 n532 =>
 obind (call 20 [(.agg #[(.int .i64 n527), (.int .i64 n528), (.int .i64 n529), (.int .i64 n530), (.int .i64 n531), (.int .i64 n532)])] lim H525) fun r533 =>
 vBool r533.1 fun b534 =>
 oif (!b534) (
 obind (hstoreN r533.2 lim ⟨H524.length, 0, none⟩ [(.int .i64 0), (.int .i64 0), (.int .i64 0), (.int .i64 0), (.int .i64 0), (.int .i64 0)]) fun H535 =>
 obind (obind (hloadN H535 ⟨H524.length, 0, none⟩ 6) fun c => obind (obind (obind (some []) fun l => some ((.bool false) :: l)) fun l => some ((.int .i64 0) :: l)) fun l => some (.agg c.toArray :: l)) fun vs => fin H₀.length vs H535) (
 obind (call 104 [(.int .i64 n522)] lim r533.2) fun r536 =>
 vBool r536.1 fun b537 =>
 oif (!b537) (
 obind (hstoreN r536.2 lim ⟨H524.length, 0, none⟩ [(.int .i64 0), (.int .i64 0), (.int .i64 0), (.int .i64 0), (.int .i64 0), (.int .i64 0)]) fun H538 =>
 obind (obind (hloadN H538 ⟨H524.length, 0, none⟩ 6) fun c => obind (obind (obind (some []) fun l => some ((.bool false) :: l)) fun l => some ((.int .i64 0) :: l)) fun l => some (.agg c.toArray :: l)) fun vs => fin H₀.length vs H538) (
 obind (call 105 [(.int .i64 n523)] lim r536.2) fun r539 =>
 vBool r539.1 fun b540 =>
 oif (!b540) (
 obind (hstoreN r539.2 lim ⟨H524.length, 0, none⟩ [(.int .i64 0), (.int .i64 0), (.int .i64 0), (.int .i64 0), (.int .i64 0), (.int .i64 0)]) fun H541 =>
 obind (obind (hloadN H541 ⟨H524.length, 0, none⟩ 6) fun c => obind (obind (obind (some []) fun l => some ((.bool false) :: l)) fun l => some ((.int .i64 0) :: l)) fun l => some (.agg c.toArray :: l)) fun vs => fin H₀.length vs H541) (
 obind (call 106 [(.pointer (some ⟨H₀.length, 0, none⟩)), (.int .i64 n522), (.int .i64 n523)] lim r539.2) fun r542 =>
 vInt .i64 r542.1 fun n543 =>
 obind (hloadN r542.2 ⟨H₀.length, 0, none⟩ 6) fun l544 =>
 vw1 (.agg l544.toArray) fun n545 n546 n547 n548 n549 n550 =>
 obind (hstoreN r542.2 lim ⟨H524.length, 0, none⟩ [(.int .i64 n545), (.int .i64 n546), (.int .i64 n547), (.int .i64 n548), (.int .i64 n549), (.int .i64 n550)]) fun H551 =>
 obind (obind (hloadN H551 ⟨H524.length, 0, none⟩ 6) fun c => obind (obind (obind (some []) fun l => some ((.bool true) :: l)) fun l => some ((.int .i64 n543) :: l)) fun l => some (.agg c.toArray :: l)) fun vs => fin H₀.length vs H551)))
/-- loop.example/g00838/spec.PolicePacket -/
def f11 (call : FuncId → List Value → Nat → Heap → Option (Value × Heap)) (fuel lim : Nat) (n552 : Int) (n553 : Int) (n554 : Int) (n555 : Int) (n556 : Int) (n557 : Int) (n558 : Int) (n559 : Int) (H₀ : Heap) : Option (Value × Heap) :=
 let H560 := hpush H₀ [(.int .i64 n552), (.int .i64 n553), (.int .i64 n554), (.int .i64 n555), (.int .i64 n556), (.int .i64 n557)]
 let H561 := hpush H560 [(.int .i64 0), (.int .i64 0), (.int .i64 0), (.int .i64 0), (.int .i64 0), (.int .i64 0)]
 obind (hloadN H561 ⟨H₀.length, 0, none⟩ 6) fun l562 =>
 vw1 (.agg l562.toArray) fun n563 n564 n565 n566 n567 n568 =>
 obind (call 107 [(.agg #[(.int .i64 n563), (.int .i64 n564), (.int .i64 n565), (.int .i64 n566), (.int .i64 n567), (.int .i64 n568)])] lim H561) fun r569 =>
 vBool r569.1 fun b570 =>
 oif (!b570) (
 obind (hstoreN r569.2 lim ⟨H560.length, 0, none⟩ [(.int .i64 0), (.int .i64 0), (.int .i64 0), (.int .i64 0), (.int .i64 0), (.int .i64 0)]) fun H571 =>
 obind (obind (hloadN H571 ⟨H560.length, 0, none⟩ 6) fun c => obind (obind (obind (some []) fun l => some ((.bool false) :: l)) fun l => some ((.int .i64 0) :: l)) fun l => some (.agg c.toArray :: l)) fun vs => fin H₀.length vs H571) (
 obind (call 108 [(.int .i64 n558)] lim r569.2) fun r572 =>
 vBool r572.1 fun b573 =>
 oif (!b573) (
 obind (hstoreN r572.2 lim ⟨H560.length, 0, none⟩ [(.int .i64 0), (.int .i64 0), (.int .i64 0), (.int .i64 0), (.int .i64 0), (.int .i64 0)]) fun H574 =>
 obind (obind (hloadN H574 ⟨H560.length, 0, none⟩ 6) fun c => obind (obind (obind (some []) fun l => some ((.bool false) :: l)) fun l => some ((.int .i64 0) :: l)) fun l => some (.agg c.toArray :: l)) fun vs => fin H₀.length vs H574) (
 obind (call 109 [(.int .i64 n559)] lim r572.2) fun r575 =>
 vBool r575.1 fun b576 =>
 oif (!b576) (
 obind (hstoreN r575.2 lim ⟨H560.length, 0, none⟩ [(.int .i64 0), (.int .i64 0), (.int .i64 0), (.int .i64 0), (.int .i64 0), (.int .i64 0)]) fun H577 =>
 obind (obind (hloadN H577 ⟨H560.length, 0, none⟩ 6) fun c => obind (obind (obind (some []) fun l => some ((.bool false) :: l)) fun l => some ((.int .i64 0) :: l)) fun l => some (.agg c.toArray :: l)) fun vs => fin H₀.length vs H577) (
 obind (hloadN r575.2 ⟨H₀.length, 0, none⟩ 6) fun l578 =>
 vw1 (.agg l578.toArray) fun n579 n580 n581 n582 n583 n584 =>
 obind (call 110 [(.agg #[(.int .i64 n579), (.int .i64 n580), (.int .i64 n581), (.int .i64 n582), (.int .i64 n583), (.int .i64 n584)]), (.int .i64 n558), (.int .i64 n559)] lim r575.2) fun r585 =>
 vInt .i64 r585.1 fun n586 =>
 obind (hloadN r585.2 ⟨H₀.length, 0, none⟩ 6) fun l587 =>
 vw1 (.agg l587.toArray) fun n588 n589 n590 n591 n592 n593 =>
 obind (call 111 [(.agg #[(.int .i64 n588), (.int .i64 n589), (.int .i64 n590), (.int .i64 n591), (.int .i64 n592), (.int .i64 n593)]), (.int .i64 n558), (.int .i64 n586)] lim r585.2) fun r594 =>
 vw1 r594.1 fun n595 n596 n597 n598 n599 n600 =>
 obind (hstoreN r594.2 lim ⟨H560.length, 0, none⟩ [(.int .i64 n595), (.int .i64 n596), (.int .i64 n597), (.int .i64 n598), (.int .i64 n599), (.int .i64 n600)]) fun H601 =>
 obind (obind (hloadN H601 ⟨H560.length, 0, none⟩ 6) fun c => obind (obind (obind (some []) fun l => some ((.bool true) :: l)) fun l => some ((.int .i64 n586) :: l)) fun l => some (.agg c.toArray :: l)) fun vs => fin H₀.length vs H601)))
/-- loop.example/g00838/impl.ColourAware -/
def f12 (call : FuncId → List Value → Nat → Heap → Option (Value × Heap)) (fuel lim : Nat) (n602 : Int) (n603 : Int) (n604 : Int) (n605 : Int) (n606 : Int) (n607 : Int) (n608 : Int) (n609 : Int) (H₀ : Heap) : Option (Value × Heap) :=
 let H610 := hpush H₀ [(.int .i64 n602), (.int .i64 n603), (.int .i64 n604), (.int .i64 n605), (.int .i64 n606), (.int .i64 n607)]
 obind (hloadN H610 ⟨H₀.length, 0, none⟩ 6) fun l611 =>
 vw1 (.agg l611.toArray) fun n612 n613 n614 n615 n616 n617 =>
 obind (call 20 [(.agg #[(.int .i64 n612), (.int .i64 n613), (.int .i64 n614), (.int .i64 n615), (.int .i64 n616), (.int .i64 n617)])] lim H610) fun r618 =>
 vBool r618.1 fun b619 =>
 oif (!b619) (
 fin H₀.length [(.int .i64 0), (.bool false)] r618.2) (
 obind (call 104 [(.int .i64 n608)] lim r618.2) fun r620 =>
 vBool r620.1 fun b621 =>
 oif (!b621) (
 fin H₀.length [(.int .i64 0), (.bool false)] r620.2) (
 obind (call 105 [(.int .i64 n609)] lim r620.2) fun r622 =>
 vBool r622.1 fun b623 =>
 oif (!b623) (
 fin H₀.length [(.int .i64 0), (.bool false)] r622.2) (
 obind (hloadN r622.2 ⟨H₀.length, 0, none⟩ 6) fun l624 =>
 vw1 (.agg l624.toArray) fun n625 n626 n627 n628 n629 n630 =>
 obind (call 112 [(.agg #[(.int .i64 n625), (.int .i64 n626), (.int .i64 n627), (.int .i64 n628), (.int .i64 n629), (.int .i64 n630)]), (.int .i64 n608), (.int .i64 n609)] lim r622.2) fun r631 =>
 vInt .i64 r631.1 fun n632 =>
 fin H₀.length [(.int .i64 n632), (.bool true)] r631.2)))
/-- loop.example/g00838/spec.ColourAware -/
def f13 (call : FuncId → List Value → Nat → Heap → Option (Value × Heap)) (fuel lim : Nat) (n633 : Int) (n634 : Int) (n635 : Int) (n636 : Int) (n637 : Int) (n638 : Int) (n639 : Int) (n640 : Int) (H₀ : Heap) : Option (Value × Heap) :=
 let H641 := hpush H₀ [(.int .i64 n633), (.int .i64 n634), (.int .i64 n635), (.int .i64 n636), (.int .i64 n637), (.int .i64 n638)]
 obind (hloadN H641 ⟨H₀.length, 0, none⟩ 6) fun l642 =>
 vw1 (.agg l642.toArray) fun n643 n644 n645 n646 n647 n648 =>
 obind (call 107 [(.agg #[(.int .i64 n643), (.int .i64 n644), (.int .i64 n645), (.int .i64 n646), (.int .i64 n647), (.int .i64 n648)])] lim H641) fun r649 =>
 vBool r649.1 fun b650 =>
 oif (!b650) (
 fin H₀.length [(.int .i64 0), (.bool false)] r649.2) (
 obind (call 108 [(.int .i64 n639)] lim r649.2) fun r651 =>
 vBool r651.1 fun b652 =>
 oif (!b652) (
 fin H₀.length [(.int .i64 0), (.bool false)] r651.2) (
 obind (call 109 [(.int .i64 n640)] lim r651.2) fun r653 =>
 vBool r653.1 fun b654 =>
 oif (!b654) (
 fin H₀.length [(.int .i64 0), (.bool false)] r653.2) (
 obind (hloadN r653.2 ⟨H₀.length, 0, none⟩ 6) fun l655 =>
 vw1 (.agg l655.toArray) fun n656 n657 n658 n659 n660 n661 =>
 obind (call 110 [(.agg #[(.int .i64 n656), (.int .i64 n657), (.int .i64 n658), (.int .i64 n659), (.int .i64 n660), (.int .i64 n661)]), (.int .i64 n639), (.int .i64 n640)] lim r653.2) fun r662 =>
 vInt .i64 r662.1 fun n663 =>
 fin H₀.length [(.int .i64 n663), (.bool true)] r662.2)))
/-- loop.example/g00838/spec.DrawColourOf -/
def f14 (call : FuncId → List Value → Nat → Heap → Option (Value × Heap)) (fuel lim : Nat) (a664 : Option Addr) (l665 : Nat) (e666 : Nat) (H₀ : Heap) : Option (Value × Heap) :=
 let H667 := hpush H₀ [(.int .i64 0), (.int .i64 0), (.int .i64 0), (.int .i64 0), (.int .i64 0), (.int .i64 0)]
 let H668 := hpush H667 [(.slice a664 l665 e666), (.int .i64 0), (.int .u64 0)]
 obind (call 113 [(.pointer (some ⟨H667.length, 0, none⟩))] lim H668) fun r669 =>
 vw1 r669.1 fun n670 n671 n672 n673 n674 n675 =>
 obind (call 114 [(.pointer (some ⟨H667.length, 0, none⟩))] lim r669.2) fun r676 =>
 vInt .i64 r676.1 fun n677 =>
 obind (hstoreN r676.2 lim ⟨H₀.length, 0, none⟩ [(.int .i64 n670), (.int .i64 n671), (.int .i64 n672), (.int .i64 n673), (.int .i64 n674), (.int .i64 n675)]) fun H678 =>
 obind (obind (hloadN H678 ⟨H₀.length, 0, none⟩ 6) fun c => obind (obind (some []) fun l => some ((.int .i64 n677) :: l)) fun l => some (.agg c.toArray :: l)) fun vs => fin H₀.length vs H678
/-- loop.example/g00838/impl.ColourOf -/
def f15 (call : FuncId → List Value → Nat → Heap → Option (Value × Heap)) (fuel lim : Nat) (n679 : Int) (n680 : Int) (n681 : Int) (n682 : Int) (n683 : Int) (n684 : Int) (n685 : Int) (H₀ : Heap) : Option (Value × Heap) :=
 let H686 := hpush H₀ [(.int .i64 n679), (.int .i64 n680), (.int .i64 n681), (.int .i64 n682), (.int .i64 n683), (.int .i64 n684)]
 obind (hloadN H686 ⟨H₀.length, 0, none⟩ 6) fun l687 =>
 vw1 (.agg l687.toArray) fun n688 n689 n690 n691 n692 n693 =>
 obind (call 12 [(.agg #[(.int .i64 n688), (.int .i64 n689), (.int .i64 n690), (.int .i64 n691), (.int .i64 n692), (.int .i64 n693)]), (.int .i64 n685), (.int .i64 2)] lim H686) fun r694 =>
 vw3 r694.1 fun n695 b696 =>
 fin H₀.length [(.int .i64 n695), (.bool b696)] r694.2
/-- loop.example/g00838/spec.ColourOf -/
def f16 (call : FuncId → List Value → Nat → Heap → Option (Value × Heap)) (fuel lim : Nat) (n697 : Int) (n698 : Int) (n699 : Int) (n700 : Int) (n701 : Int) (n702 : Int) (n703 : Int) (H₀ : Heap) : Option (Value × Heap) :=
 let H704 := hpush H₀ [(.int .i64 n697), (.int .i64 n698), (.int .i64 n699), (.int .i64 n700), (.int .i64 n701), (.int .i64 n702)]
 obind (hloadN H704 ⟨H₀.length, 0, none⟩ 6) fun l705 =>
 vw1 (.agg l705.toArray) fun n706 n707 n708 n709 n710 n711 =>
 obind (call 13 [(.agg #[(.int .i64 n706), (.int .i64 n707), (.int .i64 n708), (.int .i64 n709), (.int .i64 n710), (.int .i64 n711)]), (.int .i64 n703), (.int .i64 2)] lim H704) fun r712 =>
 vw3 r712.1 fun n713 b714 =>
 fin H₀.length [(.int .i64 n713), (.bool b714)] r712.2
/-- loop.example/g00838/spec.DrawFullPolicer -/
def f17 (call : FuncId → List Value → Nat → Heap → Option (Value × Heap)) (fuel lim : Nat) (a715 : Option Addr) (l716 : Nat) (e717 : Nat) (H₀ : Heap) : Option (Value × Heap) :=
 let H718 := hpush H₀ [(.slice a715 l716 e717), (.int .i64 0), (.int .u64 0)]
 let H719 := hpush H718 [(.int .i64 0), (.int .i64 1), (.int .i64 100), (.int .i64 100000), (.int .i64 100001), (.int .i64 (-1))]
 obind (call 115 [(.pointer (some ⟨H₀.length, 0, none⟩)), (.slice (some ⟨H718.length, 0, none⟩) 6 1)] lim H719) fun r720 =>
 vInt .i64 r720.1 fun n721 =>
 let H722 := hpush r720.2 [(.int .i64 0), (.int .i64 1500), (.int .i64 1000000), (.int .i64 1000001)]
 obind (call 115 [(.pointer (some ⟨H₀.length, 0, none⟩)), (.slice (some ⟨r720.2.length, 0, none⟩) 4 1)] lim H722) fun r723 =>
 vInt .i64 r723.1 fun n724 =>
 let H725 := hpush r723.2 [(.int .i64 0), (.int .i64 1), (.int .i64 50), (.int .i64 (-1))]
 obind (call 115 [(.pointer (some ⟨H₀.length, 0, none⟩)), (.slice (some ⟨r723.2.length, 0, none⟩) 4 1)] lim H725) fun r726 =>
 vInt .i64 r726.1 fun n727 =>
 let H728 := hpush r726.2 [(.int .i64 0), (.int .i64 3000), (.int .i64 1000000), (.int .i64 1000001)]
 obind (call 115 [(.pointer (some ⟨H₀.length, 0, none⟩)), (.slice (some ⟨r726.2.length, 0, none⟩) 4 1)] lim H728) fun r729 =>
 vInt .i64 r729.1 fun n730 =>
 fin H₀.length [(.int .i64 n721), (.int .i64 n724), (.int .i64 (IntKind.i64.wrap (n721 + n727))), (.int .i64 n730)] r729.2
/-- loop.example/g00838/impl.FullPolicer -/
def f18 (call : FuncId → List Value → Nat → Heap → Option (Value × Heap)) (fuel lim : Nat) (n731 : Int) (n732 : Int) (n733 : Int) (n734 : Int) (H₀ : Heap) : Option (Value × Heap) :=
 let H735 := hpush H₀ [(.int .i64 0), (.int .i64 0), (.int .i64 0), (.int .i64 0), (.int .i64 0), (.int .i64 0)]
 let H736 := hpush H735 [(.int .i64 0), (.int .i64 0), (.int .i64 0), (.int .i64 0), (.int .i64 0), (.int .i64 0)]
 obind (hstoreN H736 lim ⟨H735.length, 0, none⟩ [(.int .i64 n731), (.int .i64 n732), (.int .i64 n732), (.int .i64 n733), (.int .i64 n734), (.int .i64 n734)]) fun H737 =>
 obind (hloadN H737 ⟨H735.length, 0, none⟩ 6) fun l738 =>
 vw1 (.agg l738.toArray) fun n739 n740 n741 n742 n743 n744 =>
 obind (call 20 [(.agg #[(.int .i64 n739), (.int .i64 n740), (.int .i64 n741), (.int .i64 n742), (.int .i64 n743), (.int .i64 n744)])] lim H737) fun r745 =>
 vBool r745.1 fun b746 =>
 oif (!b746) (
 obind (hstoreN r745.2 lim ⟨H₀.length, 0, none⟩ [(.int .i64 0), (.int .i64 0), (.int .i64 0), (.int .i64 0), (.int .i64 0), (.int .i64 0)]) fun H747 =>
 obind (obind (hloadN H747 ⟨H₀.length, 0, none⟩ 6) fun c => obind (obind (some []) fun l => some ((.bool false) :: l)) fun l => some (.agg c.toArray :: l)) fun vs => fin H₀.length vs H747) (
 obind (hloadN r745.2 ⟨H735.length, 0, none⟩ 6) fun l748 =>
 vw1 (.agg l748.toArray) fun n749 n750 n751 n752 n753 n754 =>
 obind (hstoreN r745.2 lim ⟨H₀.length, 0, none⟩ [(.int .i64 n749), (.int .i64 n750), (.int .i64 n751), (.int .i64 n752), (.int .i64 n753), (.int .i64 n754)]) fun H755 =>
 obind (obind (hloadN H755 ⟨H₀.length, 0, none⟩ 6) fun c => obind (obind (some []) fun l => some ((.bool true) :: l)) fun l => some (.agg c.toArray :: l)) fun vs => fin H₀.length vs H755)
/-- loop.example/g00838/spec.FullPolicer -/
def f19 (call : FuncId → List Value → Nat → Heap → Option (Value × Heap)) (fuel lim : Nat) (n756 : Int) (n757 : Int) (n758 : Int) (n759 : Int) (H₀ : Heap) : Option (Value × Heap) :=
 let H760 := hpush H₀ [(.int .i64 0), (.int .i64 0), (.int .i64 0), (.int .i64 0), (.int .i64 0), (.int .i64 0)]
 let H761 := hpush H760 [(.int .i64 0), (.int .i64 0), (.int .i64 0), (.int .i64 0), (.int .i64 0), (.int .i64 0)]
 obind (hstoreN H761 lim ⟨H760.length, 0, none⟩ [(.int .i64 n756), (.int .i64 n757), (.int .i64 n757), (.int .i64 n758), (.int .i64 n759), (.int .i64 n759)]) fun H762 =>
 obind (hloadN H762 ⟨H760.length, 0, none⟩ 6) fun l763 =>
 vw1 (.agg l763.toArray) fun n764 n765 n766 n767 n768 n769 =>
 obind (call 107 [(.agg #[(.int .i64 n764), (.int .i64 n765), (.int .i64 n766), (.int .i64 n767), (.int .i64 n768), (.int .i64 n769)])] lim H762) fun r770 =>
 vBool r770.1 fun b771 =>
 oif (!b771) (
 obind (hstoreN r770.2 lim ⟨H₀.length, 0, none⟩ [(.int .i64 0), (.int .i64 0), (.int .i64 0), (.int .i64 0), (.int .i64 0), (.int .i64 0)]) fun H772 =>
 obind (obind (hloadN H772 ⟨H₀.length, 0, none⟩ 6) fun c => obind (obind (some []) fun l => some ((.bool false) :: l)) fun l => some (.agg c.toArray :: l)) fun vs => fin H₀.length vs H772) (
 obind (hloadN r770.2 ⟨H760.length, 0, none⟩ 6) fun l773 =>
 vw1 (.agg l773.toArray) fun n774 n775 n776 n777 n778 n779 =>
 obind (hstoreN r770.2 lim ⟨H₀.length, 0, none⟩ [(.int .i64 n774), (.int .i64 n775), (.int .i64 n776), (.int .i64 n777), (.int .i64 n778), (.int .i64 n779)]) fun H780 =>
 obind (obind (hloadN H780 ⟨H₀.length, 0, none⟩ 6) fun c => obind (obind (some []) fun l => some ((.bool true) :: l)) fun l => some (.agg c.toArray :: l)) fun vs => fin H₀.length vs H780)
def vw7 {β : Type} (v : Value) (K : Int → Int → Int → Option β) : Option β := vAgg v fun q => vCons q fun x795 q796 => vInt .i64 x795 fun n792 => vCons q796 fun x797 q798 => vInt .i64 x797 fun n793 => vCons q798 fun x799 q800 => vInt .i64 x799 fun n794 => vNil q800 (K n792 n793 n794)
@[congr] theorem vw7_congr {β : Type} {v u : Value} {K : Int → Int → Int → Option β} (h : v = u) : vw7 v K = vw7 u K := by rw [h]
@[go_sem] theorem vw7_mk {β : Type} (n792 : Int) (n793 : Int) (n794 : Int) (K : Int → Int → Int → Option β) : vw7 (.agg #[(.int .i64 n792), (.int .i64 n793), (.int .i64 n794)]) K = K n792 n793 n794 := (rfl)
/-- loop.example/g00838/impl.IsPolicer -/
def f20 (call : FuncId → List Value → Nat → Heap → Option (Value × Heap)) (fuel lim : Nat) (n781 : Int) (n782 : Int) (n783 : Int) (n784 : Int) (n785 : Int) (n786 : Int) (H₀ : Heap) : Option (Value × Heap) :=
 let H787 := hpush H₀ [(.int .i64 n781), (.int .i64 n782), (.int .i64 n783), (.int .i64 n784), (.int .i64 n785), (.int .i64 n786)]
 obind (hloadN H787 ⟨H₀.length, 0 + 0, none⟩ 3) fun l788 =>
 vw7 (.agg l788.toArray) fun n801 n802 n803 =>
 obind (call 50 [(.agg #[(.int .i64 n801), (.int .i64 n802), (.int .i64 n803)])] lim H787) fun r804 =>
 vBool r804.1 fun b805 =>
 oif b805 (
 obind (hloadN r804.2 ⟨H₀.length, 0 + 3, none⟩ 3) fun l806 =>
 vw7 (.agg l806.toArray) fun n807 n808 n809 =>
 obind (call 50 [(.agg #[(.int .i64 n807), (.int .i64 n808), (.int .i64 n809)])] lim r804.2) fun r810 =>
 vBool r810.1 fun b811 =>
 oif b811 (
 obind (hload r810.2 ⟨H₀.length, 0 + 0 + 0, none⟩) fun u812 =>
 vInt .i64 u812 fun n813 =>
 obind (hload r810.2 ⟨H₀.length, 0 + 3 + 0, none⟩) fun u814 =>
 vInt .i64 u814 fun n815 =>
 fin H₀.length [(.bool (decide ((n813 : Int) ≤ n815)))] r810.2) (
 fin H₀.length [(.bool false)] r810.2)) (
 fin H₀.length [(.bool false)] r804.2)
/-- loop.example/g00838/spec.IsPolicer -/
def f21 (call : FuncId → List Value → Nat → Heap → Option (Value × Heap)) (fuel lim : Nat) (n816 : Int) (n817 : Int) (n818 : Int) (n819 : Int) (n820 : Int) (n821 : Int) (H₀ : Heap) : Option (Value × Heap) :=
 let H822 := hpush H₀ [(.int .i64 n816), (.int .i64 n817), (.int .i64 n818), (.int .i64 n819), (.int .i64 n820), (.int .i64 n821)]
 obind (hloadN H822 ⟨H₀.length, 0, none⟩ 6) fun l823 =>
 vw1 (.agg l823.toArray) fun n824 n825 n826 n827 n828 n829 =>
 obind (call 107 [(.agg #[(.int .i64 n824), (.int .i64 n825), (.int .i64 n826), (.int .i64 n827), (.int .i64 n828), (.int .i64 n829)])] lim H822) fun r830 =>
 vBool r830.1 fun b831 =>
 fin H₀.length [(.bool b831)] r830.2
/-- loop.example/g00838/spec.DrawColourAware -/
def f103 (call : FuncId → List Value → Nat → Heap → Option (Value × Heap)) (fuel lim : Nat) (a832 : Option Addr) (l833 : Nat) (e834 : Nat) (H₀ : Heap) : Option (Value × Heap) :=
 let H835 := hpush H₀ [(.int .i64 0), (.int .i64 0), (.int .i64 0), (.int .i64 0), (.int .i64 0), (.int .i64 0)]
 let H836 := hpush H835 [(.slice a832 l833 e834), (.int .i64 0), (.int .u64 0)]
 obind (call 113 [(.pointer (some ⟨H835.length, 0, none⟩))] lim H836) fun r837 =>
 vw1 r837.1 fun n838 n839 n840 n841 n842 n843 =>
 obind (call 114 [(.pointer (some ⟨H835.length, 0, none⟩))] lim r837.2) fun r844 =>
 vInt .i64 r844.1 fun n845 =>
 obind (call 120 [(.pointer (some ⟨H835.length, 0, none⟩)), (.int .i64 4)] lim r844.2) fun r846 =>
 vInt .i64 r846.1 fun n847 =>
 obind (call 120 [(.pointer (some ⟨H835.length, 0, none⟩)), (.int .i64 20)] lim r846.2) fun r848 =>
 vInt .i64 r848.1 fun n849 =>
 oif (19 == (0 : Int)) none (
 obind (hstoreN r848.2 lim ⟨H₀.length, 0, none⟩ [(.int .i64 n838), (.int .i64 n839), (.int .i64 n840), (.int .i64 n841), (.int .i64 n842), (.int .i64 n843)]) fun H850 =>
 obind (obind (hloadN H850 ⟨H₀.length, 0, none⟩ 6) fun c => obind (obind (obind (some []) fun l => some ((.int .i64 (IntKind.i64.wrap (n847 - (IntKind.i64.wrap (n849.tdiv 19))))) :: l)) fun l => some ((.int .i64 n845) :: l)) fun l => some (.agg c.toArray :: l)) fun vs => fin H₀.length vs H850)
/-- loop.example/g00838/impl.isSize -/
def f104 (call : FuncId → List Value → Nat → Heap → Option (Value × Heap)) (fuel lim : Nat) (n851 : Int) (H₀ : Heap) : Option (Value × Heap) :=
 oif (decide ((n851 : Int) ≥ 1)) (
 fin H₀.length [(.bool (decide ((n851 : Int) ≤ 1500)))] H₀) (
 fin H₀.length [(.bool false)] H₀)
/-- loop.example/g00838/impl.isColour -/
def f105 (call : FuncId → List Value → Nat → Heap → Option (Value × Heap)) (fuel lim : Nat) (n852 : Int) (H₀ : Heap) : Option (Value × Heap) :=
 oif (decide ((n852 : Int) ≥ 0)) (
 fin H₀.length [(.bool (decide ((n852 : Int) ≤ 2)))] H₀) (
 fin H₀.length [(.bool false)] H₀)
/-- (*loop.example/g00838/impl.Policer).police -/
def f106 (call : FuncId → List Value → Nat → Heap → Option (Value × Heap)) (fuel lim : Nat) (p853 : Addr) (n854 : Int) (n855 : Int) (H₀ : Heap) : Option (Value × Heap) :=
 obind (hloadN H₀ p853 6) fun l856 =>
 vw1 (.agg l856.toArray) fun n857 n858 n859 n860 n861 n862 =>
 obind (call 112 [(.agg #[(.int .i64 n857), (.int .i64 n858), (.int .i64 n859), (.int .i64 n860), (.int .i64 n861), (.int .i64 n862)]), (.int .i64 n854), (.int .i64 n855)] lim H₀) fun r863 =>
 vInt .i64 r863.1 fun n864 =>
 oif ((n864 : Int) != 0) (
 obind (hload r863.2 ⟨p853.block, p853.off + 3 + 2, none⟩) fun u865 =>
 vInt .i64 u865 fun n866 =>
 obind (hstoreN r863.2 lim ⟨p853.block, p853.off + 3 + 2, none⟩ [(.int .i64 (IntKind.i64.wrap (n866 - n854)))]) fun H867 =>
 oif ((n864 : Int) == 2) (
 obind (hload H867 ⟨p853.block, p853.off + 0 + 2, none⟩) fun u868 =>
 vInt .i64 u868 fun n869 =>
 obind (hstoreN H867 lim ⟨p853.block, p853.off + 0 + 2, none⟩ [(.int .i64 (IntKind.i64.wrap (n869 - n854)))]) fun H870 =>
 fin H₀.length [(.int .i64 n864)] H870) (
 fin H₀.length [(.int .i64 n864)] H867)) (
 oif ((n864 : Int) == 2) (
 obind (hload r863.2 ⟨p853.block, p853.off + 0 + 2, none⟩) fun u871 =>
 vInt .i64 u871 fun n872 =>
 obind (hstoreN r863.2 lim ⟨p853.block, p853.off + 0 + 2, none⟩ [(.int .i64 (IntKind.i64.wrap (n872 - n854)))]) fun H873 =>
 fin H₀.length [(.int .i64 n864)] H873) (
 fin H₀.length [(.int .i64 n864)] r863.2))
/-- loop.example/g00838/spec.poGood -/
def f107 (call : FuncId → List Value → Nat → Heap → Option (Value × Heap)) (fuel lim : Nat) (n874 : Int) (n875 : Int) (n876 : Int) (n877 : Int) (n878 : Int) (n879 : Int) (H₀ : Heap) : Option (Value × Heap) :=
 let H880 := hpush H₀ [(.int .i64 n874), (.int .i64 n875), (.int .i64 n876), (.int .i64 n877), (.int .i64 n878), (.int .i64 n879)]
 obind (hloadN H880 ⟨H₀.length, 0 + 0, none⟩ 3) fun l881 =>
 vw7 (.agg l881.toArray) fun n882 n883 n884 =>
 obind (call 126 [(.agg #[(.int .i64 n882), (.int .i64 n883), (.int .i64 n884)])] lim H880) fun r885 =>
 vBool r885.1 fun b886 =>
 oif b886 (
 obind (hloadN r885.2 ⟨H₀.length, 0 + 3, none⟩ 3) fun l887 =>
 vw7 (.agg l887.toArray) fun n888 n889 n890 =>
 obind (call 126 [(.agg #[(.int .i64 n888), (.int .i64 n889), (.int .i64 n890)])] lim r885.2) fun r891 =>
 vBool r891.1 fun b892 =>
 oif b892 (
 obind (hload r891.2 ⟨H₀.length, 0 + 0 + 0, none⟩) fun u893 =>
 vInt .i64 u893 fun n894 =>
 obind (hload r891.2 ⟨H₀.length, 0 + 3 + 0, none⟩) fun u895 =>
 vInt .i64 u895 fun n896 =>
 fin H₀.length [(.bool (decide ((n894 : Int) ≤ n896)))] r891.2) (
 fin H₀.length [(.bool false)] r891.2)) (
 fin H₀.length [(.bool false)] r885.2)
/-- loop.example/g00838/spec.buSize -/
def f108 (call : FuncId → List Value → Nat → Heap → Option (Value × Heap)) (fuel lim : Nat) (n897 : Int) (H₀ : Heap) : Option (Value × Heap) :=
 obind (call 131 [(.int .i64 n897), (.int .i64 1), (.int .i64 1500)] lim H₀) fun r898 =>
 vBool r898.1 fun b899 =>
 fin H₀.length [(.bool b899)] r898.2
/-- loop.example/g00838/spec.poColour -/
def f109 (call : FuncId → List Value → Nat → Heap → Option (Value × Heap)) (fuel lim : Nat) (n900 : Int) (H₀ : Heap) : Option (Value × Heap) :=
 obind (call 131 [(.int .i64 n900), (.int .i64 0), (.int .i64 2)] lim H₀) fun r901 =>
 vBool r901.1 fun b902 =>
 fin H₀.length [(.bool b902)] r901.2
/-- loop.example/g00838/spec.poOf -/
def f110 (call : FuncId → List Value → Nat → Heap → Option (Value × Heap)) (fuel lim : Nat) (n903 : Int) (n904 : Int) (n905 : Int) (n906 : Int) (n907 : Int) (n908 : Int) (n909 : Int) (n910 : Int) (H₀ : Heap) : Option (Value × Heap) :=
 let H911 := hpush H₀ [(.int .i64 n903), (.int .i64 n904), (.int .i64 n905), (.int .i64 n906), (.int .i64 n907), (.int .i64 n908)]
 oif ((n910 : Int) == 0) (
 fin H₀.length [(.int .i64 0)] H911) (
 obind (hload H911 ⟨H₀.length, 0 + 3 + 2, none⟩) fun u912 =>
 vInt .i64 u912 fun n913 =>
 oif (decide ((n913 : Int) < n909)) (
 fin H₀.length [(.int .i64 0)] H911) (
 oif ((n910 : Int) == 1) (
 fin H₀.length [(.int .i64 1)] H911) (
 obind (hload H911 ⟨H₀.length, 0 + 0 + 2, none⟩) fun u914 =>
 vInt .i64 u914 fun n915 =>
 oif (decide ((n915 : Int) < n909)) (
 fin H₀.length [(.int .i64 1)] H911) (
 fin H₀.length [(.int .i64 2)] H911))))
/-- loop.example/g00838/spec.poAfter -/
def f111 (call : FuncId → List Value → Nat → Heap → Option (Value × Heap)) (fuel lim : Nat) (n916 : Int) (n917 : Int) (n918 : Int) (n919 : Int) (n920 : Int) (n921 : Int) (n922 : Int) (n923 : Int) (H₀ : Heap) : Option (Value × Heap) :=
 let H924 := hpush H₀ [(.int .i64 n916), (.int .i64 n917), (.int .i64 n918), (.int .i64 n919), (.int .i64 n920), (.int .i64 n921)]
 let H925 := hpush H924 [(.int .i64 0), (.int .i64 0), (.int .i64 0), (.int .i64 0), (.int .i64 0), (.int .i64 0)]
 oif ((n923 : Int) != 0) (
 obind (hload H925 ⟨H₀.length, 0 + 3 + 2, none⟩) fun u926 =>
 vInt .i64 u926 fun n927 =>
 obind (hstoreN H925 lim ⟨H₀.length, 0 + 3 + 2, none⟩ [(.int .i64 (IntKind.i64.wrap (n927 - n922)))]) fun H928 =>
 oif ((n923 : Int) == 2) (
 obind (hload H928 ⟨H₀.length, 0 + 0 + 2, none⟩) fun u929 =>
 vInt .i64 u929 fun n930 =>
 obind (hstoreN H928 lim ⟨H₀.length, 0 + 0 + 2, none⟩ [(.int .i64 (IntKind.i64.wrap (n930 - n922)))]) fun H931 =>
 obind (hloadN H931 ⟨H₀.length, 0, none⟩ 6) fun l932 =>
 vw1 (.agg l932.toArray) fun n933 n934 n935 n936 n937 n938 =>
 obind (hstoreN H931 lim ⟨H924.length, 0, none⟩ [(.int .i64 n933), (.int .i64 n934), (.int .i64 n935), (.int .i64 n936), (.int .i64 n937), (.int .i64 n938)]) fun H939 =>
 obind (obind (hloadN H939 ⟨H924.length, 0, none⟩ 6) fun c => obind (some []) fun l => some (.agg c.toArray :: l)) fun vs => fin H₀.length vs H939) (
 obind (hloadN H928 ⟨H₀.length, 0, none⟩ 6) fun l940 =>
 vw1 (.agg l940.toArray) fun n941 n942 n943 n944 n945 n946 =>
 obind (hstoreN H928 lim ⟨H924.length, 0, none⟩ [(.int .i64 n941), (.int .i64 n942), (.int .i64 n943), (.int .i64 n944), (.int .i64 n945), (.int .i64 n946)]) fun H947 =>
 obind (obind (hloadN H947 ⟨H924.length, 0, none⟩ 6) fun c => obind (some []) fun l => some (.agg c.toArray :: l)) fun vs => fin H₀.length vs H947)) (
 oif ((n923 : Int) == 2) (
 obind (hload H925 ⟨H₀.length, 0 + 0 + 2, none⟩) fun u948 =>
 vInt .i64 u948 fun n949 =>
 obind (hstoreN H925 lim ⟨H₀.length, 0 + 0 + 2, none⟩ [(.int .i64 (IntKind.i64.wrap (n949 - n922)))]) fun H950 =>
 obind (hloadN H950 ⟨H₀.length, 0, none⟩ 6) fun l951 =>
 vw1 (.agg l951.toArray) fun n952 n953 n954 n955 n956 n957 =>
 obind (hstoreN H950 lim ⟨H924.length, 0, none⟩ [(.int .i64 n952), (.int .i64 n953), (.int .i64 n954), (.int .i64 n955), (.int .i64 n956), (.int .i64 n957)]) fun H958 =>
 obind (obind (hloadN H958 ⟨H924.length, 0, none⟩ 6) fun c => obind (some []) fun l => some (.agg c.toArray :: l)) fun vs => fin H₀.length vs H958) (
 obind (hloadN H925 ⟨H₀.length, 0, none⟩ 6) fun l959 =>
 vw1 (.agg l959.toArray) fun n960 n961 n962 n963 n964 n965 =>
 obind (hstoreN H925 lim ⟨H924.length, 0, none⟩ [(.int .i64 n960), (.int .i64 n961), (.int .i64 n962), (.int .i64 n963), (.int .i64 n964), (.int .i64 n965)]) fun H966 =>
 obind (obind (hloadN H966 ⟨H924.length, 0, none⟩ 6) fun c => obind (some []) fun l => some (.agg c.toArray :: l)) fun vs => fin H₀.length vs H966))
/-- loop.example/g00838/impl.colourOf -/
def f112 (call : FuncId → List Value → Nat → Heap → Option (Value × Heap)) (fuel lim : Nat) (n967 : Int) (n968 : Int) (n969 : Int) (n970 : Int) (n971 : Int) (n972 : Int) (n973 : Int) (n974 : Int) (H₀ : Heap) : Option (Value × Heap) :=
 let H975 := hpush H₀ [(.int .i64 n967), (.int .i64 n968), (.int .i64 n969), (.int .i64 n970), (.int .i64 n971), (.int .i64 n972)]
 oif ((n974 : Int) == 0) (
 fin H₀.length [(.int .i64 0)] H975) (
 obind (hload H975 ⟨H₀.length, 0 + 3 + 2, none⟩) fun u976 =>
 vInt .i64 u976 fun n977 =>
 oif (decide ((n977 : Int) < n973)) (
 fin H₀.length [(.int .i64 0)] H975) (
 oif ((n974 : Int) == 1) (
 fin H₀.length [(.int .i64 1)] H975) (
 obind (hload H975 ⟨H₀.length, 0 + 0 + 2, none⟩) fun u978 =>
 vInt .i64 u978 fun n979 =>
 oif (decide ((n979 : Int) < n973)) (
 fin H₀.length [(.int .i64 1)] H975) (
 fin H₀.length [(.int .i64 2)] H975))))
/-- (*loop.example/g00838/spec.l1Cur).policer -/
def f113 (call : FuncId → List Value → Nat → Heap → Option (Value × Heap)) (fuel lim : Nat) (p980 : Addr) (H₀ : Heap) : Option (Value × Heap) :=
 let H981 := hpush H₀ [(.int .i64 0), (.int .i64 0), (.int .i64 0), (.int .i64 0), (.int .i64 0), (.int .i64 0)]
 obind (call 128 [(.pointer (some p980))] lim H981) fun r982 =>
 vw7 r982.1 fun n983 n984 n985 =>
 obind (call 128 [(.pointer (some p980))] lim r982.2) fun r986 =>
 vw7 r986.1 fun n987 n988 n989 =>
 let H990 := hpush r986.2 [(.int .i64 0), (.int .i64 0), (.int .i64 0), (.int .i64 0), (.int .i64 0), (.int .i64 0)]
 obind (hstoreN H990 lim ⟨r986.2.length, 0, none⟩ [(.int .i64 n983), (.int .i64 n984), (.int .i64 n985), (.int .i64 n987), (.int .i64 n988), (.int .i64 n989)]) fun H991 =>
 obind (hload H991 ⟨r986.2.length, 0 + 0 + 0, none⟩) fun u992 =>
 vInt .i64 u992 fun n993 =>
 obind (hload H991 ⟨r986.2.length, 0 + 3 + 0, none⟩) fun u994 =>
 vInt .i64 u994 fun n995 =>
 oif (decide ((n993 : Int) > n995)) (
 obind (call 141 [(.pointer (some p980)), (.int .i64 10)] lim H991) fun r996 =>
 vBool r996.1 fun b997 =>
 oif (!b997) (
 obind (hload r996.2 ⟨r986.2.length, 0 + 0 + 0, none⟩) fun u998 =>
 vInt .i64 u998 fun n999 =>
 obind (hload r996.2 ⟨r986.2.length, 0 + 3 + 0, none⟩) fun u1000 =>
 vInt .i64 u1000 fun n1001 =>
 obind (hstoreN r996.2 lim ⟨r986.2.length, 0 + 0 + 0, none⟩ [(.int .i64 n1001)]) fun H1002 =>
 obind (hstoreN H1002 lim ⟨r986.2.length, 0 + 3 + 0, none⟩ [(.int .i64 n999)]) fun H1003 =>
 obind (hloadN H1003 ⟨r986.2.length, 0, none⟩ 6) fun l1004 =>
 vw1 (.agg l1004.toArray) fun n1005 n1006 n1007 n1008 n1009 n1010 =>
 obind (hstoreN H1003 lim ⟨H₀.length, 0, none⟩ [(.int .i64 n1005), (.int .i64 n1006), (.int .i64 n1007), (.int .i64 n1008), (.int .i64 n1009), (.int .i64 n1010)]) fun H1011 =>
 obind (obind (hloadN H1011 ⟨H₀.length, 0, none⟩ 6) fun c => obind (some []) fun l => some (.agg c.toArray :: l)) fun vs => fin H₀.length vs H1011) (
 obind (hloadN r996.2 ⟨r986.2.length, 0, none⟩ 6) fun l1012 =>
 vw1 (.agg l1012.toArray) fun n1013 n1014 n1015 n1016 n1017 n1018 =>
 obind (hstoreN r996.2 lim ⟨H₀.length, 0, none⟩ [(.int .i64 n1013), (.int .i64 n1014), (.int .i64 n1015), (.int .i64 n1016), (.int .i64 n1017), (.int .i64 n1018)]) fun H1019 =>
 obind (obind (hloadN H1019 ⟨H₀.length, 0, none⟩ 6) fun c => obind (some []) fun l => some (.agg c.toArray :: l)) fun vs => fin H₀.length vs H1019)) (
 obind (hloadN H991 ⟨r986.2.length, 0, none⟩ 6) fun l1020 =>
 vw1 (.agg l1020.toArray) fun n1021 n1022 n1023 n1024 n1025 n1026 =>
 obind (hstoreN H991 lim ⟨H₀.length, 0, none⟩ [(.int .i64 n1021), (.int .i64 n1022), (.int .i64 n1023), (.int .i64 n1024), (.int .i64 n1025), (.int .i64 n1026)]) fun H1027 =>
 obind (obind (hloadN H1027 ⟨H₀.length, 0, none⟩ 6) fun c => obind (some []) fun l => some (.agg c.toArray :: l)) fun vs => fin H₀.length vs H1027)
/-- (*loop.example/g00838/spec.l1Cur).size -/
def f114 (call : FuncId → List Value → Nat → Heap → Option (Value × Heap)) (fuel lim : Nat) (p1028 : Addr) (H₀ : Heap) : Option (Value × Heap) :=
 let H1029 := hpush H₀ [(.int .i64 0), (.int .i64 1501)]
 obind (call 115 [(.pointer (some p1028)), (.slice (some ⟨H₀.length, 0, none⟩) 2 1)] lim H1029) fun r1030 =>
 vInt .i64 r1030.1 fun n1031 =>
 let H1032 := hpush r1030.2 [(.int .i64 1), (.int .i64 40), (.int .i64 100), (.int .i64 576), (.int .i64 1499), (.int .i64 1500), (.int .i64 n1031)]
 obind (call 115 [(.pointer (some p1028)), (.slice (some ⟨r1030.2.length, 0, none⟩) 7 1)] lim H1032) fun r1033 =>
 vInt .i64 r1033.1 fun n1034 =>
 fin H₀.length [(.int .i64 n1034)] r1033.2
/-- (*loop.example/g00838/spec.l1Cur).among -/
def f115 (call : FuncId → List Value → Nat → Heap → Option (Value × Heap)) (fuel lim : Nat) (p1035 : Addr) (a1036 : Option Addr) (l1037 : Nat) (e1038 : Nat) (H₀ : Heap) : Option (Value × Heap) :=
 obind (call 120 [(.pointer (some p1035)), (.int .i64 ((l1037 : Nat) : Int))] lim H₀) fun r1039 =>
 vInt .i64 r1039.1 fun n1040 =>
 slS (.slice a1036 l1037 e1038) fun p1041 l1042 e1043 =>
 asNat (.int .i64 n1040) fun k1044 =>
 oif (Nat.blt k1044 l1042) (
 obind (hload r1039.2 ⟨p1041.block, p1041.off + k1044 * 1, none⟩) fun u1045 =>
 vInt .i64 u1045 fun n1046 =>
 fin H₀.length [(.int .i64 n1046)] r1039.2) none
/-- loop.example/g00838/impl.IsBucket -/
def f50 (call : FuncId → List Value → Nat → Heap → Option (Value × Heap)) (fuel lim : Nat) (n1047 : Int) (n1048 : Int) (n1049 : Int) (H₀ : Heap) : Option (Value × Heap) :=
 let H1050 := hpush H₀ [(.int .i64 n1047), (.int .i64 n1048), (.int .i64 n1049)]
 obind (hload H1050 ⟨H₀.length, 0 + 0, none⟩) fun u1051 =>
 vInt .i64 u1051 fun n1052 =>
 obind (call 133 [(.int .i64 n1052)] lim H1050) fun r1053 =>
 vBool r1053.1 fun b1054 =>
 oif b1054 (
 obind (hload r1053.2 ⟨H₀.length, 0 + 1, none⟩) fun u1055 =>
 vInt .i64 u1055 fun n1056 =>
 oif (decide ((n1056 : Int) ≥ 0)) (
 obind (hload r1053.2 ⟨H₀.length, 0 + 1, none⟩) fun u1057 =>
 vInt .i64 u1057 fun n1058 =>
 oif (decide ((n1058 : Int) ≤ 1000000)) (
 obind (hload r1053.2 ⟨H₀.length, 0 + 2, none⟩) fun u1059 =>
 vInt .i64 u1059 fun n1060 =>
 oif (decide ((n1060 : Int) ≥ 0)) (
 obind (hload r1053.2 ⟨H₀.length, 0 + 2, none⟩) fun u1061 =>
 vInt .i64 u1061 fun n1062 =>
 obind (hload r1053.2 ⟨H₀.length, 0 + 1, none⟩) fun u1063 =>
 vInt .i64 u1063 fun n1064 =>
 fin H₀.length [(.bool (decide ((n1062 : Int) ≤ n1064)))] r1053.2) (
 fin H₀.length [(.bool false)] r1053.2)) (
 fin H₀.length [(.bool false)] r1053.2)) (
 fin H₀.length [(.bool false)] r1053.2)) (
 fin H₀.length [(.bool false)] r1053.2)
/-- (*loop.example/g00838/spec.l1Cur).pick -/
def f120 (call : FuncId → List Value → Nat → Heap → Option (Value × Heap)) (fuel lim : Nat) (p1065 : Addr) (n1066 : Int) (H₀ : Heap) : Option (Value × Heap) :=
 oif (decide ((n1066 : Int) ≤ 1)) (
 fin H₀.length [(.int .i64 0)] H₀) (
 obind (call 173 [(.pointer (some p1065))] lim H₀) fun r1067 =>
 vInt .i64 r1067.1 fun n1068 =>
 oif (decide ((n1066 : Int) > 200)) (
 obind (call 173 [(.pointer (some p1065))] lim r1067.2) fun r1069 =>
 vInt .i64 r1069.1 fun n1070 =>
 oif (n1066 == (0 : Int)) none (
 fin H₀.length [(.int .i64 ((IntKind.i64.wrap ((IntKind.i64.wrap (n1068 * 256)) + n1070)).tmod n1066))] r1069.2)) (
 oif (n1066 == (0 : Int)) none (
 fin H₀.length [(.int .i64 (n1068.tmod n1066))] r1067.2)))
/-- loop.example/g00838/spec.buGood -/
def f126 (call : FuncId → List Value → Nat → Heap → Option (Value × Heap)) (fuel lim : Nat) (n1071 : Int) (n1072 : Int) (n1073 : Int) (H₀ : Heap) : Option (Value × Heap) :=
 let H1074 := hpush H₀ [(.int .i64 n1071), (.int .i64 n1072), (.int .i64 n1073)]
 obind (hload H1074 ⟨H₀.length, 0 + 0, none⟩) fun u1075 =>
 vInt .i64 u1075 fun n1076 =>
 obind (call 174 [(.int .i64 n1076)] lim H1074) fun r1077 =>
 vBool r1077.1 fun b1078 =>
 oif b1078 (
 obind (hload r1077.2 ⟨H₀.length, 0 + 1, none⟩) fun u1079 =>
 vInt .i64 u1079 fun n1080 =>
 obind (call 131 [(.int .i64 n1080), (.int .i64 0), (.int .i64 1000000)] lim r1077.2) fun r1081 =>
 vBool r1081.1 fun b1082 =>
 oif b1082 (
 obind (hload r1081.2 ⟨H₀.length, 0 + 2, none⟩) fun u1083 =>
 vInt .i64 u1083 fun n1084 =>
 obind (hload r1081.2 ⟨H₀.length, 0 + 1, none⟩) fun u1085 =>
 vInt .i64 u1085 fun n1086 =>
 obind (call 131 [(.int .i64 n1084), (.int .i64 0), (.int .i64 n1086)] lim r1081.2) fun r1087 =>
 vBool r1087.1 fun b1088 =>
 fin H₀.length [(.bool b1088)] r1087.2) (
 fin H₀.length [(.bool false)] r1081.2)) (
 fin H₀.length [(.bool false)] r1077.2)
/-- loop.example/g00838/spec.l1In -/
def f131 (call : FuncId → List Value → Nat → Heap → Option (Value × Heap)) (fuel lim : Nat) (n1089 : Int) (n1090 : Int) (n1091 : Int) (H₀ : Heap) : Option (Value × Heap) :=
 oif (decide ((n1089 : Int) ≥ n1090)) (
 fin H₀.length [(.bool (decide ((n1089 : Int) ≤ n1091)))] H₀) (
 fin H₀.length [(.bool false)] H₀)
/-- (*loop.example/g00838/spec.l1Cur).bucket -/
def f128 (call : FuncId → List Value → Nat → Heap → Option (Value × Heap)) (fuel lim : Nat) (p1092 : Addr) (H₀ : Heap) : Option (Value × Heap) :=
 let H1093 := hpush H₀ [(.int .i64 0), (.int .i64 0), (.int .i64 0)]
 let H1094 := hpush H1093 [(.int .i64 0), (.int .i64 1), (.int .i64 10), (.int .i64 100), (.int .i64 1500), (.int .i64 100000)]
 obind (call 115 [(.pointer (some p1092)), (.slice (some ⟨H1093.length, 0, none⟩) 6 1)] lim H1094) fun r1095 =>
 vInt .i64 r1095.1 fun n1096 =>
 let H1097 := hpush r1095.2 [(.int .i64 0), (.int .i64 100), (.int .i64 1500), (.int .i64 3000), (.int .i64 20000), (.int .i64 1000000)]
 obind (call 115 [(.pointer (some p1092)), (.slice (some ⟨r1095.2.length, 0, none⟩) 6 1)] lim H1097) fun r1098 =>
 vInt .i64 r1098.1 fun n1099 =>
 let H1100 := hpush r1098.2 [(.int .i64 0), (.int .i64 0), (.int .i64 0)]
 obind (hstoreN H1100 lim ⟨r1098.2.length, 0, none⟩ [(.int .i64 n1096), (.int .i64 n1099), (.int .i64 0)]) fun H1101 =>
 obind (hload H1101 ⟨r1098.2.length, 0 + 1, none⟩) fun u1102 =>
 vInt .i64 u1102 fun n1103 =>
 obind (hload H1101 ⟨r1098.2.length, 0 + 1, none⟩) fun u1104 =>
 vInt .i64 u1104 fun n1105 =>
 oif (2 == (0 : Int)) none (
 obind (hload H1101 ⟨r1098.2.length, 0 + 1, none⟩) fun u1106 =>
 vInt .i64 u1106 fun n1107 =>
 obind (call 120 [(.pointer (some p1092)), (.int .i64 3000)] lim H1101) fun r1108 =>
 vInt .i64 r1108.1 fun n1109 =>
 obind (call 175 [(.int .i64 n1107), (.int .i64 n1109)] lim r1108.2) fun r1110 =>
 vInt .i64 r1110.1 fun n1111 =>
 let H1112 := hpush r1110.2 [(.int .i64 0), (.int .i64 n1103), (.int .i64 (IntKind.i64.wrap (n1105.tdiv 2))), (.int .i64 n1111)]
 obind (call 115 [(.pointer (some p1092)), (.slice (some ⟨r1110.2.length, 0, none⟩) 4 1)] lim H1112) fun r1113 =>
 vInt .i64 r1113.1 fun n1114 =>
 obind (hstoreN r1113.2 lim ⟨r1098.2.length, 0 + 2, none⟩ [(.int .i64 n1114)]) fun H1115 =>
 oif (sameRd (hload r1108.2 ⟨r1098.2.length, 0 + 1, none⟩) (hload H1101 ⟨r1098.2.length, 0 + 1, none⟩)) (
 oif (sameRd (hload r1110.2 ⟨r1098.2.length, 0 + 1, none⟩) (hload H1101 ⟨r1098.2.length, 0 + 1, none⟩)) (
 oif (sameRd (hload r1108.2 ⟨r1098.2.length, 0 + 1, none⟩) (hload H1101 ⟨r1098.2.length, 0 + 1, none⟩)) (
 oif (sameRd (hload r1110.2 ⟨r1098.2.length, 0 + 1, none⟩) (hload H1101 ⟨r1098.2.length, 0 + 1, none⟩)) (
 oif (sameRd (hload r1108.2 ⟨r1098.2.length, 0 + 1, none⟩) (hload H1101 ⟨r1098.2.length, 0 + 1, none⟩)) (
 obind (call 120 [(.pointer (some p1092)), (.int .i64 24)] lim H1115) fun r1116 =>
 vInt .i64 r1116.1 fun n1117 =>
 oif ((n1117 : Int) == 0) (
 let H1118 := hpush r1116.2 [(.int .i64 (-1)), (.int .i64 100001)]
 obind (call 115 [(.pointer (some p1092)), (.slice (some ⟨r1116.2.length, 0, none⟩) 2 1)] lim H1118) fun r1119 =>
 vInt .i64 r1119.1 fun n1120 =>
 obind (hstoreN r1119.2 lim ⟨r1098.2.length, 0 + 0, none⟩ [(.int .i64 n1120)]) fun H1121 =>
 obind (hloadN H1121 ⟨r1098.2.length, 0, none⟩ 3) fun l1122 =>
 vw7 (.agg l1122.toArray) fun n1123 n1124 n1125 =>
 obind (hstoreN H1121 lim ⟨H₀.length, 0, none⟩ [(.int .i64 n1123), (.int .i64 n1124), (.int .i64 n1125)]) fun H1126 =>
 obind (obind (hloadN H1126 ⟨H₀.length, 0, none⟩ 3) fun c => obind (some []) fun l => some (.agg c.toArray :: l)) fun vs => fin H₀.length vs H1126) (
 oif ((n1117 : Int) == 1) (
 let H1127 := hpush r1116.2 [(.int .i64 (-1)), (.int .i64 1000001)]
 obind (call 115 [(.pointer (some p1092)), (.slice (some ⟨r1116.2.length, 0, none⟩) 2 1)] lim H1127) fun r1128 =>
 vInt .i64 r1128.1 fun n1129 =>
 obind (hstoreN r1128.2 lim ⟨r1098.2.length, 0 + 1, none⟩ [(.int .i64 n1129)]) fun H1130 =>
 obind (hloadN H1130 ⟨r1098.2.length, 0, none⟩ 3) fun l1131 =>
 vw7 (.agg l1131.toArray) fun n1132 n1133 n1134 =>
 obind (hstoreN H1130 lim ⟨H₀.length, 0, none⟩ [(.int .i64 n1132), (.int .i64 n1133), (.int .i64 n1134)]) fun H1135 =>
 obind (obind (hloadN H1135 ⟨H₀.length, 0, none⟩ 3) fun c => obind (some []) fun l => some (.agg c.toArray :: l)) fun vs => fin H₀.length vs H1135) (
 oif ((n1117 : Int) == 2) (
 obind (hload r1116.2 ⟨r1098.2.length, 0 + 1, none⟩) fun u1136 =>
 vInt .i64 u1136 fun n1137 =>
 let H1138 := hpush r1116.2 [(.int .i64 (-1)), (.int .i64 (IntKind.i64.wrap (n1137 + 1)))]
 obind (call 115 [(.pointer (some p1092)), (.slice (some ⟨r1116.2.length, 0, none⟩) 2 1)] lim H1138) fun r1139 =>
 vInt .i64 r1139.1 fun n1140 =>
 obind (hstoreN r1139.2 lim ⟨r1098.2.length, 0 + 2, none⟩ [(.int .i64 n1140)]) fun H1141 =>
 obind (hloadN H1141 ⟨r1098.2.length, 0, none⟩ 3) fun l1142 =>
 vw7 (.agg l1142.toArray) fun n1143 n1144 n1145 =>
 obind (hstoreN H1141 lim ⟨H₀.length, 0, none⟩ [(.int .i64 n1143), (.int .i64 n1144), (.int .i64 n1145)]) fun H1146 =>
 obind (obind (hloadN H1146 ⟨H₀.length, 0, none⟩ 3) fun c => obind (some []) fun l => some (.agg c.toArray :: l)) fun vs => fin H₀.length vs H1146) (
 obind (hloadN r1116.2 ⟨r1098.2.length, 0, none⟩ 3) fun l1147 =>
 vw7 (.agg l1147.toArray) fun n1148 n1149 n1150 =>
 obind (hstoreN r1116.2 lim ⟨H₀.length, 0, none⟩ [(.int .i64 n1148), (.int .i64 n1149), (.int .i64 n1150)]) fun H1151 =>
 obind (obind (hloadN H1151 ⟨H₀.length, 0, none⟩ 3) fun c => obind (some []) fun l => some (.agg c.toArray :: l)) fun vs => fin H₀.length vs H1151)))) none) none) none) none) none)
/-- (*loop.example/g00838/spec.l1Cur).one -/
def f141 (call : FuncId → List Value → Nat → Heap → Option (Value × Heap)) (fuel lim : Nat) (p1152 : Addr) (n1153 : Int) (H₀ : Heap) : Option (Value × Heap) :=
 obind (call 120 [(.pointer (some p1152)), (.int .i64 n1153)] lim H₀) fun r1154 =>
 vInt .i64 r1154.1 fun n1155 =>
 fin H₀.length [(.bool ((n1155 : Int) == 0))] r1154.2
/-- loop.example/g00838/impl.isFlowRate -/
def f133 (call : FuncId → List Value → Nat → Heap → Option (Value × Heap)) (fuel lim : Nat) (n1156 : Int) (H₀ : Heap) : Option (Value × Heap) :=
 oif (decide ((n1156 : Int) ≥ 0)) (
 fin H₀.length [(.bool (decide ((n1156 : Int) ≤ 100000)))] H₀) (
 fin H₀.length [(.bool false)] H₀)
/-- (*loop.example/g00838/spec.l1Cur).next -/
def f173 (call : FuncId → List Value → Nat → Heap → Option (Value × Heap)) (fuel lim : Nat) (p1157 : Addr) (H₀ : Heap) : Option (Value × Heap) :=
 obind (hload H₀ ⟨p1157.block, p1157.off + 1, none⟩) fun u1158 =>
 vInt .i64 u1158 fun n1159 =>
 obind (hload H₀ ⟨p1157.block, p1157.off + 0, none⟩) fun u1160 =>
 vSl u1160 fun a1161 l1162 e1163 =>
 oif (decide ((n1159 : Int) < ((l1162 : Nat) : Int))) (
 obind (hload H₀ ⟨p1157.block, p1157.off + 0, none⟩) fun u1164 =>
 vSl u1164 fun a1165 l1166 e1167 =>
 obind (hload H₀ ⟨p1157.block, p1157.off + 1, none⟩) fun u1168 =>
 vInt .i64 u1168 fun n1169 =>
 slS (.slice a1165 l1166 e1167) fun p1170 l1171 e1172 =>
 asNat (.int .i64 n1169) fun k1173 =>
 oif (Nat.blt k1173 l1171) (
 obind (hload H₀ ⟨p1170.block, p1170.off + k1173 * 1, none⟩) fun u1174 =>
 vInt .u8 u1174 fun n1175 =>
 obind (hload H₀ ⟨p1157.block, p1157.off + 1, none⟩) fun u1176 =>
 vInt .i64 u1176 fun n1177 =>
 obind (hstoreN H₀ lim ⟨p1157.block, p1157.off + 1, none⟩ [(.int .i64 (IntKind.i64.wrap (n1177 + 1)))]) fun H1178 =>
 obind (hload H1178 ⟨p1157.block, p1157.off + 2, none⟩) fun u1179 =>
 vInt .u64 u1179 fun n1180 =>
 obind (hstoreN H1178 lim ⟨p1157.block, p1157.off + 2, none⟩ [(.int .u64 (IntKind.u64.wrap ((IntKind.u64.wrap ((IntKind.u64.wrap (n1180 * 6364136223846793005)) + (IntKind.u64.wrap (IntKind.i64.wrap n1175)))) + 1442695040888963407)))]) fun H1181 =>
 obind (hload H1181 ⟨p1157.block, p1157.off + 1, none⟩) fun u1182 =>
 vInt .i64 u1182 fun n1183 =>
 obind (hload H1181 ⟨p1157.block, p1157.off + 0, none⟩) fun u1184 =>
 vSl u1184 fun a1185 l1186 e1187 =>
 oif (decide ((n1183 : Int) ≤ ((l1186 : Nat) : Int))) (
 fin H₀.length [(.int .i64 (IntKind.i64.wrap n1175))] H1181) (
 obind (hload H1181 ⟨p1157.block, p1157.off + 2, none⟩) fun u1188 =>
 vInt .u64 u1188 fun n1189 =>
 oif (decide (40 < (0 : Int))) none (
 fin H₀.length [(.int .i64 (IntKind.i64.wrap (IntKind.u64.wrap ((BitVec.ofInt IntKind.u64.bits (n1189.fdiv (2 ^ (min (40 : Int).toNat IntKind.u64.bits))) &&& BitVec.ofInt IntKind.u64.bits 255).toNat : Int))))] H1181))) none) (
 obind (hload H₀ ⟨p1157.block, p1157.off + 1, none⟩) fun u1190 =>
 vInt .i64 u1190 fun n1191 =>
 obind (hstoreN H₀ lim ⟨p1157.block, p1157.off + 1, none⟩ [(.int .i64 (IntKind.i64.wrap (n1191 + 1)))]) fun H1192 =>
 obind (hload H1192 ⟨p1157.block, p1157.off + 2, none⟩) fun u1193 =>
 vInt .u64 u1193 fun n1194 =>
 obind (hstoreN H1192 lim ⟨p1157.block, p1157.off + 2, none⟩ [(.int .u64 (IntKind.u64.wrap ((IntKind.u64.wrap ((IntKind.u64.wrap (n1194 * 6364136223846793005)) + (IntKind.u64.wrap 0))) + 1442695040888963407)))]) fun H1195 =>
 obind (hload H1195 ⟨p1157.block, p1157.off + 1, none⟩) fun u1196 =>
 vInt .i64 u1196 fun n1197 =>
 obind (hload H1195 ⟨p1157.block, p1157.off + 0, none⟩) fun u1198 =>
 vSl u1198 fun a1199 l1200 e1201 =>
 oif (decide ((n1197 : Int) ≤ ((l1200 : Nat) : Int))) (
 fin H₀.length [(.int .i64 0)] H1195) (
 obind (hload H1195 ⟨p1157.block, p1157.off + 2, none⟩) fun u1202 =>
 vInt .u64 u1202 fun n1203 =>
 oif (decide (40 < (0 : Int))) none (
 fin H₀.length [(.int .i64 (IntKind.i64.wrap (IntKind.u64.wrap ((BitVec.ofInt IntKind.u64.bits (n1203.fdiv (2 ^ (min (40 : Int).toNat IntKind.u64.bits))) &&& BitVec.ofInt IntKind.u64.bits 255).toNat : Int))))] H1195)))
/-- loop.example/g00838/spec.buRate -/
def f174 (call : FuncId → List Value → Nat → Heap → Option (Value × Heap)) (fuel lim : Nat) (n1204 : Int) (H₀ : Heap) : Option (Value × Heap) :=
 obind (call 131 [(.int .i64 n1204), (.int .i64 0), (.int .i64 100000)] lim H₀) fun r1205 =>
 vBool r1205.1 fun b1206 =>
 fin H₀.length [(.bool b1206)] r1205.2
/-- loop.example/g00838/spec.l1Least -/
def f175 (call : FuncId → List Value → Nat → Heap → Option (Value × Heap)) (fuel lim : Nat) (n1207 : Int) (n1208 : Int) (H₀ : Heap) : Option (Value × Heap) :=
 oif (decide ((n1207 : Int) < n1208)) (
 fin H₀.length [(.int .i64 n1207)] H₀) (
 fin H₀.length [(.int .i64 n1208)] H₀)

theorem run3 (d fuel lim : Nat) (a1 : Option Addr) (l2 : Nat) (e3 : Nat) (a4 : Option Addr) (l5 : Nat) (e6 : Nat) (H₀ : Heap) : run Try.prog (ann fuel) (d + 1) 3 [(.slice a1 l2 e3), (.slice a4 l5 e6)] lim H₀ = f3 (run Try.prog (ann fuel) d) fuel H₀.length a1 l2 e3 a4 l5 e6 H₀ := by kernel_rfl
theorem run9 (d fuel lim : Nat) (a502 : Option Addr) (l503 : Nat) (e504 : Nat) (H₀ : Heap) : run Try.prog (ann fuel) (d + 1) 9 [(.slice a502 l503 e504)] lim H₀ = f9 (run Try.prog (ann fuel) d) fuel H₀.length a502 l503 e504 H₀ := by kernel_rfl
theorem run10 (d fuel lim : Nat) (n516 : Int) (n517 : Int) (n518 : Int) (n519 : Int) (n520 : Int) (n521 : Int) (n522 : Int) (n523 : Int) (H₀ : Heap) : run Try.prog (ann fuel) (d + 1) 10 [(.agg #[(.int .i64 n516), (.int .i64 n517), (.int .i64 n518), (.int .i64 n519), (.int .i64 n520), (.int .i64 n521)]), (.int .i64 n522), (.int .i64 n523)] lim H₀ = f10 (run Try.prog (ann fuel) d) fuel H₀.length n516 n517 n518 n519 n520 n521 n522 n523 H₀ := by kernel_rfl
theorem run11 (d fuel lim : Nat) (n552 : Int) (n553 : Int) (n554 : Int) (n555 : Int) (n556 : Int) (n557 : Int) (n558 : Int) (n559 : Int) (H₀ : Heap) : run Try.prog (ann fuel) (d + 1) 11 [(.agg #[(.int .i64 n552), (.int .i64 n553), (.int .i64 n554), (.int .i64 n555), (.int .i64 n556), (.int .i64 n557)]), (.int .i64 n558), (.int .i64 n559)] lim H₀ = f11 (run Try.prog (ann fuel) d) fuel H₀.length n552 n553 n554 n555 n556 n557 n558 n559 H₀ := by kernel_rfl
theorem run12 (d fuel lim : Nat) (n602 : Int) (n603 : Int) (n604 : Int) (n605 : Int) (n606 : Int) (n607 : Int) (n608 : Int) (n609 : Int) (H₀ : Heap) : run Try.prog (ann fuel) (d + 1) 12 [(.agg #[(.int .i64 n602), (.int .i64 n603), (.int .i64 n604), (.int .i64 n605), (.int .i64 n606), (.int .i64 n607)]), (.int .i64 n608), (.int .i64 n609)] lim H₀ = f12 (run Try.prog (ann fuel) d) fuel H₀.length n602 n603 n604 n605 n606 n607 n608 n609 H₀ := by kernel_rfl
theorem run13 (d fuel lim : Nat) (n633 : Int) (n634 : Int) (n635 : Int) (n636 : Int) (n637 : Int) (n638 : Int) (n639 : Int) (n640 : Int) (H₀ : Heap) : run Try.prog (ann fuel) (d + 1) 13 [(.agg #[(.int .i64 n633), (.int .i64 n634), (.int .i64 n635), (.int .i64 n636), (.int .i64 n637), (.int .i64 n638)]), (.int .i64 n639), (.int .i64 n640)] lim H₀ = f13 (run Try.prog (ann fuel) d) fuel H₀.length n633 n634 n635 n636 n637 n638 n639 n640 H₀ := by kernel_rfl
theorem run14 (d fuel lim : Nat) (a664 : Option Addr) (l665 : Nat) (e666 : Nat) (H₀ : Heap) : run Try.prog (ann fuel) (d + 1) 14 [(.slice a664 l665 e666)] lim H₀ = f14 (run Try.prog (ann fuel) d) fuel H₀.length a664 l665 e666 H₀ := by kernel_rfl
theorem run15 (d fuel lim : Nat) (n679 : Int) (n680 : Int) (n681 : Int) (n682 : Int) (n683 : Int) (n684 : Int) (n685 : Int) (H₀ : Heap) : run Try.prog (ann fuel) (d + 1) 15 [(.agg #[(.int .i64 n679), (.int .i64 n680), (.int .i64 n681), (.int .i64 n682), (.int .i64 n683), (.int .i64 n684)]), (.int .i64 n685)] lim H₀ = f15 (run Try.prog (ann fuel) d) fuel H₀.length n679 n680 n681 n682 n683 n684 n685 H₀ := by kernel_rfl
theorem run16 (d fuel lim : Nat) (n697 : Int) (n698 : Int) (n699 : Int) (n700 : Int) (n701 : Int) (n702 : Int) (n703 : Int) (H₀ : Heap) : run Try.prog (ann fuel) (d + 1) 16 [(.agg #[(.int .i64 n697), (.int .i64 n698), (.int .i64 n699), (.int .i64 n700), (.int .i64 n701), (.int .i64 n702)]), (.int .i64 n703)] lim H₀ = f16 (run Try.prog (ann fuel) d) fuel H₀.length n697 n698 n699 n700 n701 n702 n703 H₀ := by kernel_rfl
theorem run17 (d fuel lim : Nat) (a715 : Option Addr) (l716 : Nat) (e717 : Nat) (H₀ : Heap) : run Try.prog (ann fuel) (d + 1) 17 [(.slice a715 l716 e717)] lim H₀ = f17 (run Try.prog (ann fuel) d) fuel H₀.length a715 l716 e717 H₀ := by kernel_rfl
theorem run18 (d fuel lim : Nat) (n731 : Int) (n732 : Int) (n733 : Int) (n734 : Int) (H₀ : Heap) : run Try.prog (ann fuel) (d + 1) 18 [(.int .i64 n731), (.int .i64 n732), (.int .i64 n733), (.int .i64 n734)] lim H₀ = f18 (run Try.prog (ann fuel) d) fuel H₀.length n731 n732 n733 n734 H₀ := by kernel_rfl
theorem run19 (d fuel lim : Nat) (n756 : Int) (n757 : Int) (n758 : Int) (n759 : Int) (H₀ : Heap) : run Try.prog (ann fuel) (d + 1) 19 [(.int .i64 n756), (.int .i64 n757), (.int .i64 n758), (.int .i64 n759)] lim H₀ = f19 (run Try.prog (ann fuel) d) fuel H₀.length n756 n757 n758 n759 H₀ := by kernel_rfl
theorem run20 (d fuel lim : Nat) (n781 : Int) (n782 : Int) (n783 : Int) (n784 : Int) (n785 : Int) (n786 : Int) (H₀ : Heap) : run Try.prog (ann fuel) (d + 1) 20 [(.agg #[(.int .i64 n781), (.int .i64 n782), (.int .i64 n783), (.int .i64 n784), (.int .i64 n785), (.int .i64 n786)])] lim H₀ = f20 (run Try.prog (ann fuel) d) fuel H₀.length n781 n782 n783 n784 n785 n786 H₀ := by kernel_rfl
theorem run21 (d fuel lim : Nat) (n816 : Int) (n817 : Int) (n818 : Int) (n819 : Int) (n820 : Int) (n821 : Int) (H₀ : Heap) : run Try.prog (ann fuel) (d + 1) 21 [(.agg #[(.int .i64 n816), (.int .i64 n817), (.int .i64 n818), (.int .i64 n819), (.int .i64 n820), (.int .i64 n821)])] lim H₀ = f21 (run Try.prog (ann fuel) d) fuel H₀.length n816 n817 n818 n819 n820 n821 H₀ := by kernel_rfl
theorem run103 (d fuel lim : Nat) (a832 : Option Addr) (l833 : Nat) (e834 : Nat) (H₀ : Heap) : run Try.prog (ann fuel) (d + 1) 103 [(.slice a832 l833 e834)] lim H₀ = f103 (run Try.prog (ann fuel) d) fuel H₀.length a832 l833 e834 H₀ := by kernel_rfl
theorem run104 (d fuel lim : Nat) (n851 : Int) (H₀ : Heap) : run Try.prog (ann fuel) (d + 1) 104 [(.int .i64 n851)] lim H₀ = f104 (run Try.prog (ann fuel) d) fuel H₀.length n851 H₀ := by kernel_rfl
theorem run105 (d fuel lim : Nat) (n852 : Int) (H₀ : Heap) : run Try.prog (ann fuel) (d + 1) 105 [(.int .i64 n852)] lim H₀ = f105 (run Try.prog (ann fuel) d) fuel H₀.length n852 H₀ := by kernel_rfl
theorem run106 (d fuel lim : Nat) (p853 : Addr) (n854 : Int) (n855 : Int) (H₀ : Heap) : run Try.prog (ann fuel) (d + 1) 106 [(.pointer (some p853)), (.int .i64 n854), (.int .i64 n855)] lim H₀ = f106 (run Try.prog (ann fuel) d) fuel H₀.length p853 n854 n855 H₀ := by kernel_rfl
theorem run107 (d fuel lim : Nat) (n874 : Int) (n875 : Int) (n876 : Int) (n877 : Int) (n878 : Int) (n879 : Int) (H₀ : Heap) : run Try.prog (ann fuel) (d + 1) 107 [(.agg #[(.int .i64 n874), (.int .i64 n875), (.int .i64 n876), (.int .i64 n877), (.int .i64 n878), (.int .i64 n879)])] lim H₀ = f107 (run Try.prog (ann fuel) d) fuel H₀.length n874 n875 n876 n877 n878 n879 H₀ := by kernel_rfl
theorem run108 (d fuel lim : Nat) (n897 : Int) (H₀ : Heap) : run Try.prog (ann fuel) (d + 1) 108 [(.int .i64 n897)] lim H₀ = f108 (run Try.prog (ann fuel) d) fuel H₀.length n897 H₀ := by kernel_rfl
theorem run109 (d fuel lim : Nat) (n900 : Int) (H₀ : Heap) : run Try.prog (ann fuel) (d + 1) 109 [(.int .i64 n900)] lim H₀ = f109 (run Try.prog (ann fuel) d) fuel H₀.length n900 H₀ := by kernel_rfl
theorem run110 (d fuel lim : Nat) (n903 : Int) (n904 : Int) (n905 : Int) (n906 : Int) (n907 : Int) (n908 : Int) (n909 : Int) (n910 : Int) (H₀ : Heap) : run Try.prog (ann fuel) (d + 1) 110 [(.agg #[(.int .i64 n903), (.int .i64 n904), (.int .i64 n905), (.int .i64 n906), (.int .i64 n907), (.int .i64 n908)]), (.int .i64 n909), (.int .i64 n910)] lim H₀ = f110 (run Try.prog (ann fuel) d) fuel H₀.length n903 n904 n905 n906 n907 n908 n909 n910 H₀ := by kernel_rfl
theorem run111 (d fuel lim : Nat) (n916 : Int) (n917 : Int) (n918 : Int) (n919 : Int) (n920 : Int) (n921 : Int) (n922 : Int) (n923 : Int) (H₀ : Heap) : run Try.prog (ann fuel) (d + 1) 111 [(.agg #[(.int .i64 n916), (.int .i64 n917), (.int .i64 n918), (.int .i64 n919), (.int .i64 n920), (.int .i64 n921)]), (.int .i64 n922), (.int .i64 n923)] lim H₀ = f111 (run Try.prog (ann fuel) d) fuel H₀.length n916 n917 n918 n919 n920 n921 n922 n923 H₀ := by kernel_rfl
theorem run112 (d fuel lim : Nat) (n967 : Int) (n968 : Int) (n969 : Int) (n970 : Int) (n971 : Int) (n972 : Int) (n973 : Int) (n974 : Int) (H₀ : Heap) : run Try.prog (ann fuel) (d + 1) 112 [(.agg #[(.int .i64 n967), (.int .i64 n968), (.int .i64 n969), (.int .i64 n970), (.int .i64 n971), (.int .i64 n972)]), (.int .i64 n973), (.int .i64 n974)] lim H₀ = f112 (run Try.prog (ann fuel) d) fuel H₀.length n967 n968 n969 n970 n971 n972 n973 n974 H₀ := by kernel_rfl
theorem run113 (d fuel lim : Nat) (p980 : Addr) (H₀ : Heap) : run Try.prog (ann fuel) (d + 1) 113 [(.pointer (some p980))] lim H₀ = f113 (run Try.prog (ann fuel) d) fuel H₀.length p980 H₀ := by kernel_rfl
theorem run114 (d fuel lim : Nat) (p1028 : Addr) (H₀ : Heap) : run Try.prog (ann fuel) (d + 1) 114 [(.pointer (some p1028))] lim H₀ = f114 (run Try.prog (ann fuel) d) fuel H₀.length p1028 H₀ := by kernel_rfl
theorem run115 (d fuel lim : Nat) (p1035 : Addr) (a1036 : Option Addr) (l1037 : Nat) (e1038 : Nat) (H₀ : Heap) : run Try.prog (ann fuel) (d + 1) 115 [(.pointer (some p1035)), (.slice a1036 l1037 e1038)] lim H₀ = f115 (run Try.prog (ann fuel) d) fuel H₀.length p1035 a1036 l1037 e1038 H₀ := by kernel_rfl
theorem run50 (d fuel lim : Nat) (n1047 : Int) (n1048 : Int) (n1049 : Int) (H₀ : Heap) : run Try.prog (ann fuel) (d + 1) 50 [(.agg #[(.int .i64 n1047), (.int .i64 n1048), (.int .i64 n1049)])] lim H₀ = f50 (run Try.prog (ann fuel) d) fuel H₀.length n1047 n1048 n1049 H₀ := by kernel_rfl
theorem run120 (d fuel lim : Nat) (p1065 : Addr) (n1066 : Int) (H₀ : Heap) : run Try.prog (ann fuel) (d + 1) 120 [(.pointer (some p1065)), (.int .i64 n1066)] lim H₀ = f120 (run Try.prog (ann fuel) d) fuel H₀.length p1065 n1066 H₀ := by kernel_rfl
theorem run126 (d fuel lim : Nat) (n1071 : Int) (n1072 : Int) (n1073 : Int) (H₀ : Heap) : run Try.prog (ann fuel) (d + 1) 126 [(.agg #[(.int .i64 n1071), (.int .i64 n1072), (.int .i64 n1073)])] lim H₀ = f126 (run Try.prog (ann fuel) d) fuel H₀.length n1071 n1072 n1073 H₀ := by kernel_rfl
theorem run131 (d fuel lim : Nat) (n1089 : Int) (n1090 : Int) (n1091 : Int) (H₀ : Heap) : run Try.prog (ann fuel) (d + 1) 131 [(.int .i64 n1089), (.int .i64 n1090), (.int .i64 n1091)] lim H₀ = f131 (run Try.prog (ann fuel) d) fuel H₀.length n1089 n1090 n1091 H₀ := by kernel_rfl
theorem run128 (d fuel lim : Nat) (p1092 : Addr) (H₀ : Heap) : run Try.prog (ann fuel) (d + 1) 128 [(.pointer (some p1092))] lim H₀ = f128 (run Try.prog (ann fuel) d) fuel H₀.length p1092 H₀ := by kernel_rfl
theorem run141 (d fuel lim : Nat) (p1152 : Addr) (n1153 : Int) (H₀ : Heap) : run Try.prog (ann fuel) (d + 1) 141 [(.pointer (some p1152)), (.int .i64 n1153)] lim H₀ = f141 (run Try.prog (ann fuel) d) fuel H₀.length p1152 n1153 H₀ := by kernel_rfl
theorem run133 (d fuel lim : Nat) (n1156 : Int) (H₀ : Heap) : run Try.prog (ann fuel) (d + 1) 133 [(.int .i64 n1156)] lim H₀ = f133 (run Try.prog (ann fuel) d) fuel H₀.length n1156 H₀ := by kernel_rfl
theorem run173 (d fuel lim : Nat) (p1157 : Addr) (H₀ : Heap) : run Try.prog (ann fuel) (d + 1) 173 [(.pointer (some p1157))] lim H₀ = f173 (run Try.prog (ann fuel) d) fuel H₀.length p1157 H₀ := by kernel_rfl
theorem run174 (d fuel lim : Nat) (n1204 : Int) (H₀ : Heap) : run Try.prog (ann fuel) (d + 1) 174 [(.int .i64 n1204)] lim H₀ = f174 (run Try.prog (ann fuel) d) fuel H₀.length n1204 H₀ := by kernel_rfl
theorem run175 (d fuel lim : Nat) (n1207 : Int) (n1208 : Int) (H₀ : Heap) : run Try.prog (ann fuel) (d + 1) 175 [(.int .i64 n1207), (.int .i64 n1208)] lim H₀ = f175 (run Try.prog (ann fuel) d) fuel H₀.length n1207 n1208 H₀ := by kernel_rfl

end Go.Proofs.Ytngofhppopgicaa
