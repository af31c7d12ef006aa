/-
  The walks of the library's functions that find a byte's last place and that copy a text: their contracts, laid at this program.
  Conditions: none beyond those of the contracts.
-/
import Derived.Test.YtbciiigglpmlmaaDoorVStr
import Derived.Test.YtbciiigglpmlmaaDoorStrL
import Derived.Test.YtbciiigglpmlmaaDoorProg
import Derived.WalkKit
import Derived.Shelf.Strings.LastIndex
import Derived.Shelf.Strings.Repeat
import Derived.Shelf.Abstract
import Derived.KernelRfl
set_option linter.all false
namespace Go.Proofs.YtbciiigglpmlmaaDoor
open Go.RowKit Go.Pv Go.Shelf

theorem lix_walk : LixWalk Tryd.prog 123 := fun s c w hs => by
  have h := Any.strings_LastIndex_one Tryd.lays148 s ⟨#[c]⟩ rfl (by omega) w
  refine h.mono ?_
  rintro e w' ⟨rfl, rfl⟩
  refine ⟨?_, rfl⟩
  have := lix_eq s c
  rw [← this]; rfl

theorem extra : Builder.Extra Tryd.prog Tryd.lays105_ren where
  sizeBuilder := by kernel_rfl
  liesBuilder := by kernel_rfl
  t5 := Tryd.underlying5
  a5 := Tryd.isAgg5
  z5 := Tryd.sizeOf5
  v5 := Tryd.zeroValue5
  infoByte := by kernel_rfl
  cellsByte := by kernel_rfl
  sizeByte := by kernel_rfl
  neB5 := by decide

theorem rep_walk : RepWalk Tryd.prog 85 := fun s n w hn hs => Any.strings_Repeat Tryd.lays105 extra s n w (by omega) (by
  have : s.size * n ≤ 1000000 * 1000000 := Nat.mul_le_mul hs hn
  omega)

theorem lix_ext : ∀ args lim H v H', lixX args lim H = some (v, H') → Go.Ev.CallF Tryd.prog 123 args lim H v H' :=
  lix_call (enters_of Tryd.func123 (by kernel_rfl) rfl) lix_walk
theorem rep_ext : ∀ args lim H v H', repX args lim H = some (v, H') → Go.Ev.CallF Tryd.prog 85 args lim H v H' :=
  rep_call (enters_of Tryd.func85 (by kernel_rfl) rfl) rep_walk

end Go.Proofs.YtbciiigglpmlmaaDoor
