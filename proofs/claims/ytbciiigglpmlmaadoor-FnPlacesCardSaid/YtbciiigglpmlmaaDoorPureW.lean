/-
  The walks of the library's functions that count and find a byte in a text: their contracts, laid at this program.
  Conditions: none beyond those of the contracts.
-/
import Derived.Test.YtbciiigglpmlmaaDoorVPure
import Derived.Test.YtbciiigglpmlmaaDoorPureL
import Derived.Test.YtbciiigglpmlmaaDoorProg
import Derived.WalkKit
import Derived.Shelf.Strings.Count
import Derived.Shelf.Strings.Search3
import Derived.Shelf.Abstract
import Derived.KernelRfl
set_option linter.all false
namespace Go.Proofs.YtbciiigglpmlmaaDoor
open Go.RowKit Go.Pv Go.Shelf

theorem idx_eq : ∀ (l : List UInt8) (c : UInt8), Lib.indexByte l c = idxG l c
  | [], _ => rfl
  | b :: l, c => by
    unfold Lib.indexByte idxG
    rw [idx_eq l c]

theorem cnt_walk : StrWalk Tryd.prog 122 cntG := fun s c w => Any.strings_Count_one Tryd.lays138 s c w
theorem idx_walk : StrWalk Tryd.prog 146 idxG := fun s c w => by
  have h := Any.strings_Index_one Tryd.lays143 s c w
  rw [idx_eq] at h
  exact h

theorem cnt_ext : ∀ args lim H v H', strX cntG args lim H = some (v, H') → Go.Ev.CallF Tryd.prog 122 args lim H v H' :=
  str_call (enters_of Tryd.func122 (by kernel_rfl) rfl) cnt_walk
theorem idx_ext : ∀ args lim H v H', strX idxG args lim H = some (v, H') → Go.Ev.CallF Tryd.prog 146 args lim H v H' :=
  str_call (enters_of Tryd.func146 (by kernel_rfl) rfl) idx_walk

end Go.Proofs.YtbciiigglpmlmaaDoor
