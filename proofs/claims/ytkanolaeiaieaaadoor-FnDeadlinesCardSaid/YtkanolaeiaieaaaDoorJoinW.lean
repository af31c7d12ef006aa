/-
  The walk of the library's function that joins texts: its contract, laid at this program.
  Conditions: none beyond those of the contract.
-/
import Derived.Test.YtkanolaeiaieaaaDoorVJoin
import Derived.Test.YtkanolaeiaieaaaDoorJoinL
import Derived.Test.YtkanolaeiaieaaaDoorProg
import Derived.WalkKit
import Derived.Shelf.Strings.OnBuilder
import Derived.Shelf.Abstract
import Derived.KernelRfl
set_option linter.all false
namespace Go.Proofs.YtkanolaeiaieaaaDoor
open Go.RowKit Go.Pv Go.Shelf

theorem extraJ : Builder.Extra Tryd.prog Tryd.lays156_ren where
  sizeBuilder := by kernel_rfl
  liesBuilder := by kernel_rfl
  t5 := Tryd.underlying5
  a5 := Tryd.isAgg5
  z5 := Tryd.sizeOf5
  v5 := Tryd.zeroValue5
  infoByte := by kernel_rfl
  cellsByte := by kernel_rfl
  sizeByte := by kernel_rfl
  neB5 := by decide

theorem join_walk : JoinWalk Tryd.prog 106 := fun b off cap l s w h1 h2 h3 h4 h5 h6 => Any.strings_Join Tryd.lays156 extraJ b off cap l s w h5 h6 (by omega) h4 (by
  have : (joinB l s).length ≤ 140737488355328 := by omega
  exact this)

theorem join_ext : ∀ args lim H v H', joinX args lim H = some (v, H') → Go.Ev.CallF Tryd.prog 106 args lim H v H' :=
  join_call (enters_of Tryd.func106 (by kernel_rfl) rfl) join_walk

end Go.Proofs.YtkanolaeiaieaaaDoor
