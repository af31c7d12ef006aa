/-
  The walk of the library's function that sorts numbers: its contract, laid at this program.
  Conditions: none beyond those of the contract.
-/
import Derived.Test.YtaggjheabeoohaaVSort
import Derived.Test.YtaggjheabeoohaaSortL
import Derived.Test.YtaggjheabeoohaaProg
import Derived.WalkKit
import Derived.Shelf.Sort.Plain
import Derived.Lib.RowBridge
import Derived.Shelf.Abstract
import Derived.KernelRfl
set_option linter.all false
namespace Go.Proofs.Ytaggjheabeoohaa
open Go.RowKit Go.Pv Go.Shelf

theorem sort_walk : SortWalk Try.prog 148 := by
  intro b off cap l w h1 h2 hc hf hb
  have hH : Go.Sort.Holds (Value.int .i64) w b off l.toArray := by
    intro j hj
    have hj' : j < l.length := by simpa using hj
    refine ⟨?_, hf j hj'⟩
    rw [hc j l[j] (List.getElem?_eq_getElem hj')]
    simp [hj']
  refine Calls.mono (Any.slices_Sort_int Try.lays189 b off cap l w hH hb (by omega)) ?_
  rintro e w' ⟨rfl, q, os, rfl⟩
  refine ⟨rfl, q, os, ?_⟩
  rw [Go.Lib.putRow_eq_setCells (Value.int .i64) w b off l.toArray (l.mergeSort fun x y => decide (x ≤ y)) q hH (by simp)]
  rfl

theorem sort_ext : ∀ args lim H v H', sortX args lim H = some (v, H') → Go.Ev.CallF Try.prog 148 args lim H v H' :=
  sort_call (enters_of Try.func148 (by kernel_rfl) rfl) sort_walk

theorem sort_ok (lim : Nat) : FnOk sortSig sortV sortX lim := sort_fn lim

end Go.Proofs.Ytaggjheabeoohaa
