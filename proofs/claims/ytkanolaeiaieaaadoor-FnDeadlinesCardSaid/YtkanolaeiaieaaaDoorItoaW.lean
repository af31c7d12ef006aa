/-
  The walk of the library's function that writes a number: its contract, laid at this program.
  Conditions: none beyond those of the contract.
-/
import Derived.Test.YtkanolaeiaieaaaDoorVItoa
import Derived.Test.YtkanolaeiaieaaaDoorItoaL
import Derived.Test.YtkanolaeiaieaaaDoorProg
import Derived.WalkKit
import Derived.Shelf.Strconv.Itoa3
import Derived.Shelf.Abstract
import Derived.Lib.LaidTab
import Derived.KernelRfl
set_option linter.all false
namespace Go.Proofs.YtkanolaeiaieaaaDoor
open Go.RowKit Go.Pv Go.Shelf

theorem pow_name : Tryd.prog.globalNamed "internal/strconv.uint64pow10" = some 2 := by kernel_rfl
theorem pow_tab : ((Lib.pow10Tab.map fun z => Value.int .u64 z).toArray) = (#[.int .u64 1, .int .u64 10, .int .u64 100, .int .u64 1000, .int .u64 10000, .int .u64 100000, .int .u64 1000000, .int .u64 10000000, .int .u64 100000000, .int .u64 1000000000, .int .u64 10000000000, .int .u64 100000000000, .int .u64 1000000000000, .int .u64 10000000000000, .int .u64 100000000000000, .int .u64 1000000000000000, .int .u64 10000000000000000, .int .u64 100000000000000000, .int .u64 1000000000000000000, .int .u64 10000000000000000000] : Array Value) := by kernel_rfl

theorem tab_of {w : World} (h : Go.Ev.GW w) : Lib.TabIs Tryd.prog w "internal/strconv.uint64pow10" .u64 Lib.pow10Tab := by
  obtain ⟨_, t, f, h2⟩ := h.2 (2, [.int .u64 1, .int .u64 10, .int .u64 100, .int .u64 1000, .int .u64 10000, .int .u64 100000, .int .u64 1000000, .int .u64 10000000, .int .u64 100000000, .int .u64 1000000000, .int .u64 10000000000, .int .u64 100000000000, .int .u64 1000000000000, .int .u64 10000000000000, .int .u64 100000000000000, .int .u64 1000000000000000, .int .u64 10000000000000000, .int .u64 100000000000000000, .int .u64 1000000000000000000, .int .u64 10000000000000000000]) (by unfold Go.Ev.gTabs; simp)
  unfold Lib.TabIs World.var?
  rw [pow_name, pow_tab]
  simp only [Option.bind_some]
  rw [h2]

theorem gw_of {w : World} (h : Lib.TabIs Tryd.prog w "internal/strconv.uint64pow10" .u64 Lib.pow10Tab) : Go.Ev.GW w := by
  unfold Lib.TabIs World.var? at h
  rw [pow_name, pow_tab] at h
  simp only [Option.bind_some] at h
  split at h
  · rename_i cs t f hc
    injection h with h
    have hlt : 2 < w.heap.size := by
      rcases Nat.lt_or_ge 2 w.heap.size with g | g
      · exact g
      · rw [Array.getElem?_eq_none g] at hc; simp at hc
    refine ⟨by unfold Go.Ev.gN; omega, fun p hp => ?_⟩
    unfold Go.Ev.gTabs at hp
    simp only [List.mem_singleton] at hp
    subst hp
    refine ⟨by unfold Go.Ev.gN; simp, t, f, ?_⟩
    show w.heap[2]? = _
    rw [hc, h]
  · simp at h

theorem itoa_walk : ItoaWalk Tryd.prog 105 := fun n w h0 h1 hg => Any.strconv_Itoa Tryd.laysM171 n h0 h1 w (tab_of hg)
theorem itoa_ext : ∀ args lim H v H', itoaX args lim H = some (v, H') → Go.Ev.CallF Tryd.prog 105 args lim H v H' :=
  itoa_call (enters_of Tryd.func105 (by kernel_rfl) rfl) itoa_walk

end Go.Proofs.YtkanolaeiaieaaaDoor
