/-
  Variables of packages that are laid: what of the world is held while the program runs.
  Conditions: none.
-/
import Derived.Test.YtkanolaeiaieaaaDoorEv
set_option linter.unusedVariables false
namespace Go.Ev

/-- The variables that are held lie below. -/
def gN : Nat := 3
/-- What is held of them. -/
def gTabs : List (Nat × List Value) := [(2, [.int .u64 1, .int .u64 10, .int .u64 100, .int .u64 1000, .int .u64 10000, .int .u64 100000, .int .u64 1000000, .int .u64 10000000, .int .u64 100000000, .int .u64 1000000000, .int .u64 10000000000, .int .u64 100000000000, .int .u64 1000000000000, .int .u64 10000000000000, .int .u64 100000000000000, .int .u64 1000000000000000, .int .u64 10000000000000000, .int .u64 100000000000000000, .int .u64 1000000000000000000, .int .u64 10000000000000000000])]
def GW (w : World) : Prop := gN ≤ w.heap.size ∧ ∀ p ∈ gTabs, p.1 < gN ∧ ∃ t f, w.heap[p.1]? = some (.cells p.2.toArray t f)

theorem GW.stable {w w' : World} (h : GW w) (hs : w.heap.size ≤ w'.heap.size) (hb : ∀ k, k < gN → w'.heap[k]? = w.heap[k]?) : GW w' :=
  ⟨by have := h.1; omega, fun p hp => by obtain ⟨h1, t, f, h2⟩ := h.2 p hp; exact ⟨h1, t, f, by rw [hb _ h1]; exact h2⟩⟩
theorem GW.heap {w w' : World} (h : GW w) (e : w'.heap = w.heap) : GW w' := h.stable (by rw [e]; exact Nat.le_refl _) (fun _ _ => by rw [e])

end Go.Ev
