/-
  What the functions that look at buckets, sizes and rates give, in both packages.
  Conditions: none.
-/
import Derived.Test.YtngofhppopgicaaBuc
set_option linter.unusedVariables false
set_option linter.unusedSimpArgs false
set_option maxRecDepth 100000
set_option maxHeartbeats 4000000
set_option linter.all false
namespace Go.Proofs.Ytngofhppopgicaa
open Go.Ev Go.Ek

def szOk (s : Int) : Bool := decide (1 ≤ s ∧ s ≤ 1500)
theorem s_l1In {d fuel lim : Nat} {G : Heap} {x y z : Int} : run Try.prog (ann fuel) (d + 1) 131 [.int .i64 x, .int .i64 y, .int .i64 z] lim G = some (.bool (decide (y ≤ x ∧ x ≤ z)), G) := by
  rw [run131]; unfold f131
  simp only [go_sem, oif_ff]; exact some_bool (by simp)
theorem s_isSize {d fuel lim : Nat} {G : Heap} {x : Int} : run Try.prog (ann fuel) (d + 1) 104 [.int .i64 x] lim G = some (.bool (szOk x), G) := by
  rw [run104]; unfold f104
  simp only [go_sem, oif_ff]; exact some_bool (by simp [szOk])
theorem s_buSize {d fuel lim : Nat} {G : Heap} {x : Int} : run Try.prog (ann fuel) (d + 2) 108 [.int .i64 x] lim G = some (.bool (szOk x), G) := by
  rw [run108]; unfold f108
  simp only [go_sem, s_l1In]; rfl
theorem s_isFlowRate {d fuel lim : Nat} {G : Heap} {x : Int} : run Try.prog (ann fuel) (d + 1) 133 [.int .i64 x] lim G = some (.bool (decide (0 ≤ x ∧ x ≤ 100000)), G) := by
  rw [run133]; unfold f133
  simp only [go_sem, oif_ff]; exact some_bool (by simp)
theorem s_buRate {d fuel lim : Nat} {G : Heap} {x : Int} : run Try.prog (ann fuel) (d + 2) 174 [.int .i64 x] lim G = some (.bool (decide (0 ≤ x ∧ x ≤ 100000)), G) := by
  rw [run174]; unfold f174
  simp only [go_sem, s_l1In]

/-- A bucket's rate, cap and tokens are within their bounds. -/
def bkOk (r c t : Int) : Bool := decide (0 ≤ r ∧ r ≤ 100000 ∧ 0 ≤ c ∧ c ≤ 1000000 ∧ 0 ≤ t ∧ t ≤ c)

theorem s_IsBucket {d fuel lim : Nat} {G : Heap} {r c t : Int} : run Try.prog (ann fuel) (d + 2) 50 [.agg #[.int .i64 r, .int .i64 c, .int .i64 t]] lim G = some (.bool (bkOk r c t), G) := by
  rw [run50]; unfold f50
  simp only [go_sem, s_isFlowRate, oif_ff]; exact some_bool (by simp [bkOk]; omega)
theorem s_buGood {d fuel lim : Nat} {G : Heap} {r c t : Int} : run Try.prog (ann fuel) (d + 3) 126 [.agg #[.int .i64 r, .int .i64 c, .int .i64 t]] lim G = some (.bool (bkOk r c t), G) := by
  rw [run126]; unfold f126
  simp only [go_sem, s_buRate, s_l1In, oif_ff]; exact some_bool (by simp [bkOk]; omega)

end Go.Proofs.Ytngofhppopgicaa
