/-
  Buckets by value: the functions that look at buckets and sizes, and those that draw them.
  Conditions: those of the cursor for the latter.
-/
import Derived.Test.YtngofhppopgicaaKCur
set_option linter.all false
namespace Go.Proofs.Ytngofhppopgicaa
open Go.Ev Go.Pv

theorem oif_ss {α : Type} {b : Bool} {x y : α} : oif b (some x) (some y) = some (if b then x else y) := by cases b <;> rfl
theorem ob_s {α β : Type} (a : α) (f : α → Option β) : obind (some a) f = f a := rfl

def szOk (s : Int) : Bool := decide (1 ≤ s ∧ s ≤ 1500)
def bkOk (b : Int × Int × Int) : Bool := decide (0 ≤ b.1 ∧ b.1 ≤ 100000 ∧ 0 ≤ b.2.1 ∧ b.2.1 ≤ 1000000 ∧ 0 ≤ b.2.2 ∧ b.2.2 ≤ b.2.1)

theorem q_l1In {d : Nat} {x y z : Int} : g131 (d + 1) x y z = some (decide (y ≤ x ∧ x ≤ z)) := by
  rw [e131]; simp only [oif_ss]; congr 1; rw [Bool.eq_iff_iff]; simp
theorem q_isSize {d : Nat} {x : Int} : g104 (d + 1) x = some (szOk x) := by
  rw [e104]; simp only [oif_ss]; congr 1; rw [Bool.eq_iff_iff]; simp [szOk]
theorem q_buSize {d : Nat} {x : Int} : g108 (d + 2) x = some (szOk x) := by
  rw [e108]; simp only [q_l1In, ob_s]; rfl
theorem q_isFlowRate {d : Nat} {x : Int} : g133 (d + 1) x = some (decide (0 ≤ x ∧ x ≤ 100000)) := by
  rw [e133]; simp only [oif_ss]; congr 1; rw [Bool.eq_iff_iff]; simp
theorem q_buRate {d : Nat} {x : Int} : g174 (d + 2) x = some (decide (0 ≤ x ∧ x ≤ 100000)) := by
  rw [e174]; simp only [q_l1In, ob_s]
theorem q_IsBucket {d : Nat} {b : Int × Int × Int} : g50 (d + 2) b = some (bkOk b) := by
  rw [e50]; simp only [q_isFlowRate, ob_s, oif_ss]; congr 1; rw [Bool.eq_iff_iff]; simp [bkOk]; omega
theorem q_buGood {d : Nat} {b : Int × Int × Int} : g126 (d + 3) b = some (bkOk b) := by
  rw [e126]; simp only [q_buRate, q_l1In, ob_s, oif_ss]; congr 1; rw [Bool.eq_iff_iff]; simp [bkOk]; omega
theorem q_sIsBucket {d : Nat} {b : Int × Int × Int} : g51 (d + 4) b = some (bkOk b) := by
  rw [e51]; simp only [q_buGood, ob_s]
theorem q_l1Least {d : Nat} {x y : Int} : g175 (d + 1) x y = some (min x y) := by
  rw [e175]; simp only [oif_ss]; congr 1; split <;> simp_all <;> omega

end Go.Proofs.Ytngofhppopgicaa
