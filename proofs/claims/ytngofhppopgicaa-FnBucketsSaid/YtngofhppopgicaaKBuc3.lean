/-
  Buckets by value: waiting times, in both packages; the draws.
  Conditions: those of the cursor for the draws.
-/
import Derived.Test.YtngofhppopgicaaKBuc2
set_option linter.all false
namespace Go.Proofs.Ytngofhppopgicaa
open Go.Ev Go.Pv

def waitN (b : Int × Int × Int) (n : Int) : Int := (n - b.2.2 + b.1 - 1) / b.1
/-- The waiting time for n tokens in a good bucket. -/
def waitV (b : Int × Int × Int) (n : Int) : Int × Bool := if n ≤ b.2.2 then (0, true) else if b.2.1 < n ∨ b.1 = 0 then (0, false) else (waitN b n, true)

theorem waitN_wr {b : Int × Int × Int} {n : Int} (hb : bkOk b = true) (h1 : b.2.2 < n) (h2 : n ≤ b.2.1) (h3 : b.1 ≠ 0) :
    IntKind.i64.wrap ((IntKind.i64.wrap ((IntKind.i64.wrap ((IntKind.i64.wrap (n - b.2.2)) + b.1)) - 1)).tdiv b.1) = waitN b n ∧ 0 ≤ waitN b n := by
  simp only [bkOk, decide_eq_true_eq] at hb
  rw [wr (n := n - b.2.2) (by omega) (by omega), wr (n := n - b.2.2 + b.1) (by omega) (by omega), wr (n := n - b.2.2 + b.1 - 1) (by omega) (by omega)]
  rw [Int.tdiv_eq_ediv_of_nonneg (by omega)]
  have h4 : 0 ≤ (n - b.2.2 + b.1 - 1) / b.1 := Int.ediv_nonneg (by omega) (by omega)
  have h5 : (n - b.2.2 + b.1 - 1) / b.1 ≤ n - b.2.2 + b.1 - 1 := Int.ediv_le_self _ (by omega)
  rw [wr (by omega) (by omega)]
  exact ⟨rfl, h4⟩

theorem q_buWait {d : Nat} {b : Int × Int × Int} {n : Int} (hb : bkOk b = true) : g127 (d + 1) b n = some (if (waitV b n).2 then (waitV b n).1 else -1) := by
  rw [e127]; unfold j127_0
  by_cases h1 : n ≤ b.2.2
  · simp [oif, h1, waitV]
  · by_cases h2 : b.2.1 < n
    · simp [oif, h1, h2, waitV]
    · by_cases h3 : b.1 = 0
      · simp [oif, h1, h2, h3, waitV]
      · have hw := (waitN_wr (n := n) hb (by omega) (by omega) h3).1
        have hz : (b.1 == 0) = false := by simpa using h3
        have e1 : decide (b.2.2 ≥ n) = false := by simp; omega
        have e2 : decide (n > b.2.1) = false := by simp; omega
        simp [e1, e2, hz, hw, oif, waitV, h1, h2, h3]

def wtV (b : Int × Int × Int) (n : Int) : Int × Bool := if bkOk b && szOk n then waitV b n else (0, false)

theorem q_sWaitFor {d : Nat} {b : Int × Int × Int} {n : Int} : g37 (d + 4) b n = some (wtV b n) := by
  rw [e37]
  simp only [q_buGood, ob_s, q_buSize]
  cases hb : bkOk b with
  | false => simp [wtV, hb, oif]
  | true =>
    cases hs : szOk n with
    | false => simp [wtV, hb, hs, oif]
    | true =>
      simp only [Bool.not_true, oif, q_buWait hb, ob_s, wtV, hb, hs, Bool.and_self, if_true]
      by_cases h1 : n ≤ b.2.2
      · simp [waitV, h1]
      · by_cases h2 : b.2.1 < n ∨ b.1 = 0
        · simp [waitV, h1, h2]
        · have hw := (waitN_wr (n := n) hb (by omega) (by omega) (by omega)).2
          simp only [waitV, h1, h2, if_false, if_true]
          have : decide (waitN b n < 0) = false := by simp; omega
          rw [this]

theorem q_WaitFor {d : Nat} {b : Int × Int × Int} {n : Int} : g36 (d + 3) b n = some (wtV b n) := by
  rw [e36]; unfold j36_0
  simp only [q_IsBucket, ob_s, q_isSize]
  cases hb : bkOk b with
  | false => simp [wtV, hb, oif]
  | true =>
    cases hs : szOk n with
    | false => simp [wtV, hb, hs, oif]
    | true =>
      simp only [Bool.not_true, oif, wtV, hb, hs, Bool.and_self, if_true]
      by_cases h1 : n ≤ b.2.2
      · simp [waitV, h1]
      · by_cases h2 : b.2.1 < n
        · simp [waitV, h1, h2]
        · by_cases h3 : b.1 = 0
          · simp [waitV, h1, h2, h3]
          · have hw := (waitN_wr (n := n) hb (by omega) (by omega) h3).1
            have hz : (b.1 == 0) = false := by simpa using h3
            have e1 : decide (b.2.2 ≥ n) = false := by simp; omega
            have e2 : decide (b.2.1 < n) = false := by simp; omega
            rw [e125]
            simp [e1, e2, hz, hw, oif, obind, waitV, h1, h2, h3]

def tfV (b : Int × Int × Int) : Int × Bool := if bkOk b then waitV b b.2.1 else (0, false)
theorem q_sTicksToFull {d : Nat} {b : Int × Int × Int} : g46 (d + 4) b = some (tfV b) := by
  rw [e46]
  simp only [q_buGood, ob_s]
  cases hb : bkOk b with
  | false => simp [tfV, hb, oif]
  | true =>
    simp only [Bool.not_true, oif, q_buWait hb, ob_s, tfV, hb, if_true]
    by_cases h1 : b.2.1 ≤ b.2.2
    · simp [waitV, h1]
    · by_cases h2 : b.2.1 < b.2.1 ∨ b.1 = 0
      · have h3 : b.1 = 0 := by omega
        simp [waitV, h1, h3]
      · have hw := (waitN_wr (n := b.2.1) hb (by omega) (by omega) (by omega)).2
        simp only [waitV, h1, h2, if_false, if_true]
        have : decide (waitN b b.2.1 < 0) = false := by simp; omega
        rw [this]

end Go.Proofs.Ytngofhppopgicaa
