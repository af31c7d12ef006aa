/-
  Buckets by value: what filling, spending and waiting give, in both packages; the draws.
  Conditions: those of the cursor for the draws.
-/
import Derived.Test.YtngofhppopgicaaKBuc
set_option linter.all false
namespace Go.Proofs.Ytngofhppopgicaa
open Go.Ev Go.Pv

theorem q_isTicks {d : Nat} {x : Int} : g129 (d + 1) x = some (decide (0 ≤ x ∧ x ≤ 100000)) := by
  rw [e129]; simp only [oif_ss]; congr 1; rw [Bool.eq_iff_iff]; simp

theorem q_SpendFrom {d : Nat} {b : Int × Int × Int} {n : Int} : g41 (d + 3) b n = g42 (d + 4) b n := by
  rw [e41, e42]; simp only [q_IsBucket, q_buGood, q_isSize, q_buSize, ob_s]
theorem q_CanSpend {d : Nat} {b : Int × Int × Int} {n : Int} : g43 (d + 3) b n = g44 (d + 4) b n := by
  rw [e43, e44]; simp only [q_IsBucket, q_buGood, q_isSize, q_buSize, ob_s]
theorem q_FullBucket {d : Nat} {a b : Int} : g48 (d + 3) a b = g49 (d + 4) a b := by
  rw [e48, e49]; simp only [q_IsBucket, q_buGood, ob_s]

def tkOk (n : Int) : Bool := decide (0 ≤ n ∧ n ≤ 100000)
def fillV (b : Int × Int × Int) (n : Int) : (Int × Int × Int) × Bool := if bkOk b && tkOk n then ((b.1, b.2.1, min b.2.1 (b.2.2 + b.1 * n)), true) else ((0, 0, 0), false)

theorem mulB {a b : Int} (h1 : 0 ≤ a) (h2 : a ≤ 100000) (h3 : 0 ≤ b) (h4 : b ≤ 100000) : 0 ≤ a * b ∧ a * b ≤ 10000000000 :=
  ⟨Int.mul_nonneg h1 h3, by have := Int.mul_le_mul h2 h4 h3 (by omega : (0 : Int) ≤ 100000); omega⟩

theorem q_FillBucket {d : Nat} {b : Int × Int × Int} {n : Int} : g39 (d + 3) b n = some (fillV b n) := by
  rw [e39]
  simp only [q_IsBucket, ob_s, q_isTicks]
  cases hb : bkOk b with
  | false => simp [fillV, hb, oif]
  | true =>
    cases hn : tkOk n with
    | false => simp only [tkOk] at hn; simp [fillV, hb, tkOk, hn, oif]
    | true =>
      have hn' := hn; have hb' := hb
      simp only [tkOk] at hn
      simp only [hn, Bool.not_true, oif, e130, ob_s, fillV, hb, hn', Bool.and_self, if_true]
      simp only [bkOk, tkOk, decide_eq_true_eq] at hb' hn'
      obtain ⟨m1, m2⟩ := mulB hb'.1 hb'.2.1 hn'.1 hn'.2
      rw [wr (n := b.1 * n) (by omega) (by omega), wr (by omega) (by omega)]
      congr 4; split <;> omega

theorem q_sFillBucket {d : Nat} {b : Int × Int × Int} {n : Int} : g40 (d + 4) b n = some (fillV b n) := by
  rw [e40]
  simp only [q_buGood, ob_s, q_l1In]
  cases hb : bkOk b with
  | false => simp [fillV, hb, oif]
  | true =>
    cases hn : tkOk n with
    | false => simp only [tkOk] at hn; simp [fillV, hb, tkOk, hn, oif]
    | true =>
      have hn' := hn; have hb' := hb
      simp only [tkOk] at hn
      simp only [hn, Bool.not_true, oif, e132, q_l1Least, ob_s, fillV, hb, hn', Bool.and_self, if_true]
      simp only [bkOk, tkOk, decide_eq_true_eq] at hb' hn'
      obtain ⟨m1, m2⟩ := mulB hb'.1 hb'.2.1 hn'.1 hn'.2
      rw [wr (n := b.1 * n) (by omega) (by omega), wr (by omega) (by omega)]

end Go.Proofs.Ytngofhppopgicaa
