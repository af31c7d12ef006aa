/-
  The law FnBuckets by value.
  Conditions: bytes.
-/
import Derived.Test.YtngofhppopgicaaKBuc4
set_option linter.all false
namespace Go.Proofs.Ytngofhppopgicaa
open Go.Ev Go.Pv

/-- Filling twice is filling once. -/
theorem fill_twice {b : Int × Int × Int} {n : Int} (hb : bkOk b = true) (hn : tkOk n = true) :
    fillV (fillV b (n.tdiv 2)).1 (n - n.tdiv 2) = fillV b n ∧ (fillV b (n.tdiv 2)).2 = true ∧ bkOk (fillV b n).1 = true ∧ b.2.2 ≤ (fillV b n).1.2.2 := by
  simp only [bkOk, tkOk, decide_eq_true_eq] at hb hn
  have h2 : n.tdiv 2 = n / 2 := Int.tdiv_eq_ediv_of_nonneg (by omega)
  rw [h2]
  have hk : tkOk (n / 2) = true := by simp [tkOk]; omega
  have hk2 : tkOk (n - n / 2) = true := by simp [tkOk]; omega
  have hk3 : tkOk n = true := by simp [tkOk]; omega
  have hb0 : bkOk b = true := by simp only [bkOk, decide_eq_true_eq]; exact hb
  obtain ⟨m1, m2⟩ := mulB hb.1 hb.2.1 (b := n / 2) (by omega) (by omega)
  obtain ⟨m3, m4⟩ := mulB hb.1 hb.2.1 (b := n - n / 2) (by omega) (by omega)
  have hm : b.1 * n = b.1 * (n / 2) + b.1 * (n - n / 2) := by rw [← Int.mul_add]; congr 1; omega
  have hb1 : bkOk (b.1, b.2.1, min b.2.1 (b.2.2 + b.1 * (n / 2))) = true := by simp only [bkOk, decide_eq_true_eq]; omega
  have hb2 : bkOk (b.1, b.2.1, min b.2.1 (b.2.2 + b.1 * n)) = true := by simp only [bkOk, decide_eq_true_eq]; omega
  simp only [fillV, hb0, hk, hk2, hk3, hb1, hb2, Bool.and_self, if_true]
  refine ⟨?_, trivial, trivial, by omega⟩
  congr 3; omega

/-- After the waiting time, not before, there are enough tokens. -/
theorem wait_least {b : Int × Int × Int} {n : Int} (hb : bkOk b = true) (hw : (waitV b n).2 = true) (hn : 0 ≤ n) :
    0 ≤ (waitV b n).1 ∧ n ≤ min b.2.1 (b.2.2 + b.1 * (waitV b n).1) ∧ ((waitV b n).1 ≠ 0 → b.2.2 + b.1 * ((waitV b n).1 - 1) < n) := by
  have hb' := hb
  simp only [bkOk, decide_eq_true_eq] at hb'
  unfold waitV at hw ⊢
  split at hw
  · rename_i h; simp only [h, if_true]; refine ⟨by omega, by simp; omega, by simp⟩
  · rename_i h
    split at hw
    · simp at hw
    · rename_i h2
      simp only [h, h2, if_false]
      have hpos : 0 < b.1 := by omega
      unfold waitN
      have e1 := Int.mul_ediv_add_emod (n - b.2.2 + b.1 - 1) b.1
      have e2 := Int.emod_nonneg (n - b.2.2 + b.1 - 1) (by omega : b.1 ≠ 0)
      have e3 := Int.emod_lt_of_pos (n - b.2.2 + b.1 - 1) hpos
      generalize (n - b.2.2 + b.1 - 1) / b.1 = q at *
      generalize (n - b.2.2 + b.1 - 1) % b.1 = r at *
      have e4 : b.1 * (q - 1) = b.1 * q - b.1 := by rw [Int.mul_sub, Int.mul_one]
      refine ⟨?_, by omega, fun _ => by omega⟩
      apply Int.not_lt.1; intro hq
      have : b.1 * q ≤ b.1 * (-1) := Int.mul_le_mul_of_nonneg_left (by omega) (by omega)
      omega


def canV (b : Int × Int × Int) (n : Int) : Bool × Bool := if bkOk b && szOk n then (decide (n ≤ b.2.2), true) else (false, false)
def spV (b : Int × Int × Int) (n : Int) : (Int × Int × Int) × Bool := if bkOk b && (szOk n && decide (n ≤ b.2.2)) then ((b.1, b.2.1, b.2.2 - n), true) else ((0, 0, 0), false)
def fuV (a b : Int) : (Int × Int × Int) × Bool := if bkOk (a, b, b) then ((a, b, b), true) else ((0, 0, 0), false)

theorem q_sCanSpend {d : Nat} {b : Int × Int × Int} {n : Int} : g44 (d + 4) b n = some (canV b n) := by
  rw [e44]; simp only [q_buGood, q_buSize, ob_s, canV]
  cases bkOk b <;> cases szOk n <;> simp [oif]
theorem q_sSpendFrom {d : Nat} {b : Int × Int × Int} {n : Int} : g42 (d + 4) b n = some (spV b n) := by
  rw [e42]; simp only [q_buGood, q_buSize, ob_s, spV]
  cases hb : bkOk b with
  | false => simp [oif]
  | true =>
    cases hs : szOk n with
    | false => simp [oif]
    | true =>
      by_cases h : n ≤ b.2.2
      · have e1 : decide (b.2.2 < n) = false := by simp; omega
        simp only [bkOk, szOk, decide_eq_true_eq] at hb hs
        simp only [e1, oif, Bool.not_true, h, decide_true, Bool.and_self, if_true]
        rw [wr (by omega) (by omega)]
      · have e1 : decide (b.2.2 < n) = true := by simp; omega
        simp [e1, oif, h]
theorem q_sFullBucket {d : Nat} {a b : Int} : g49 (d + 4) a b = some (fuV a b) := by
  rw [e49]; simp only [q_buGood, ob_s, fuV]
  cases bkOk (a, b, b) <;> simp [oif]

theorem can_after {b : Int × Int × Int} {n s : Int} (hb : bkOk b = true) (hn : tkOk n = true) (hs : szOk s = true) :
    (fillV b n).2 = true ∧ canV (fillV b n).1 s = (decide (s ≤ min b.2.1 (b.2.2 + b.1 * n)), true) := by
  obtain ⟨_, _, h, _⟩ := fill_twice hb hn
  simp only [canV, h, hs, Bool.and_self, if_true]
  simp [fillV, hb, hn]

theorem law_j0 {d : Nat} {b : Int × Int × Int} {s : Int} (h : (wtV b s).2 = true) (hl : (wtV b s).1 ≤ 100000) : j5_0 (d + 7) (b, s) (wtV b s) false = some true := by
  unfold j5_0
  simp only [oif]
  have hb : bkOk b = true := by cases hb : bkOk b <;> simp_all [wtV]
  have hs : szOk s = true := by cases hs : szOk s <;> simp_all [wtV]
  have hw : wtV b s = waitV b s := by simp [wtV, hb, hs]
  rw [hw] at h hl ⊢
  have hs' := hs
  simp only [szOk, decide_eq_true_eq] at hs'
  obtain ⟨w1, w2, w3⟩ := wait_least hb h (n := s) (by omega)
  by_cases hz : (waitV b s).1 = 0
  · simp [hz]
  · have e1 : ((waitV b s).1 == 0) = false := by simpa using hz
    have hk : tkOk ((waitV b s).1 - 1) = true := by simp [tkOk]; omega
    obtain ⟨f1, f2⟩ := can_after hb hk hs
    rw [e1, wr (by omega) (by omega)]
    simp only [q_FillBucket, q_CanSpend, q_sCanSpend, ob_s, f1, f2, oif]
    have := w3 hz
    have e2 : decide (s ≤ min b.2.1 (b.2.2 + b.1 * ((waitV b s).1 - 1))) = false := by simp only [decide_eq_false_iff_not]; omega
    rw [e2]; rfl

theorem law_j2 {d : Nat} {b : Int × Int × Int} {s : Int} : j5_2 (d + 7) (b, s) (wtV b s) (wtV b s) = some true := by
  unfold j5_2 j5_1
  cases h : (wtV b s).2 with
  | false => simp [oif]
  | true =>
    by_cases hl : (wtV b s).1 ≤ 100000
    · have e0 : decide ((wtV b s).1 > 100000) = false := by simp; omega
      simp only [oif, Bool.not_true, e0]
      have hb : bkOk b = true := by cases hb : bkOk b <;> simp_all [wtV]
      have hs : szOk s = true := by cases hs : szOk s <;> simp_all [wtV]
      have hw : wtV b s = waitV b s := by simp [wtV, hb, hs]
      have hs' := hs
      simp only [szOk, decide_eq_true_eq] at hs'
      obtain ⟨w1, w2, w3⟩ := wait_least hb (hw ▸ h) (n := s) (by omega)
      have hk : tkOk (wtV b s).1 = true := by rw [hw] at hl ⊢; simp [tkOk]; omega
      obtain ⟨f1, f2⟩ := can_after hb hk hs
      have e2 : decide (s ≤ min b.2.1 (b.2.2 + b.1 * (wtV b s).1)) = true := by rw [hw]; simp only [decide_eq_true_eq]; exact w2
      simp only [q_FillBucket, q_CanSpend, q_sCanSpend, ob_s, f1, f2, e2, oif, Bool.not_true]
      exact law_j0 h hl
    · have e0 : decide ((wtV b s).1 > 100000) = true := by simp; omega
      simp [oif, e0]

theorem law_j4 {d : Nat} {b c : Int × Int × Int} {s t : Int} : j5_4 (d + 7) (b, s) (wtV b s) (wtV b s) (c, t) (tfV c) (tfV c) = some true := by
  unfold j5_4 j5_3
  cases h : (tfV c).2 with
  | false => simp [oif, law_j2]
  | true =>
    by_cases hl : (tfV c).1 ≤ 100000
    · have hc : bkOk c = true := by cases hc : bkOk c <;> simp_all [tfV]
      have hw : tfV c = waitV c c.2.1 := by simp [tfV, hc]
      have hc' := hc
      simp only [bkOk, decide_eq_true_eq] at hc'
      obtain ⟨w1, w2, w3⟩ := wait_least hc (hw ▸ h) (n := c.2.1) (by omega)
      rw [← hw] at w1 w2
      have hk : tkOk (tfV c).1 = true := by simp [tkOk]; omega
      have e2 : (min c.2.1 (c.2.2 + c.1 * (tfV c).1) != c.2.1) = false := by simp; omega
      simp only [q_FillBucket, ob_s, fillV, hc, hk, Bool.and_self, if_true, oif, hl, decide_true, Bool.not_true, e2, law_j2]
    · simp [oif, hl, law_j2]

theorem law_j5 {d : Nat} {b c : Int × Int × Int} {s t : Int} : j5_5 (d + 7) (b, s) (wtV b s) (wtV b s) (c, t) (fillV c t) (fillV c t) (tfV c) (tfV c) false = some true := by
  unfold j5_5
  cases h : (fillV c t).2 with
  | false => simp [oif, law_j4]
  | true =>
    have hc : bkOk c = true := by cases hc : bkOk c <;> simp_all [fillV]
    have ht : tkOk t = true := by cases ht : tkOk t <;> simp_all [fillV]
    obtain ⟨f1, f2, f3, f4⟩ := fill_twice hc ht
    have ht' := ht
    simp only [tkOk, decide_eq_true_eq] at ht'
    have h2 : t.tdiv 2 = t / 2 := Int.tdiv_eq_ediv_of_nonneg (by omega)
    rw [h2] at f1 f2
    have e0 : decide ((fillV c t).1.2.2 < c.2.2) = false := by simp only [decide_eq_false_iff_not]; omega
    simp only [h2, oif]
    rw [wr (n := t / 2) (by omega) (by omega), wr (by omega) (by omega)]
    simp only [q_FillBucket, q_IsBucket, ob_s, f1, f2, f3, h, e0, Bool.not_true, beq_self_eq_true, Bool.and_self, law_j4]

theorem law_5 {d : Nat} {x y : List Int} (hx : Bytes x) (hy : Bytes y) : g5 (d + 8) x y = some true := by
  rw [e5]
  cases decide (((IntKind.i64.wrap (((x.length : Nat) : Int) + ((y.length : Nat) : Int))) : Int) > 1048576) with
  | true => rfl
  | false =>
    obtain ⟨⟨b, s⟩, h1, _⟩ := p_DrawWaitFor (d := d + 1) hx
    obtain ⟨⟨c, t⟩, h2, _⟩ := p_DrawFillBucket (d := d + 2) hy
    obtain ⟨⟨u, v⟩, h3, _⟩ := p_DrawFullBucket (d := d + 3) hy
    simp only [oif, h1, h2, h3, ob_s, q_WaitFor, q_sWaitFor, q_FillBucket, q_sFillBucket, q_SpendFrom, q_sSpendFrom, q_CanSpend, q_sCanSpend, q_TicksToFull, q_sTicksToFull, q_FullBucket, q_sFullBucket, q_IsBucket, q_sIsBucket, beq_self_eq_true, bne_self_eq_false, Bool.and_self, Bool.not_true, law_j5]
    cases hb : bkOk b with
    | false => simp [canV, spV, hb]
    | true =>
      cases hs : szOk s with
      | false => simp [canV, spV, hb, hs]
      | true =>
        by_cases hl : s ≤ b.2.2
        · have hb' := hb; have hs' := hs
          simp only [bkOk, szOk, decide_eq_true_eq] at hb' hs'
          simp only [canV, spV, hb, hs, hl, decide_true, Bool.and_self, if_true, beq_self_eq_true, Bool.not_true]
          have e0 : b.2.2 - s + s = b.2.2 := by omega
          rw [e0, wr (by omega) (by omega)]
          simp [law_j5]
        · simp [canV, spV, hb, hs, hl, law_j5]

theorem lawOk : LawOk Try.prog pvAnn (8) 5 :=
  ⟨rfl, rfl, rfl, fun x y hx hy _ _ => ⟨(x, y), true, law_5 (d := 0) hx hy, rfl, rfl⟩⟩

end Go.Proofs.Ytngofhppopgicaa
