/-
  The law FnArithmetic by value.
  Conditions: bytes.
-/
import Derived.Test.YtmjhgkmiafemfaaFnArithmeticK
set_option linter.all false
namespace Go.Proofs.Ytmjhgkmiafemfaa
open Go.Ev Go.Pv

theorem sum_le40 : ∀ (l : List Int), (∀ x ∈ l, 0 ≤ x ∧ x ≤ 1000000000) → 0 ≤ l.sum ∧ l.sum ≤ 1000000000 * (l.length : Int)
  | [], _ => by simp
  | x :: r, h => by
    have hx := h x (by simp)
    have := sum_le40 r (fun y hy => h y (by simp [hy]))
    rw [List.sum_cons, List.length_cons]; omega

theorem q_pSum' {d : Nat} {l : List Int} (hl : l.length < 4194304) (h0 : ∀ x ∈ l, 0 ≤ x) (hs : l.sum ≤ 9223372036854775807) : g20 (d + 1) l = some l.sum := by
  rw [e20]
  refine (range_eq (fun (t : Int) (i : Int) => (t, i)) l (fun x i t k => k (IntKind.i64.wrap (t + x))) (j20_0 d) ?_ ?_ (by rw [fuelN_eq]; exact hl) 0).trans ?_
  · intro ag t i x hx
    have hi := (List.getElem?_eq_some_iff.1 hx).1
    simp only [l20_0, l20_0_b, ltl hx, bltl hx, nn, ofNat_toNat, hx, ob_s, oif_t]
    rw [wr1 (by omega)]
  · intro ag t; simp only [l20_0, l20_0_b, ltn, oif_f]
  · rw [rangeR_fold (f := fun x _ t => IntKind.i64.wrap (t + x)), foldI_sum l 0 0 h0 (by omega) (by omega)]; simp [j20_0]

theorem law_0 {d : Nat} {y : List Int} (hy : Bytes y) : j7_0 (d + 14) y false = some true := by
  unfold j7_0
  obtain ⟨⟨s, t⟩, h1, h2, h3⟩ := p_DrawCompareTexts (d := d) hy
  simp only at h2 h3
  have hs : s.size < 4194304 := by omega
  have ht : t.size < 4194304 := by omega
  simp only [oif_f, h1, ob_s, q_CompareTexts hs ht, q_CompareTexts ht hs, q_sCompareTexts hs ht, beq_self_eq_true, oif_t]
  unfold ctV
  by_cases h4 : nyV (bl s) < 0 ∨ nyV (bl t) < 0
  · rw [if_pos h4, if_pos (by omega)]; rfl
  · rw [if_neg h4, if_neg (by omega)]
    have hb : -1 ≤ sgI (nyV (bl s)) (nyV (bl t)) ∧ sgI (nyV (bl s)) (nyV (bl t)) ≤ 1 := by unfold sgI; (repeat' split) <;> omega
    simp only [beq_self_eq_true, oif_t]
    rw [wr (by omega) (by omega), sgI_flip, beq_self_eq_true]

theorem law_1 {d : Nat} {y : List Int} (hy : Bytes y) : j7_1 (d + 14) y false = some true := by
  unfold j7_1
  obtain ⟨⟨a, b⟩, h1, _⟩ := p_DrawMultiplyValues (d := d + 9) hy
  simp only [oif_f, h1, ob_s, q_MultiplyValues, q_sMultiplyValues, beq_self_eq_true, Bool.not_true, bne_self_eq_false]
  unfold muV
  cases hc : (vlOk a && (vlOk b && decide (a * b ≤ 1000000000))) with
  | false => simp only [Bool.false_eq_true, if_false, oif_f]; exact law_0 hy
  | true =>
    simp only [Bool.and_eq_true] at hc
    obtain ⟨k1, k2⟩ := mu_in hc.1 hc.2.1
    simp only [if_true, oif_t]
    rw [wr (n := a * b) (by omega) (by omega), bne_self_eq_false]
    exact law_0 hy

theorem law_2 {d : Nat} {y : List Int} (hy : Bytes y) : j7_2 (d + 14) y = some true := by
  unfold j7_2
  obtain ⟨l, h1, h2⟩ := p_DrawAddValues (d := d + 9) hy
  have hl : l.length < 4194304 := by omega
  simp only [oif_f, h1, ob_s, q_AddValues hl, q_sAddValues hl, beq_self_eq_true, Bool.not_true, bne_self_eq_false]
  unfold adV
  cases hc : (vlsOk l && decide (l.sum ≤ 1000000000)) with
  | false => simp only [Bool.false_eq_true, if_false, oif_f]; exact law_1 hy
  | true =>
    simp only [Bool.and_eq_true, decide_eq_true_eq] at hc
    obtain ⟨k1, k2⟩ := vlsOk_in hc.1
    simp only [if_true, oif_t]
    rw [q_pSum' hl (fun x hx => (k1 x hx).1) (by omega), ob_s, bne_self_eq_false]
    exact law_1 hy

theorem law_main {d : Nat} {x y : List Int} (hx : Bytes x) (hy : Bytes y) : g7 (d + 15) x y = some true := by
  rw [e7]
  obtain ⟨b, hb⟩ := q_big (d := d + 13) (x := x) (y := y)
  rw [hb, ob_s]
  cases b with
  | true => rfl
  | false =>
  obtain ⟨⟨n, num, den, up⟩, h1, _⟩ := p_DrawScaleValue (d := d + 9) hx
  simp only [oif_f, h1, ob_s, q_ScaleValue, q_sScaleValue, beq_self_eq_true, Bool.not_true, bne_self_eq_false]
  unfold j7_3
  rw [oif_f]
  cases hc : (scOk n num den && decide (scN n num den up ≤ 1000000000)) with
  | false =>
    have : scV n num den up = (0, false) := by unfold scV; rw [hc]; rfl
    rw [this, oif_f]; exact law_2 hy
  | true =>
    have e : scV n num den up = (scN n num den up, true) := by unfold scV; rw [hc]; rfl
    simp only [Bool.and_eq_true, decide_eq_true_eq] at hc
    obtain ⟨k1, k2, k3, k4⟩ := sc_in hc.1
    have fin := law_2 (d := d) hy
    rw [e]
    simp only [oif_t]
    have b0 : 0 ≤ scN n num den up := by
      unfold scN; split
      · exact Int.ediv_nonneg (by omega) (by omega)
      · exact Int.ediv_nonneg (by omega) (by omega)
    have b1 : 0 ≤ scN n num den up * den := Int.mul_nonneg b0 (by omega)
    have b2 : scN n num den up * den ≤ 1000000000 * den := Int.mul_le_mul_of_nonneg_right hc.2 (by omega)
    rw [wr (n := scN n num den up * den) (by omega) (by omega), wr (n := n * num) (by omega) (by omega), wr (n := scN n num den up * den - n * num) (by omega) (by omega), wr (n := 0 - den) (by omega) (by omega)]
    cases up with
    | true =>
      have hq : scN n num den true = (n * num + (den - 1)) / den := rfl
      have m1 := Int.emod_nonneg (n * num + (den - 1)) (show den ≠ 0 by omega)
      have m2 := Int.emod_lt_of_pos (n * num + (den - 1)) (show 0 < den by omega)
      have m3 := Int.mul_ediv_add_emod (n * num + (den - 1)) den
      rw [← hq, Int.mul_comm] at m3
      rw [oif_t, decide_eq_false (by omega), oif_f, decide_eq_false (by omega), oif_f, Bool.not_true, oif_f]
      exact fin
    | false =>
      have hq : scN n num den false = (n * num) / den := rfl
      have m1 := Int.emod_nonneg (n * num) (show den ≠ 0 by omega)
      have m2 := Int.emod_lt_of_pos (n * num) (show 0 < den by omega)
      have m3 := Int.mul_ediv_add_emod (n * num) den
      rw [← hq, Int.mul_comm] at m3
      rw [oif_f, Bool.not_false, oif_t, decide_eq_false (by omega), oif_f, decide_eq_false (by omega), oif_f]
      exact fin

theorem lawOk : LawOk Try.prog pvAnn (15) 7 :=
  ⟨rfl, rfl, rfl, fun x y hx hy _ _ => ⟨(x, y), true, law_main (d := 0) hx hy, rfl, rfl⟩⟩

end Go.Proofs.Ytmjhgkmiafemfaa
