/-
  The law FnBounds by value.
  Conditions: bytes.
-/
import Derived.Test.YtngofhppopgicaaFnBoundsK
set_option linter.all false
namespace Go.Proofs.Ytngofhppopgicaa
open Go.Ev Go.Pv

theorem law_a {d : Nat} {y : List Int} (hy : Bytes y) : j8_1 (d + 10) y false = some true := by
  unfold j8_1
  obtain ⟨⟨s, a⟩, h1, _⟩ := p_DrawLeftoverService (d := d + 5) hy
  obtain ⟨m, h2, h3⟩ := p_DrawAddInflows (d := d + 5) hy
  obtain ⟨⟨p, q, t⟩, h4, _⟩ := p_DrawGreedyBacklog (d := d + 5) hy
  have fin : j8_0 (d + 10) y false = some true := by
    unfold j8_0
    simp only [oif_f, h2, h4, ob_s, q_AddInflows (show m.length < 4194304 by omega), q_sAddInflows (show m.length < 4194304 by omega), q_GreedyBacklog, q_sGreedyBacklog, beq_self_eq_true, oif_t, Bool.and_self]
  simp only [oif_f, h1, ob_s, q_LeftoverService, q_sLeftoverService, beq_self_eq_true, Bool.not_true, Bool.and_self]
  cases h : (lvV s a).2 with
  | false => simp only [oif_f]; exact fin
  | true =>
    obtain ⟨l1, l2, l3, l4, l5⟩ := lv_slow h
    have e1 : s.1 - a.2 + a.2 = s.1 := by omega
    have e2 : decide ((lvV s a).1.2 < s.2) = false := by simp; omega
    rw [oif_t, l1, e1, wr (by omega) (by omega), bne_self_eq_false, oif_f, e2]
    exact fin
theorem law_b {d : Nat} {y : List Int} {a s : Int × Int} (hy : Bytes y) : j8_2 (d + 10) y (a, s) (bbV a s) false = some true := by
  unfold j8_2
  simp only [q_OutputInflow, q_sOutputInflow, ob_s, beq_self_eq_true, Bool.not_true, oif_f, Bool.and_self]
  unfold outV bbV
  cases hb : both a s with
  | false => simp only [Bool.false_and, Bool.false_eq_true, if_false, oif_f]; exact law_a hy
  | true =>
    cases hc : inOk (backV a s, a.2) with
    | false => simp only [Bool.true_and, Bool.false_eq_true, if_false, oif_f]; exact law_a hy
    | true => simp only [Bool.true_and, if_true, oif_t, bne_self_eq_false, oif_f]; exact law_a hy
theorem law_c {d : Nat} {y : List Int} {a s : Int × Int} (hy : Bytes y) : j8_4 (d + 10) y (a, s) (bbV a s) (bbV a s) false = some true := by
  unfold j8_4
  rw [oif_f]
  cases hb : both a s with
  | false => simp only [bbV, hb, Bool.false_eq_true, if_false, oif_f]; have := law_b (d := d) (a := a) (s := s) hy; simpa only [bbV, hb, Bool.false_eq_true, if_false] using this
  | true =>
    obtain ⟨h1, h2, h3⟩ := both_in hb
    have e0 : bbV a s = (backV a s, true) := by simp [bbV, hb]
    have hb2 := law_b (d := d) (a := a) (s := s) hy
    rw [e0] at hb2 ⊢
    rw [oif_t]
    refine (range_eq (fun (t : Bool) (i : Int) => (t, i)) [0, 1, 4, 20, 100, 5000, s.2] (fun x _ t k => k t) (fun t => j8_3 (d + 10) y (a, s) (backV a s, true) t) ?_ ?_ (by rw [fuelN_eq]; simp) false).trans ?_
    · intro ag t i x hx
      have hi := (List.getElem?_eq_some_iff.1 hx).1
      have hm := List.mem_of_getElem? hx
      have h0 : 0 ≤ x ∧ x ≤ 100000 := by simp only [List.mem_cons, List.not_mem_nil, or_false] at hm; omega
      have e1 : gbV a s x = (greV a s x, true) := by simp [gbV, hb, h0]
      have e2 : decide (greV a s x > backV a s) = false := by have := greedy_le hb h0.1; simp; omega
      simp only [l8_0, l8_0_b, ltl hx, bltl hx, nn, ofNat_toNat, hx, ob_s, oif_t, q_GreedyBacklog, q_sGreedyBacklog, e1, Bool.not_true, oif_f, bne_self_eq_false, e2]
      rw [wr1 (by simp at hi; omega)]
    · intro ag t; simp only [l8_0, l8_0_b, ltn, oif_f]
    · rw [rangeR_fold (f := fun _ _ t => t)]
      exact hb2

theorem law_8 {d : Nat} {x y : List Int} (hx : Bytes x) (hy : Bytes y) : g8 (d + 11) x y = some true := by
  rw [e8]
  obtain ⟨b, hb⟩ := q_big (d := d + 9) (x := x) (y := y)
  rw [hb, ob_s]
  cases b with
  | true => rfl
  | false =>
    obtain ⟨⟨a, s⟩, h1, _⟩ := p_DrawBacklogBound (d := d + 5) hx
    simp only [oif_f, h1, ob_s, q_BacklogBound, q_sBacklogBound, q_DelayBound, q_sDelayBound, beq_self_eq_true, Bool.not_true, bne_self_eq_false, q_IsInflow, q_sIsInflow, q_IsService, q_sIsService]
    exact law_c hy

theorem lawOk : LawOk Try.prog pvAnn (11) 8 :=
  ⟨rfl, rfl, rfl, fun x y hx hy _ _ => ⟨(x, y), true, law_8 (d := 0) hx hy, rfl, rfl⟩⟩

end Go.Proofs.Ytngofhppopgicaa
