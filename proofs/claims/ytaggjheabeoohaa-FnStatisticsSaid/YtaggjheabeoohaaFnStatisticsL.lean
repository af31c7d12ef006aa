/-
  The law FnStatistics by value.
  Conditions: bytes.
-/
import Derived.Test.YtaggjheabeoohaaFnStatisticsK
set_option linter.all false
namespace Go.Proofs.Ytaggjheabeoohaa
open Go.Ev Go.Pv

theorem cnt_fold (w : Int) : ∀ (l : List Int) (i a b : Nat), a + l.length ≤ 1000000 → b + l.length ≤ 1000000 →
    foldI (fun x _ (t : Int × Int) => (if x ≤ w then IntKind.i64.wrap (t.1 + 1) else t.1, if x < w then IntKind.i64.wrap (t.2 + 1) else t.2)) l i ((a : Int), (b : Int)) = (((a + l.countP (fun x => decide (x ≤ w)) : Nat) : Int), ((b + l.countP (fun x => decide (x < w)) : Nat) : Int))
  | [], i, a, b, _, _ => by simp [foldI]
  | x :: r, i, a, b, h, h' => by
    simp only [List.length_cons] at h h'
    simp only [foldI, List.countP_cons, decide_eq_true_eq]
    have ha : IntKind.i64.wrap ((a : Int) + 1) = ((a + 1 : Nat) : Int) := wr1 (by omega)
    have hb : IntKind.i64.wrap ((b : Int) + 1) = ((b + 1 : Nat) : Int) := wr1 (by omega)
    rw [ha, hb]
    by_cases h1 : x ≤ w <;> by_cases h2 : x < w
    · rw [if_pos h1, if_pos h2, if_pos h1, if_pos h2, cnt_fold w r (i + 1) (a + 1) (b + 1) (by omega) (by omega)]; rw [show a + 1 + r.countP (fun x => decide (x ≤ w)) = a + (r.countP (fun x => decide (x ≤ w)) + 1) by omega, show b + 1 + r.countP (fun x => decide (x < w)) = b + (r.countP (fun x => decide (x < w)) + 1) by omega]
    · rw [if_pos h1, if_neg h2, if_pos h1, if_neg h2, cnt_fold w r (i + 1) (a + 1) b (by omega) (by omega)]; rw [show a + 1 + r.countP (fun x => decide (x ≤ w)) = a + (r.countP (fun x => decide (x ≤ w)) + 1) by omega]; rfl
    · omega
    · rw [if_neg h1, if_neg h2, if_neg h1, if_neg h2, cnt_fold w r (i + 1) a b (by omega) (by omega)]; simp

theorem cnt_sorted {s : List Int} {k : Nat} {w : Int} (hs : s.Pairwise (· ≤ ·)) (hk : s[k]? = some w) : k + 1 ≤ s.countP (fun x => decide (x ≤ w)) ∧ s.countP (fun x => decide (x < w)) ≤ k := by
  obtain ⟨hlt, e⟩ := List.getElem?_eq_some_iff.1 hk
  have hm : ∀ a b (ha : a < s.length) (hb : b < s.length), a ≤ b → s[a] ≤ s[b] := by
    intro a b ha hb hab
    rcases Nat.lt_or_ge a b with h | h
    · exact List.pairwise_iff_getElem.1 hs a b ha hb h
    · have : a = b := by omega
      subst this; exact Int.le_refl _
  constructor
  · have h1 : (s.take (k + 1)).countP (fun x => decide (x ≤ w)) = (s.take (k + 1)).length := by
      rw [List.countP_eq_length]
      intro x hx
      obtain ⟨i, hi, rfl⟩ := List.mem_iff_getElem.1 hx
      rw [List.length_take] at hi
      rw [List.getElem_take]
      have := hm i k (by omega) hlt (by omega)
      simp; omega
    have h2 : s.countP (fun x => decide (x ≤ w)) = (s.take (k + 1)).countP (fun x => decide (x ≤ w)) + (s.drop (k + 1)).countP (fun x => decide (x ≤ w)) := by
      rw [← List.countP_append, List.take_append_drop]
    rw [h2, h1, List.length_take]; omega
  · have h1 : (s.drop k).countP (fun x => decide (x < w)) = 0 := by
      rw [List.countP_eq_zero]
      intro x hx
      obtain ⟨i, hi, rfl⟩ := List.mem_iff_getElem.1 hx
      rw [List.length_drop] at hi
      rw [List.getElem_drop]
      have := hm k (k + i) hlt (by omega) (by omega)
      simp; omega
    have h2 : s.countP (fun x => decide (x < w)) = (s.take k).countP (fun x => decide (x < w)) + (s.drop k).countP (fun x => decide (x < w)) := by
      rw [← List.countP_append, List.take_append_drop]
    have h3 := List.countP_le_length (p := fun x => decide (x < w)) (l := s.take k)
    rw [List.length_take] at h3
    rw [h2, h1]; omega

theorem law_1 {d : Nat} {l : List Int} {a b : Int} : j4_1 (d + 1) (l, a, b) (qnV l a b) (qnV l a b) false = some true := by
  unfold j4_1
  rw [oif_f]
  by_cases hc : shOk l = true ∧ 1 ≤ a ∧ a ≤ b ∧ b ≤ 1000
  case neg =>
    have : (qnV l a b).2 = false := by unfold qnV; rw [if_neg hc]
    rw [this]; rfl
  have hq : qnV l a b = ((sortI' l).getD (qnI l.length a b) 0, true) := by unfold qnV; rw [if_pos hc]
  obtain ⟨hs, h1, h2, h3⟩ := hc
  obtain ⟨g0, g1, g2⟩ := sh_in hs
  obtain ⟨_, i2⟩ := qn_ix (l := l) (a := a) (b := b) g1 g2 h1 h2 h3
  obtain ⟨c1, c2, c3, c4⟩ := qnI_in (n := l.length) (a := a) (b := b) g1 h1 h2
  rw [hq]
  generalize hw : (sortI' l).getD (qnI l.length a b) 0 = w at *
  obtain ⟨p1, p2⟩ := cnt_sorted (sortI'_sorted l) i2
  rw [(sortI'_perm l).countP_eq] at p1 p2
  have hmem : w ∈ l := (sortI'_perm l).mem_iff.1 (List.mem_of_getElem? i2)
  rw [show (!true) = false from rfl, oif_f]
  refine (range_eq (fun (t : Int × Int) (i : Int) => (t.1, t.2, i)) l (fun x _ t k => k (if x ≤ w then IntKind.i64.wrap (t.1 + 1) else t.1, if x < w then IntKind.i64.wrap (t.2 + 1) else t.2)) (fun t => j4_0 (d + 1) (l, a, b) (w, true) t.1 t.2) ?_ ?_ (by rw [fuelN_eq]; omega) (0, 0)).trans ?_
  · intro ag t i x hx
    have hi := (List.getElem?_eq_some_iff.1 hx).1
    simp only [l4_0, l4_0_b, ltl hx, bltl hx, nn, ofNat_toNat, hx, ob_s, oif_t]
    rw [wr1 (by omega)]
    by_cases h5 : x ≤ w <;> by_cases h6 : x < w
    · rw [decide_eq_true h5, oif_t, decide_eq_true h6, oif_t, if_pos h5, if_pos h6]
    · rw [decide_eq_true h5, oif_t, decide_eq_false h6, oif_f, if_pos h5, if_neg h6]
    · omega
    · rw [decide_eq_false h5, oif_f, decide_eq_false h6, oif_f, if_neg h5, if_neg h6]
  · intro ag t
    simp only [l4_0, l4_0_b, ltn, oif_f]
  · rw [rangeR_fold (f := fun x _ (t : Int × Int) => (if x ≤ w then IntKind.i64.wrap (t.1 + 1) else t.1, if x < w then IntKind.i64.wrap (t.2 + 1) else t.2))]
    have hf := cnt_fold w l 0 0 0 (by omega) (by omega)
    simp only [Nat.zero_add, Int.natCast_zero] at hf
    rw [show ((0 : Int), (0 : Int)) = (((0 : Nat) : Int), ((0 : Nat) : Int)) from rfl] at *
    rw [hf]
    have b1 := List.countP_le_length (p := fun x => decide (x ≤ w)) (l := l)
    have b2 := List.countP_le_length (p := fun x => decide (x < w)) (l := l)
    generalize l.countP (fun x => decide (x ≤ w)) = P at *
    generalize l.countP (fun x => decide (x < w)) = Q at *
    generalize qnI l.length a b = k at *
    unfold j4_0
    simp only
    rw [q_qHas (by omega) hmem, ob_s, oif_t]
    have m1 : ((k : Int) + 1) * b ≤ (P : Int) * b := Int.mul_le_mul_of_nonneg_right (by omega) (by omega)
    have m2 : (Q : Int) * b ≤ (k : Int) * b := Int.mul_le_mul_of_nonneg_right (by omega) (by omega)
    have m3 : (P : Int) * b ≤ (l.length : Int) * b := Int.mul_le_mul_of_nonneg_right (by omega) (by omega)
    have m4 : (l.length : Int) * b ≤ (l.length : Int) * 1000 := Int.mul_le_mul_of_nonneg_left (by omega) (by omega)
    have m5 : a * (l.length : Int) ≤ 1000 * (l.length : Int) := Int.mul_le_mul_of_nonneg_right (by omega) (by omega)
    have m6 : 0 ≤ a * (l.length : Int) := Int.mul_nonneg (by omega) (by omega)
    have m7 : 0 ≤ (P : Int) * b := Int.mul_nonneg (by omega) (by omega)
    have m8 : 0 ≤ (Q : Int) * b := Int.mul_nonneg (by omega) (by omega)
    rw [wr (n := (P : Int) * b) (by omega) (by omega), wr (n := (Q : Int) * b) (by omega) (by omega), wr (n := a * (l.length : Int)) (by omega) (by omega), decide_eq_true (by omega), oif_t, decide_eq_true (by omega)]

theorem law_2 {d : Nat} {r3 : List Int × Int × Int} {r4 r5 : Int × Bool} {m : List Int} {i : Int} : j4_2 d r3 r4 r5 (m, i) (faV m) (faV m) (meV m) (suV m) (spV m) false = j4_1 d r3 r4 r5 false := by
  unfold j4_2
  rw [oif_f]
  cases hs : shOk m with
  | false =>
    have : (faV m).2.2 = false := by unfold faV; rw [if_neg (by simp [hs])]
    rw [this, oif_f]
  | true =>
    obtain ⟨g0, g1, g2⟩ := sh_in hs
    obtain ⟨s1, s2⟩ := sh_sum hs
    obtain ⟨f1, f2, f3, f4, f5, f6⟩ := fa_in hs
    have e1 : suV m = (m.sum, true) := by unfold suV; rw [if_pos hs]
    have e2 : spV m = (mxV m - mnV m, true) := by unfold spV; rw [if_pos hs]
    have e3 : meV m = frV m.sum (m.length : Int) := by unfold meV; rw [if_pos hs]
    obtain ⟨d1, d2, d3, d4, d5, d6, d7⟩ := gI_div s1 (show 0 < (m.length : Int) by omega)
    have hmean : IntKind.i64.wrap ((meV m).1 * ((m.length : Nat) : Int)) = IntKind.i64.wrap ((suV m).1 * (meV m).2.1) := by
      rw [e1, e3]
      show IntKind.i64.wrap (m.sum / gI m.sum m.length * ((m.length : Nat) : Int)) = IntKind.i64.wrap (m.sum * ((m.length : Int) / gI m.sum m.length))
      congr 1
      generalize gI m.sum m.length = g at *
      conv => lhs; rw [← d3]
      conv => rhs; rw [← d2]
      simp only [Int.mul_comm, Int.mul_left_comm, Int.mul_assoc]
    -- fairness
    have hfair : ∃ A B : Int, faV m = (A, B, true) ∧ A ≤ B ∧ B ≤ A * (m.length : Int) ∧ 0 ≤ A ∧ A ≤ 2000000000000000 ∧ (mxV m - mnV m = 0 → A = B) := by
      by_cases h0 : sqL m = 0
      · exact ⟨1, 1, by unfold faV; rw [if_pos hs, if_pos h0], by omega, by omega, by omega, by omega, fun _ => rfl⟩
      · have hp : 0 < (m.length : Int) * sqL m := Int.mul_pos (by omega) (by omega)
        obtain ⟨k1, k2, k3, k4, k5, k6, k7⟩ := gI_div f3 hp
        have hc := cauchy m
        obtain ⟨hq, _⟩ := sq_le (l := m) (fun x hx => (g0 x hx).1)
        refine ⟨m.sum * m.sum / gI (m.sum * m.sum) (m.length * sqL m), (m.length : Int) * sqL m / gI (m.sum * m.sum) (m.length * sqL m), by unfold faV; rw [if_pos hs, if_neg h0]; rfl, ?_, ?_, k4, by omega, ?_⟩
        · exact Int.ediv_le_ediv (by omega) hc
        · have h9 : (m.length : Int) * sqL m ≤ (m.length : Int) * (m.sum * m.sum) := Int.mul_le_mul_of_nonneg_left hq (by omega)
          generalize m.sum * m.sum = A at *
          generalize (m.length : Int) * sqL m = B at *
          generalize gI A B = g at *
          refine Int.le_of_mul_le_mul_left (a := g) ?_ (by omega)
          rw [k3, ← Int.mul_assoc, k2, Int.mul_comm]; exact h9
        · intro hsp
          obtain ⟨x1, x2⟩ := mx_in g1
          obtain ⟨n1, n2⟩ := mn_in g1
          obtain ⟨t1, t2⟩ := same_sums (v := mxV m) (l := m) (fun x hx => by have := x2 x hx; have := n2 x hx; omega)
          have : m.sum * m.sum = (m.length : Int) * sqL m := by
            rw [t1, t2]; simp only [Int.mul_comm, Int.mul_left_comm, Int.mul_assoc]
          rw [this]
    obtain ⟨A, B, h1, h2, h3, h4, h5, h6⟩ := hfair
    have h7 : A * (m.length : Int) ≤ A * 40 := Int.mul_le_mul_of_nonneg_left (by omega) h4
    have h8 : 0 ≤ A * (m.length : Int) := Int.mul_nonneg h4 (by omega)
    rw [h1]
    simp only [oif_t]
    rw [decide_eq_false (show ¬ A > B by omega), oif_f, wr (n := A * (m.length : Int)) (by omega) (by omega), decide_eq_false (show ¬ A * (m.length : Int) < B by omega), oif_f, hmean, bne_self_eq_false, oif_f, e2]
    simp only
    by_cases h9 : mxV m - mnV m = 0
    · rw [h9, h6 h9, bne_self_eq_false]; rfl
    · rw [show (mxV m - mnV m == 0) = false by simp only [beq_eq_false_iff_ne]; exact h9, oif_f]

theorem law_3 {d : Nat} {r3 : List Int × Int × Int} {r4 r5 : Int × Bool} {m : List Int} {i : Int} : j4_3 d r3 r4 r5 (m, i) (srV m i) (srV m i) (faV m) (faV m) (meV m) (suV m) (spV m) false = j4_2 d r3 r4 r5 (m, i) (faV m) (faV m) (meV m) (suV m) (spV m) false := by
  unfold j4_3
  rw [oif_f]
  by_cases hc : shOk m = true ∧ 0 ≤ i ∧ i < m.length
  case neg =>
    have : (srV m i).2.2 = false := by unfold srV; rw [if_neg hc]
    rw [this, oif_f]
  obtain ⟨hs, i1, i2⟩ := hc
  obtain ⟨s1, s2⟩ := sh_sum hs
  have e1 : suV m = (m.sum, true) := by unfold suV; rw [if_pos hs]
  by_cases h0 : m.sum = 0
  · have e2 : srV m i = (0, 1, true) := by unfold srV; rw [if_pos ⟨hs, i1, i2⟩, if_pos h0]
    rw [e2, e1, h0]; rfl
  obtain ⟨k1, k2, k3⟩ := sh_get hs i1 i2
  have e2 : srV m i = frV (m.getD i.toNat 0) m.sum := by unfold srV; rw [if_pos ⟨hs, i1, i2⟩, if_neg h0]
  obtain ⟨d1, d2, d3, d4, d5, d6, d7⟩ := gI_div k2 (show 0 < m.sum by omega)
  rw [e2, show (suV m).1 = m.sum by rw [e1]]
  show oif true _ _ = _
  rw [oif_t]
  have hle : (frV (m.getD i.toNat 0) m.sum).1 ≤ (frV (m.getD i.toNat 0) m.sum).2.1 := Int.ediv_le_ediv (by omega) k3
  have hprod : (frV (m.getD i.toNat 0) m.sum).1 * m.sum = m.getD i.toNat 0 * (frV (m.getD i.toNat 0) m.sum).2.1 := by
    show m.getD i.toNat 0 / gI (m.getD i.toNat 0) m.sum * m.sum = m.getD i.toNat 0 * (m.sum / gI (m.getD i.toNat 0) m.sum)
    generalize m.getD i.toNat 0 = x at *
    generalize gI x m.sum = g at *
    conv => lhs; rw [← d3]
    conv => rhs; rw [← d2]
    simp only [Int.mul_comm, Int.mul_left_comm, Int.mul_assoc]
  rw [decide_eq_false (by omega), oif_f, decide_eq_true (show m.sum > 0 by omega), oif_t]
  simp only
  rw [decide_eq_true i1, oif_t, blt_of (show i.toNat < m.length by omega), oif_t, k1, ob_s, hprod, bne_self_eq_false]

theorem law_main {d : Nat} {x y : List Int} (hx : Bytes x) (hy : Bytes y) : g4 (d + 6) x y = some true := by
  rw [e4]
  generalize decide (IntKind.i64.wrap (((x.length : Nat) : Int) + ((y.length : Nat) : Int)) > 1048576) = big
  cases big with
  | true => rfl
  | false =>
  rw [oif_f]
  obtain ⟨⟨l, a, b⟩, h1, h2⟩ := p_DrawQuantileOf (d := d) hx
  obtain ⟨⟨m, i⟩, h3, h4⟩ := p_DrawShareOf (d := d) hy
  simp only at h2 h4
  have hl : l.length < 4194304 := by omega
  have hm : m.length < 4194304 := by omega
  simp only [h1, h3, ob_s]
  rw [q_QuantileOf hl, ob_s, q_sQuantileOf hl, ob_s, q_ShareOf hm, ob_s, q_sShareOf hm, ob_s, q_FairnessOf hm, ob_s, q_sFairnessOf hm, ob_s, q_MeanOf hm, ob_s, q_sMeanOf hm, ob_s, q_SumOf hm, ob_s, q_sSumOf hm, ob_s, q_SpreadOf hm, ob_s, q_sSpreadOf hm, ob_s]
  simp only [beq_self_eq_true, Bool.not_true, bne_self_eq_false, oif_f]
  rw [law_3, law_2, law_1]

theorem lawOk : LawOk Try.prog pvAnn (6) 4 :=
  ⟨rfl, rfl, rfl, fun x y hx hy lx ly => ⟨(x, y), true, law_main (d := 0) hx hy, rfl, rfl⟩⟩

end Go.Proofs.Ytaggjheabeoohaa
