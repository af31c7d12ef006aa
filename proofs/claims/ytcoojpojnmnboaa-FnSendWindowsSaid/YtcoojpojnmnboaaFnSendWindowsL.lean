/-
  The law FnSendWindows by value.
  Conditions: bytes.
-/
import Derived.Test.YtcoojpojnmnboaaFnSendWindowsK
set_option linter.all false
namespace Go.Proofs.Ytcoojpojnmnboaa
open Go.Ev Go.Pv

theorem oif_skip {b : Bool} {a : Option Bool} (h : a = some true) : oif b (some true) a = some true := by
  cases b
  · exact h
  · rfl

theorem q_FullBucket {d : Nat} {a b : Int} : g62 (d + 3) a b = some (fuV a b) := by
  rw [e62, q_IsBucket, ob_s]; unfold fuV; cases bkOk (a, b, b) <;> rfl

theorem lc_in {rate : Int} {l : List (Int × Int)} (h : (lcV rate l).2 = true) : (0 ≤ rate ∧ rate ≤ 100000) ∧ sdOk l = true ∧ lcV rate l = (bv rate l, true) := by
  unfold lcV at h ⊢
  by_cases hc : decide (0 ≤ rate ∧ rate ≤ 100000) && sdOk l
  · rw [if_pos hc]
    simp only [Bool.and_eq_true, decide_eq_true_eq] at hc
    exact ⟨hc.1, hc.2, rfl⟩
  · rw [if_neg hc] at h; simp at h

theorem full_cf {rate n : Int} {l : List (Int × Int)} (hr : 0 ≤ rate ∧ rate ≤ 100000) (hs : sdOk l = true) (h0 : 0 ≤ n) (h1 : n ≤ 90000) : bkOk (rate, n, n) = true ∧ csfV (rate, n, n) l = (decide (bv rate l ≤ n), true) := by
  have hb : bkOk (rate, n, n) = true := by unfold bkOk; rw [decide_eq_true_eq]; simp only; omega
  exact ⟨hb, by simp only [csfV, hb, hs, Bool.and_self, if_true, cf_iff hr.1 h0 hs]⟩

theorem bv_pos {rate : Int} {l : List (Int × Int)} (hr : 0 ≤ rate) (hs : sdOk l = true) (h : l ≠ []) : 1 ≤ bv rate l := by
  cases l with
  | nil => exact absurd rfl h
  | cons x r =>
    have hx := sd_in hs x (by simp)
    have h1 := (bvF_all (rate := rate) (x :: r) 0).2.1.1
    have e0 : rate * (x.1 - x.1) = 0 := by simp
    rw [e0] at h1
    unfold bv; omega

theorem law_1 {d : Nat} {rate : Int} {l : List (Int × Int)} (hl : l.length < 4194304) : j5_1 (d + 6) (rate, l) (lcV rate l) (lcV rate l) = some true := by
  unfold j5_1
  cases h : (lcV rate l).2 with
  | false => rfl
  | true =>
  obtain ⟨hr, hs, e⟩ := lc_in h
  obtain ⟨b1, b2⟩ := bv_sd hr.1 hs
  obtain ⟨c1, c2⟩ := full_cf hr hs b1 b2
  have ef : ∀ n : Int, bkOk (rate, n, n) = true → fuV rate n = ((rate, n, n), true) := fun n hb => by simp [fuV, hb]
  rw [e]
  simp only [Bool.not_true, oif_f, q_FullBucket, ob_s, ef _ c1, q_Conforms hl, c2, Int.le_refl, decide_true]
  unfold j5_0
  rw [oif_f]
  by_cases hz : bv rate l = 0
  · have hn : l = [] := by
      rcases Classical.em (l = []) with h | h
      · exact h
      · have := bv_pos hr.1 hs h; omega
    simp only [hz, beq_self_eq_true, oif_t, hn]; rfl
  · have e1 : (bv rate l == 0) = false := by simpa using hz
    obtain ⟨d1, d2⟩ := full_cf (n := bv rate l - 1) hr hs (by omega) (by omega)
    simp only [e1, oif_f]
    rw [wr (by omega) (by omega)]
    simp only [q_FullBucket, ob_s, ef _ d1, q_Conforms hl, d2, oif_t]
    rw [decide_eq_false (by omega)]; rfl

theorem law_3 {d : Nat} {rate : Int} {l : List (Int × Int)} (hl : l.length < 4194304) : j5_3 (d + 6) (rate, l) (lcV rate l) (lcV rate l) (wwV rate l) (wwV rate l) = some true := by
  unfold j5_3
  cases h : (wwV rate l).2.2 with
  | false => rw [oif_f]; exact law_1 hl
  | true =>
  rw [oif_t]
  by_cases hc : (decide (0 ≤ rate ∧ rate ≤ 100000) && (sdOk l && !(((l.length : Nat) : Int) == 0))) = true
  case neg => unfold wwV at h; rw [if_neg hc] at h; simp at h
  have e0 : wwV rate l = ((ww rate l).1, (ww rate l).2.1, true) := by unfold wwV; rw [if_pos hc]
  simp only [Bool.and_eq_true, decide_eq_true_eq, Bool.not_eq_true', beq_eq_false_iff_ne, ne_eq] at hc
  obtain ⟨hr, hs, hne⟩ := hc
  have hk := sd_len hs
  have hin := sd_in hs
  have hnn : l ≠ [] := fun h => hne (by rw [h]; rfl)
  have el : lcV rate l = (bv rate l, true) := by unfold lcV; rw [if_pos]; simp [hr, hs]
  obtain ⟨f, t, hf, ht, e1, e2, hft, e3⟩ : wGood rate l (ww rate l) := wwO_good l 0 (0, 0, -1) rfl (.inr ⟨by simp, hnn⟩)
  rw [(ww_need hs).2 hnn] at e3
  have fin := law_1 (d := d) (rate := rate) hl
  have psb : ∀ k, 0 ≤ ps l k ∧ ps l k ≤ 1500 * (k : Int) := by
    intro k
    induction k with
    | zero => simp [ps]
    | succ k ih =>
      rcases Nat.lt_or_ge k l.length with h | h
      · have := hin _ (List.getElem_mem h)
        rw [ps_succ h]; omega
      · have : ps l (k + 1) = ps l k := by unfold ps; rw [List.take_of_length_le (by omega), List.take_of_length_le (by omega)]
        omega
  have mono : ∀ k, f ≤ k → ps l f ≤ ps l k := by
    intro k hk
    induction k with
    | zero => rw [show f = 0 by omega]; exact Int.le_refl _
    | succ k ih =>
      rcases Nat.eq_or_lt_of_le hk with h | h
      · rw [h]; exact Int.le_refl _
      · have := ih (by omega)
        rcases Nat.lt_or_ge k l.length with h2 | h2
        · have := hin _ (List.getElem_mem h2)
          rw [ps_succ h2]; omega
        · have : ps l (k + 1) = ps l k := by unfold ps; rw [List.take_of_length_le (by omega), List.take_of_length_le (by omega)]
          omega
  rw [e0]
  rw [el] at fin ⊢
  have last : j5_2 (d + 6) (rate, l) (bv rate l, true) (bv rate l, true) ((ww rate l).1, (ww rate l).2.1, true) (ps l (t + 1) - ps l f) = some true := by
    unfold j5_2
    have hft2 := hin _ (List.getElem_mem hf)
    have htt := hin _ (List.getElem_mem ht)
    have p1 := psb (t + 1)
    have p2 := psb f
    have p3 := mono (t + 1) (by omega)
    simp only [e1, e2, nn, oif_t, ofNat_toNat, blt_of ht, blt_of hf, List.getElem?_eq_getElem ht, List.getElem?_eq_getElem hf, ob_s]
    have w := (win_wr (x := (l[t].1, 1)) hr (t0 := l[f].1) (by omega) (s := 0) (by omega) (by simp only; omega)).2
    have e4 : IntKind.i64.wrap (rate * IntKind.i64.wrap (l[t].1 - l[f].1)) = rate * (l[t].1 - l[f].1) := by
      have m1 : rate * (l[t].1 - l[f].1) ≤ 100000 * 100000 := by
        rcases Int.le_total 0 (l[t].1 - l[f].1) with h | h
        · exact Int.mul_le_mul hr.2 (by omega) h (by omega)
        · have := Int.mul_nonneg hr.1 (show 0 ≤ l[f].1 - l[t].1 by omega)
          have e : rate * (l[t].1 - l[f].1) = -(rate * (l[f].1 - l[t].1)) := by rw [← Int.mul_neg, Int.neg_sub]
          omega
      have m2 : -(100000 * 100000) ≤ rate * (l[t].1 - l[f].1) := by
        rcases Int.le_total 0 (l[t].1 - l[f].1) with h | h
        · have := Int.mul_nonneg hr.1 h; omega
        · have := Int.mul_le_mul hr.2 (show l[f].1 - l[t].1 ≤ 100000 by omega) (by omega) (by omega)
          have e : rate * (l[t].1 - l[f].1) = -(rate * (l[f].1 - l[t].1)) := by rw [← Int.mul_neg, Int.neg_sub]
          omega
      rw [wr (n := l[t].1 - l[f].1) (by omega) (by omega)]
      exact wr (by omega) (by omega)
    have b2 := (bv_sd hr.1 hs)
    rw [e4, ← e3, wr (by omega) (by omega), bne_self_eq_false, oif_f]
    exact fin
  refine (iter_eq (fun s => j5_2 (d + 6) (rate, l) (bv rate l, true) (bv rate l, true) ((ww rate l).1, (ww rate l).2.1, true) (s.1 + ps l (t + 1) - ps l s.2.toNat)) (fun s => t + 1 - s.2.toNat) (fun s => ∃ k : Nat, s.2 = (k : Int) ∧ k ≤ t + 1 ∧ 0 ≤ s.1 ∧ s.1 ≤ 1500 * (k : Int)) ?_ fuelN (0, (ww rate l).1) ⟨f, e1, by omega, by simp, by simp only; omega⟩ (by rw [fuelN_eq]; simp only; omega)).trans ?_
  · rintro ⟨s, n⟩ ag ⟨k, hn, h1, h2, h3⟩ hag
    simp only at hn h2 h3
    subst hn
    simp only [l5_1, l5_1_b, e2, ofNat_toNat]
    by_cases hc : k ≤ t
    · have hlt : k < l.length := by omega
      have hx := hin _ (List.getElem_mem hlt)
      rw [decide_eq_true (show ((k : Int)) ≤ (t : Int) by omega), oif_t, nn, oif_t, blt_of hlt, oif_t, List.getElem?_eq_getElem hlt, ob_s, wr (n := s + l[k].2) (by omega) (by omega), wr1 (by omega), hag _ ⟨k + 1, rfl, by omega, by simp only; omega, by simp only; omega⟩ (by simp only [ofNat_toNat]; omega)]
      simp only [ofNat_toNat]
      rw [show s + l[k].2 + ps l (t + 1) - ps l (k + 1) = s + ps l (t + 1) - ps l k by rw [ps_succ hlt]; omega, e2]
    · have : k = t + 1 := by omega
      subst this
      rw [decide_eq_false (by omega), oif_f, show s + ps l (t + 1) - ps l (t + 1) = s by omega]
  · simp only [Int.zero_add]
    rw [show (ww rate l).1.toNat = f by rw [e1]; exact ofNat_toNat f]
    exact last

theorem law_7 {d : Nat} {rate : Int} {l m : List (Int × Int)} {b : Int × Int × Int} (hl : l.length < 4194304) (hm : m.length < 4194304) : j5_7 (d + 6) (rate, l) (lcV rate l) (lcV rate l) (wwV rate l) (wwV rate l) (b, m) (rbV b m) (rbV b m) false = some true := by
  unfold j5_7
  rw [oif_f]
  have fin := law_3 (d := d) (rate := rate) hl
  by_cases hc : (bkOk b && sdOk m) = true
  case neg =>
    have e0 : rbV b m = ((0, 0, 0), [], false) := by unfold rbV; rw [if_neg hc]
    rw [e0]; simp only [oif_f]; exact fin
  have e0 : rbV b m = ((rnF b 0 m).1, (rnF b 0 m).2, true) := by unfold rbV; rw [if_pos hc]
  simp only [Bool.and_eq_true] at hc
  obtain ⟨hb, hs⟩ := hc
  have hk := sd_len hs
  have hin := sd_in hs
  have hs' := hs
  simp only [sdOk, Bool.and_eq_true] at hs'
  obtain ⟨r1, r2⟩ := rn_bytes m b 0 hb hs'.1 (by omega)
  obtain ⟨t1, t2⟩ := lastT_le hs'.1
  have t2 := t2 (by omega)
  have hlen : (rnF b 0 m).2.length = m.length := rnF_len
  have hbi := bk_in hb
  obtain ⟨m1, m2⟩ := mulB hbi.1 hbi.2.1 t1 t2
  have sb := sentB_in (bs := (rnF b 0 m).2) hin
  rw [Int.sub_zero] at r1
  have e4 : ∀ n, n = lastT 0 m → j5_4 (d + 6) (rate, l) (lcV rate l) (lcV rate l) (wwV rate l) (wwV rate l) (b, m) ((rnF b 0 m).1, (rnF b 0 m).2, true) (cfV b m) (sentB m (rnF b 0 m).2) (csfV b m) n = some true := by
    rintro n rfl
    unfold j5_4
    have ec : csfV b m = (cfV b m, true) := by simp [csfV, hb, hs]
    rw [ec]
    simp only [Bool.not_true, oif_f, beq_self_eq_true]
    rw [wr (n := b.1 * lastT 0 m) (by omega) (by omega), wr (n := b.2.2 + b.1 * lastT 0 m) (by omega) (by omega), decide_eq_false (by omega), oif_f, q_IsBucket, ob_s, r2, Bool.not_true, oif_f]
    exact fin
  have e5 : j5_5 (d + 6) (rate, l) (lcV rate l) (lcV rate l) (wwV rate l) (wwV rate l) (b, m) ((rnF b 0 m).1, (rnF b 0 m).2, true) (cfV b m) (sentB m (rnF b 0 m).2) = some true := by
    unfold j5_5
    simp only [q_Conforms hm, ob_s]
    by_cases h0 : ((m.length : Nat) : Int) > 0
    · have hlt : m.length - 1 < m.length := by omega
      rw [decide_eq_true h0, oif_t, show IntKind.i64.wrap (((m.length : Nat) : Int) - 1) = ((m.length - 1 : Nat) : Int) by rw [wr (by omega) (by omega)]; omega, nn, oif_t, ofNat_toNat, blt_of hlt, oif_t, List.getElem?_eq_getElem hlt, ob_s]
      exact e4 _ (lastT_get m 0 (by omega)).symm
    · have : m = [] := List.length_eq_zero_iff.1 (by omega)
      rw [decide_eq_false h0, oif_f]
      exact e4 0 (by rw [this]; rfl)
  rw [e0]
  simp only [oif_t]
  refine (iter_eq (fun s => j5_5 (d + 6) (rate, l) (lcV rate l) (lcV rate l) (wwV rate l) (wwV rate l) (b, m) ((rnF b 0 m).1, (rnF b 0 m).2, true) (s.1 && ((rnF b 0 m).2.drop s.2.2.toNat).all id) (s.2.1 + sentB (m.drop s.2.2.toNat) ((rnF b 0 m).2.drop s.2.2.toNat))) (fun s => m.length - s.2.2.toNat) (fun s => ∃ k : Nat, s.2.2 = (k : Int) ∧ k ≤ m.length ∧ 0 ≤ s.2.1 ∧ s.2.1 ≤ 1500 * (k : Int)) ?_ fuelN (true, 0, 0) ⟨0, rfl, by omega, by simp, by simp⟩ (by rw [fuelN_eq]; simp; omega)).trans ?_
  · rintro ⟨a, s, n⟩ ag ⟨k, hn, h1, h2, h3⟩ hag
    simp only at hn h2 h3
    subst hn
    simp only [l5_0, l5_0_b, ofNat_toNat]
    rcases Nat.lt_or_ge k m.length with hlt | hge
    · have hlt2 : k < (rnF b 0 m).2.length := by omega
      have hx := hin _ (List.getElem_mem hlt)
      have hy : (rnF b 0 m).2[k]? = some (rnF b 0 m).2[k] := List.getElem?_eq_getElem hlt2
      rw [ltl hy, oif_t, nn, oif_t, blt_of hlt2, oif_t, hy, ob_s, List.drop_eq_getElem_cons hlt, List.drop_eq_getElem_cons hlt2]
      simp only [List.all_cons, sentB, j5_6, ofNat_toNat, nn, oif_t, blt_of hlt, List.getElem?_eq_getElem hlt, ob_s]
      have ha : ∀ (a2 : Bool) (s2 : Int), 0 ≤ s2 → s2 ≤ 1500 * ((k : Int) + 1) → ag (a2, s2, ((k + 1 : Nat) : Int)) = j5_5 (d + 6) (rate, l) (lcV rate l) (lcV rate l) (wwV rate l) (wwV rate l) (b, m) ((rnF b 0 m).1, (rnF b 0 m).2, true) (a2 && ((rnF b 0 m).2.drop (k + 1)).all id) (s2 + sentB (m.drop (k + 1)) ((rnF b 0 m).2.drop (k + 1))) := fun a2 s2 q1 q2 => by
        rw [hag _ ⟨k + 1, rfl, by omega, q1, by simp only; omega⟩ (by simp only [ofNat_toNat]; omega)]
        simp only [ofNat_toNat]
      rw [wr (n := s + m[k].2) (by omega) (by omega), wr1 (by omega)]
      cases a <;> cases (rnF b 0 m).2[k] <;> simp only [oif_t, oif_f, id, Bool.true_and, Bool.false_and, if_true, Bool.false_eq_true, if_false, Int.zero_add]
      · rw [ha _ _ h2 (by omega)]; rfl
      · rw [ha _ _ (by omega) (by omega), Int.add_assoc]; rfl
      · rw [ha _ _ h2 (by omega)]; rfl
      · rw [ha _ _ (by omega) (by omega), Int.add_assoc]; rfl
    · have : k = (rnF b 0 m).2.length := by omega
      subst this
      rw [ltn, oif_f, List.drop_length]
      have hz : ∀ r : List (Int × Int), sentB r [] = 0 := fun r => by cases r <;> rfl
      simp [hz]
  · simp only [Int.toNat_zero, List.drop_zero, Bool.true_and, Int.zero_add]
    exact e5

theorem law_main {d : Nat} {x y : List Int} (hx : Bytes x) (hy : Bytes y) : g5 (d + 8) x y = some true := by
  rw [e5]
  refine oif_skip ?_
  obtain ⟨⟨rate, l⟩, h1, a1⟩ := p_DrawLeastCap (d := d + 2) hx
  obtain ⟨⟨b, m⟩, h2, a2⟩ := p_DrawRunBucket (d := d + 2) hy
  obtain ⟨⟨c, s⟩, h3, a3⟩ := p_DrawConforms (d := d + 2) hy
  simp only at a1 a2 a3
  have s1 : (rbV b m).2.1.length < 4194304 := by
    unfold rbV; split
    · rw [rnF_len]; omega
    · simp
  have fin := law_7 (d := d + 1) (rate := rate) (b := b) (show l.length < 4194304 by omega) (show m.length < 4194304 by omega)
  simp only [h1, h2, h3, ob_s, oif_f, q_LeastCap (show l.length < 4194304 by omega), q_sLeastCap (show l.length < 4194304 by omega), q_WorstWindow (show l.length < 4194304 by omega), q_sWorstWindow (show l.length < 4194304 by omega), q_RunBucket (show m.length < 4194304 by omega), q_sRunBucket (show m.length < 4194304 by omega), q_Conforms (show s.length < 4194304 by omega), q_sConforms (show s.length < 4194304 by omega), beq_self_eq_true, Bool.not_true, bne_self_eq_false, Bool.and_self, q_qBools s1]
  cases h9 : (rbV b m).2.2 with
  | false => rw [oif_f]; exact fin
  | true =>
    have e : (rbV b m).2.1.length = m.length := by
      unfold rbV at h9 ⊢
      split
      · exact rnF_len
      · rename_i hc; rw [if_neg hc] at h9; simp at h9
    rw [oif_t, e, bne_self_eq_false]; exact fin

theorem lawOk : LawOk Try.prog pvAnn (8) 5 :=
  ⟨rfl, rfl, rfl, fun x y hx hy _ _ => ⟨(x, y), true, law_main (d := 0) hx hy, rfl, rfl⟩⟩

end Go.Proofs.Ytcoojpojnmnboaa
