/-
  The law FnEarlyDrops by value.
  Conditions: bytes.
-/
import Derived.Test.YtmjhgkmiafemfaaFnEarlyDropsK
set_option linter.all false
namespace Go.Proofs.Ytmjhgkmiafemfaa
open Go.Ev Go.Pv

theorem law_0 {d : Nat} {y : List Int} (hy : Bytes y) {b : Bool} : j5_0 (d + 6) y b = some true := by
  unfold j5_0
  obtain ⟨⟨e, a, s, k, i⟩, h1, _⟩ := p_DrawDecideEarly (d := d + 1) hy
  obtain ⟨⟨e2, f2, a2⟩, h2, _⟩ := p_DrawCompareEarly (d := d + 1) hy
  obtain ⟨⟨k3, i3⟩, h3, _⟩ := p_DrawKeyedNumber (d := d + 1) hy
  simp only [h1, h2, h3, ob_s, q_DecideEarly, q_sDecideEarly, q_CompareEarly, q_sCompareEarly, q_KeyedNumber, q_sKeyedNumber, beq_self_eq_true, oif_t]
  unfold knV
  cases h : keOk k3 i3 with
  | false => simp [oif_t]
  | true =>
    have a3 := kd1_in (kd1 (kd1 7919 k3) i3) 20
    have e1 : kd1 (kd1 (kd1 7919 k3) i3) 20 = kdV k3 i3 := rfl
    rw [e1] at a3
    simp only [if_true, Bool.not_true, oif_f]
    rw [decide_eq_true a3.1, oif_t, decide_eq_true a3.2]

theorem law_loop {d : Nat} {y : List Int} (hy : Bytes y) {e : Int × Int × Int × Int} {a : Int} {l : List Int} {k : Int} (he : elOk e = true) (ha : avOk a = true) (hl : lnsOk l = true) (hk : keOk k 0 = true) :
    Ok (iterP (l5_0 (d + 6) (e, a, l, k) (runL e k a 0 0 l, true) (avgL e a l, true) (j5_1 (d + 6) y (cnt 1 (runL e k a 0 0 l), cnt 2 (runL e k a 0 0 l), true))) fuelN (false, 0, 0, 0, 0)) fun r => r = true := by
  simp only [lnsOk, Bool.and_eq_true, List.all_eq_true, decide_eq_true_eq] at hl
  refine iter_ok (fun n s => ∃ (i : Nat) (cur sn : Int) (pre pa : List Int), s = (false, cnt 1 pre, cnt 2 pre, sn, (i : Int)) ∧ i + n = l.length ∧ avOk cur = true ∧ 0 ≤ sn ∧ sn ≤ i ∧ pre.length = i ∧ runL e k a 0 0 l = pre ++ runL e k cur sn i (l.drop i) ∧ pa.length = i ∧ avgL e a l = pa ++ avgL e cur (l.drop i)) ?_ _ l.length _ (by rw [fuelN_eq]; omega) ⟨0, a, 0, [], [], rfl, by omega, ha, by omega, by omega, rfl, rfl, rfl, rfl⟩
  rintro n _ ag ⟨i, cur, sn, pre, pa, rfl, h1, h2, h3, h4, h5, h6, h7, h8⟩ hag
  simp only [l5_0, l5_0_b]
  have hlen : (runL e k a 0 0 l).length = l.length := runL_len
  rcases Nat.lt_or_ge i l.length with hlt | hge
  · have hkx : lnOk l[i] = true := hl.1 _ (List.getElem_mem hlt)
    rw [List.drop_eq_getElem_cons hlt] at h6 h8
    simp only [runL] at h6
    simp only [avgL] at h8
    obtain ⟨b1, b2, _⟩ := nx_in he h2 hkx
    have ha2 : avOk (nx e cur l[i]) = true := by simp [avOk, b1, b2]
    have hsi : siOk sn = true := by simp only [siOk, decide_eq_true_eq]; omega
    have hki : keOk k (i : Int) = true := by simp only [keOk, decide_eq_true_eq] at hk ⊢; omega
    have hr : (runL e k a 0 0 l)[i]? = some (deV e (nx e cur l[i]) sn k i) := by
      rw [h6, List.getElem?_append_right (by omega), show i - pre.length = 0 by omega]; rfl
    have hav : (avgL e a l)[i]? = some (nx e cur l[i]) := by
      rw [h8, List.getElem?_append_right (by omega), show i - pa.length = 0 by omega]; rfl
    have hdd : ddV e (nx e cur l[i]) sn k i = (deV e (nx e cur l[i]) sn k i, true) := by simp only [ddV, he, ha2, hsi, hki, Bool.and_self, if_true]
    have hc1 := cnt_le 1 pre
    have hc2 := cnt_le 2 pre
    simp only [ltl hr, bltl hr, oif_t, nn, ofNat_toNat, hr, ob_s, bltl hav, hav, q_DecideEarly, hdd, Bool.not_true, oif_f, bne_self_eq_false, j5_2]
    rw [wr1 (by omega)]
    have c1 := cnt_snoc 1 (deV e (nx e cur l[i]) sn k i) pre
    have c2 := cnt_snoc 2 (deV e (nx e cur l[i]) sn k i) pre
    rcases deV_in (e := e) (a := nx e cur l[i]) (s := sn) (k := k) (i := i) with h | h | h
    · rw [h] at h6 c1 c2 ⊢
      rw [show ((0 : Int) == 1) = false from rfl, oif_f, show ((0 : Int) == 2) = false from rfl, oif_f, wr (n := sn + 1) (by omega) (by omega)]
      simp only [if_true, show ¬ ((0 : Int) = 1) by omega, show ¬ ((0 : Int) = 2) by omega, if_false, Int.add_zero] at h6 c1 c2
      rw [← c1, ← c2]
      exact hag (n - 1) _ (by omega) ⟨i + 1, nx e cur l[i], sn + 1, pre ++ [0], pa ++ [nx e cur l[i]], rfl, by omega, ha2, by omega, by omega, by simp; omega, by rw [h6]; simp, by simp; omega, by rw [h8]; simp⟩
    · rw [h] at h6 c1 c2 ⊢
      rw [show ((1 : Int) == 1) = true from rfl, oif_t, wr (n := cnt 1 pre + 1) (by omega) (by omega)]
      simp only [if_true, show ¬ ((1 : Int) = 0) by omega, show ¬ ((1 : Int) = 2) by omega, if_false, Int.add_zero] at h6 c1 c2
      rw [← c1, ← c2]
      exact hag (n - 1) _ (by omega) ⟨i + 1, nx e cur l[i], 0, pre ++ [1], pa ++ [nx e cur l[i]], rfl, by omega, ha2, by omega, by omega, by simp; omega, by rw [h6]; simp, by simp; omega, by rw [h8]; simp⟩
    · rw [h] at h6 c1 c2 ⊢
      rw [show ((2 : Int) == 1) = false from rfl, oif_f, show ((2 : Int) == 2) = true from rfl, oif_t, wr (n := cnt 2 pre + 1) (by omega) (by omega)]
      simp only [if_true, show ¬ ((2 : Int) = 0) by omega, show ¬ ((2 : Int) = 1) by omega, if_false, Int.add_zero] at h6 c1 c2
      rw [← c1, ← c2]
      exact hag (n - 1) _ (by omega) ⟨i + 1, nx e cur l[i], 0, pre ++ [2], pa ++ [nx e cur l[i]], rfl, by omega, ha2, by omega, by omega, by simp; omega, by rw [h6]; simp, by simp; omega, by rw [h8]; simp⟩
  · have : i = l.length := by omega
    subst this
    rw [List.drop_length] at h6
    simp only [runL, List.append_nil] at h6
    rw [show ((l.length : Nat) : Int) = ((runL e k a 0 0 l).length : Nat) by rw [hlen], ltn, oif_f]
    unfold j5_1
    rw [h6]
    simp only [bne_self_eq_false, oif_f]
    exact ⟨true, law_0 hy, rfl⟩

theorem law_5 {d : Nat} {y : List Int} (hy : Bytes y) : j5_5 (d + 6) y = some true := by
  unfold j5_5
  obtain ⟨⟨e, a, l, k⟩, h1, h2⟩ := p_DrawRunEarly (d := d + 1) hy
  simp only at h2
  simp only [h1, ob_s, q_RunEarly (show l.length < 4194304 by omega), q_sRunEarly (show l.length < 4194304 by omega), beq_self_eq_true, Bool.not_true, oif_f]
  have s1 : (reV e a l k).1.length ≤ 100 := by
    unfold reV; split
    · rw [runL_len]; exact h2
    · simp
  simp only [q_sameInts (show (reV e a l k).1.length < 4194304 by omega), ob_s, beq_self_eq_true, Bool.not_true]
  unfold j5_4
  rw [oif_f]
  unfold reV
  cases he : elOk e with
  | false => simp only [Bool.false_and, Bool.and_false, Bool.true_and, Bool.false_eq_true, if_false, oif_f]; exact law_0 hy
  | true =>
  cases ha : avOk a with
  | false => simp only [Bool.false_and, Bool.and_false, Bool.true_and, Bool.false_eq_true, if_false, oif_f]; exact law_0 hy
  | true =>
  cases hl : lnsOk l with
  | false => simp only [Bool.false_and, Bool.and_false, Bool.true_and, Bool.false_eq_true, if_false, oif_f]; exact law_0 hy
  | true =>
  cases hk : keOk k 0 with
  | false => simp only [Bool.false_and, Bool.and_false, Bool.true_and, Bool.false_eq_true, if_false, oif_f]; exact law_0 hy
  | true =>
  simp only [Bool.and_self, if_true, oif_t]
  have hao : aoV e a l = (avgL e a l, true) := by simp only [aoV, he, ha, hl, Bool.and_self, if_true]
  have h60 : l.length ≤ 60 := by
    simp only [lnsOk, Bool.and_eq_true, decide_eq_true_eq] at hl; omega
  rw [q_AverageOver (show l.length < 4194304 by omega), ob_s, hao, q_DropsOf (by rw [runL_len]; exact h60) runL_in, ob_s]
  simp only [avgL_len, Bool.not_true, oif_f, bne_self_eq_false]
  unfold j5_3
  rw [oif_f]
  exact Ok.val (law_loop hy he ha hl hk)

theorem law_6 {d : Nat} {y : List Int} (hy : Bytes y) {e : Int × Int × Int × Int} {a s : Int} {b : Bool} (h : b = true → elOk e = true ∧ avOk a = true ∧ siOk s = true ∧ a < 15360) : j5_6 (d + 6) y (e, a, s) (dcV e a s) b = some true := by
  unfold j5_6
  cases b with
  | false => rw [oif_f]; exact law_5 hy
  | true =>
    obtain ⟨he, ha, hs, h1⟩ := h rfl
    have ha' := ha
    simp only [avOk, decide_eq_true_eq] at ha'
    have ha2 : avOk (a + 1) = true := by simp only [avOk, decide_eq_true_eq]; omega
    have e1 : dcV e a s = ((chV e a s).1, (chV e a s).2, true) := by simp only [dcV, he, ha, hs, Bool.and_self, if_true]
    have e2 : dcV e (a + 1) s = ((chV e (a + 1) s).1, (chV e (a + 1) s).2, true) := by simp only [dcV, he, ha2, hs, Bool.and_self, if_true]
    obtain ⟨d1, d2, d3, d4⟩ := chV_in (a := a) he hs
    obtain ⟨f1, f2, f3, f4⟩ := chV_in (a := a + 1) he hs
    have mono := chV_mono (a := a) he hs
    rw [oif_t]
    rw [wr (n := a + 1) (by omega) (by omega), q_DropChance, ob_s, e1, e2]
    simp only [Bool.not_true, oif_f]
    have m1 : 0 ≤ (chV e (a + 1) s).1 * (chV e a s).2 ∧ (chV e (a + 1) s).1 * (chV e a s).2 ≤ 235929600000000 := by
      refine ⟨Int.mul_nonneg (by omega) (by omega), ?_⟩
      have : (chV e (a + 1) s).1 * (chV e a s).2 ≤ 15360000 * (chV e a s).2 := Int.mul_le_mul_of_nonneg_right (by omega) (by omega)
      omega
    have m2 : 0 ≤ (chV e a s).1 * (chV e (a + 1) s).2 := Int.mul_nonneg (by omega) (by omega)
    rw [decide_eq_false (by omega), oif_f, decide_eq_false (by omega), oif_f, decide_eq_false (by omega), oif_f, decide_eq_false (by omega), oif_f, wr (by omega) (by omega), wr (by omega) (by omega), decide_eq_false (by omega), oif_f]
    exact law_5 hy

theorem law_main {d : Nat} {x y : List Int} (hx : Bytes x) (hy : Bytes y) : g5 (d + 7) x y = some true := by
  rw [e5]
  obtain ⟨b, hb⟩ := q_big (d := d + 5) (x := x) (y := y)
  rw [hb, ob_s]
  cases b with
  | true => rfl
  | false =>
  obtain ⟨⟨e, a, s⟩, h1, _⟩ := p_DrawDropChance (d := d + 1) hx
  simp only [oif_f, h1, ob_s, q_DropChance, q_sDropChance, beq_self_eq_true, Bool.not_true, bne_self_eq_false]
  unfold j5_8 j5_7
  simp only [oif_f, oif_t]
  cases h : (elOk e && (avOk a && siOk s)) with
  | false =>
    have : (dcV e a s).2.2 = false := by unfold dcV; rw [h]; rfl
    rw [this, oif_f, oif_f]; exact law_6 (d := d) hy (fun h => by simp at h)
  | true =>
    have e1 : dcV e a s = ((chV e a s).1, (chV e a s).2, true) := by unfold dcV; rw [h]; rfl
    simp only [Bool.and_eq_true] at h
    obtain ⟨he, ha, hs⟩ := h
    obtain ⟨d1, d2, d3, d4⟩ := chV_in (a := a) he hs
    have fin := law_6 (d := d) (e := e) (a := a) (s := s) (b := decide (a < 15360)) hy (fun h => ⟨he, ha, hs, by simpa using h⟩)
    rw [e1] at fin ⊢
    simp only [oif_t]
    rw [decide_eq_false (by omega), oif_f, decide_eq_false (by omega), oif_f, decide_eq_false (by omega), oif_f]
    exact fin

theorem lawOk : LawOk Try.prog pvAnn (7) 5 :=
  ⟨rfl, rfl, rfl, fun x y hx hy _ _ => ⟨(x, y), true, law_main (d := 0) hx hy, rfl, rfl⟩⟩

end Go.Proofs.Ytmjhgkmiafemfaa
