/-
  The law FnAverages by value.
  Conditions: bytes.
-/
import Derived.Test.YtngofhppopgicaaFnAveragesK
set_option linter.all false
namespace Go.Proofs.Ytngofhppopgicaa
open Go.Ev Go.Pv

theorem unV_some {c : Nat → Bool} (h : (unV c).2 = true) : ∃ m : Nat, unV c = ((m : Int), true) ∧ m < 10001 ∧ c m = true ∧ ∀ j, j < m → c j = false := by
  unfold unV at h ⊢
  cases hu : untilV c 10001 0 with
  | none => rw [hu] at h; simp at h
  | some m =>
    obtain ⟨h1, h2, h3, h4⟩ := untilV_some 10001 0 hu
    exact ⟨m, rfl, by omega, h3, fun j hj => h4 j (by omega) hj⟩

theorem idV_some {e : Int × Int × Int × Int} {a : Int} (h : (idV e a).2 = true) : elOk e = true ∧ avOk a = true ∧ ∃ m : Nat, idV e a = ((m : Int), true) ∧ m < 10001 ∧ idC e a m = true ∧ ∀ j, j < m → idC e a j = false := by
  unfold idV at h ⊢
  cases he : elOk e with
  | false => simp [he] at h
  | true =>
    cases ha : avOk a with
    | false => simp [ha] at h
    | true =>
      simp only [he, ha, Bool.and_self, if_true] at h ⊢
      exact ⟨trivial, trivial, unV_some h⟩

theorem law_0 {d : Nat} {g : Int × Int × Int × Int} {a : Int} : j7_0 d (g, a) (idV g a) (idV g a) = some true := by
  unfold j7_0
  cases h : (idV g a).2 with
  | false => rfl
  | true =>
    obtain ⟨he, ha, m, h1, h2, h3, h4⟩ := idV_some h
    rw [h1]
    simp only [Bool.not_true, oif_f]
    cases m with
    | zero =>
      have e1 : decide (((0 : Nat) : Int) > 0) = false := by simp
      rw [e1, oif_f]
      have he' := he
      simp only [elOk, decide_eq_true_eq] at he'
      have h3' : decide (a < 256 * g.1) = true := h3
      rw [wr (by omega) (by omega), h3']
    | succ m =>
      have e1 : decide (((m + 1 : Nat) : Int) > 0) = true := by rw [decide_eq_true_eq]; omega
      rw [e1, oif_t]

theorem law_1 {d : Nat} {g : Int × Int × Int × Int} {a : Int} {b : Bool} (hb : b = true → (idV g a).2 = true ∧ 0 < (idV g a).1 ∧ (idV g a).1 ≤ 60) : j7_1 (d + 5) (g, a) (idV g a) (idV g a) b = some true := by
  unfold j7_1
  cases b with
  | false => rw [oif_f]; exact law_0
  | true =>
    obtain ⟨h, h5, h6⟩ := hb rfl
    obtain ⟨he, ha, m, h1, h2, h3, h4⟩ := idV_some h
    have l0 := law_0 (d := d + 5) (g := g) (a := a)
    rw [h1] at h5 h6 l0 ⊢
    simp only at h5 h6
    have he' := he
    simp only [elOk, decide_eq_true_eq] at he'
    have e1 : decide (0 ≤ (m : Int)) = true := by simp
    have e2 : (Nat.ble m m && Nat.ble (m * 8) roomMax) = true := by
      rw [Bool.and_eq_true, Nat.ble_eq, Nat.ble_eq]; unfold roomMax; omega
    simp only [Int.toNat_natCast, e1, oif_t, e2]
    have hao : aoV g a (List.replicate m 0) = (avgL g a (List.replicate m 0), true) := by
      have : lnsOk (List.replicate m 0) = true := by
        simp only [lnsOk, Bool.and_eq_true, List.all_eq_true, decide_eq_true_eq, List.length_replicate]
        exact ⟨fun x hx => by rw [(List.mem_replicate.1 hx).2]; decide, by omega⟩
      simp only [aoV, he, ha, this, Bool.and_self, if_true]
    rw [q_AverageOver (by simp; omega), ob_s, hao]
    have hl : (avgL g a (List.replicate m 0)).length = m := by rw [avgL_len, List.length_replicate]
    simp only [Bool.not_true, oif_f, hl, bne_self_eq_false]
    rw [wr (n := (m : Int) - 1) (by omega) (by omega), wr (n := 256 * g.1) (by omega) (by omega)]
    have e3 : decide (0 ≤ (m : Int) - 1) = true := by simp; omega
    have e4 : ((m : Int) - 1).toNat = m - 1 := by omega
    have r1 := avgL_rep (e := g) (a := a) (n := 0) m 0 (m - 1) (by omega)
    rw [show 0 + (m - 1) + 1 = m by omega] at r1
    change (avgL g a (List.replicate m 0))[m - 1]? = _ at r1
    rw [e3, oif_t, e4, blt_of (by omega), oif_t, r1, ob_s]
    simp only [idC, decide_eq_true_eq] at h3
    rw [decide_eq_false (show ¬ itA g a 0 m ≥ 256 * g.1 by omega), oif_f]
    by_cases h7 : (m : Int) > 1
    · rw [decide_eq_true h7, oif_t, wr (n := (m : Int) - 2) (by omega) (by omega)]
      have e5 : decide (0 ≤ (m : Int) - 2) = true := by simp; omega
      have e6 : ((m : Int) - 2).toNat = m - 2 := by omega
      have r2 := avgL_rep (e := g) (a := a) (n := 0) m 0 (m - 2) (by omega)
      rw [show 0 + (m - 2) + 1 = m - 1 by omega] at r2
      change (avgL g a (List.replicate m 0))[m - 2]? = _ at r2
      have h8 := h4 (m - 1) (by omega)
      simp only [idC, decide_eq_false_iff_not] at h8
      rw [e5, oif_t, e6, blt_of (by omega), oif_t, r2, ob_s, decide_eq_false h8, oif_f]
      exact l0
    · rw [decide_eq_false h7, oif_f]; exact l0

theorem law_3 {d : Nat} {y : List Int} (hy : Bytes y) {b : Bool} : j7_3 (d + 6) y b = some true := by
  unfold j7_3
  obtain ⟨⟨g, a⟩, h1, _⟩ := p_DrawIdleUntil (d := d + 1) hy
  obtain ⟨e, h2, _⟩ := p_DrawLeastForced (d := d) hy
  simp only [h1, h2, ob_s, q_IdleUntil, q_sIdleUntil, q_LeastForced, q_sLeastForced, beq_self_eq_true, Bool.not_true, oif_f, bne_self_eq_false]
  unfold j7_2
  rw [oif_f]
  cases h : (idV g a).2 with
  | false => rw [oif_f]; exact law_1 (d := d + 1) (fun h => by simp at h)
  | true =>
    rw [oif_t]
    by_cases h3 : (idV g a).1 > 0
    · rw [decide_eq_true h3, oif_t]
      exact law_1 (d := d + 1) (fun h4 => ⟨h, h3, by simpa using h4⟩)
    · rw [decide_eq_false h3, oif_f]; exact law_1 (d := d + 1) (fun h => by simp at h)

theorem law_loop {d : Nat} {y : List Int} (hy : Bytes y) {e : Int × Int × Int × Int} {a : Int} {l : List Int} (he : elOk e = true) (ha : avOk a = true) (hl : lnsOk l = true) :
    Ok (iterP (l7_0 (d + 6) (e, a, l) (avgL e a l, true) (j7_4 (d + 6) y)) fuelN (false, a, 0)) fun r => r = true := by
  simp only [lnsOk, Bool.and_eq_true, List.all_eq_true, decide_eq_true_eq] at hl
  refine iter_ok (fun n s => ∃ (i : Nat) (cur : Int), s = (false, cur, (i : Int)) ∧ i + n = l.length ∧ avOk cur = true ∧ ∃ pre : List Int, pre.length = i ∧ avgL e a l = pre ++ avgL e cur (l.drop i)) ?_ _ l.length _ (by rw [fuelN_eq]; omega) ⟨0, a, rfl, by omega, ha, [], rfl, rfl⟩
  rintro n _ ag ⟨i, cur, rfl, h1, h2, pre, h3, h4⟩ hag
  simp only [l7_0, l7_0_b]
  rcases Nat.lt_or_ge i l.length with hlt | hge
  · have hx : l[i]? = some l[i] := List.getElem?_eq_getElem hlt
    have hk : lnOk l[i] = true := hl.1 _ (List.getElem_mem hlt)
    rw [List.drop_eq_getElem_cons hlt] at h4
    simp only [avgL] at h4
    have hav : (avgL e a l)[i]? = some (nx e cur l[i]) := by
      rw [h4, List.getElem?_append_right (by omega), show i - pre.length = 0 by omega]; rfl
    have hn : naV e cur l[i] = (nx e cur l[i], true) := by simp only [naV, he, h2, hk, Bool.and_self, if_true]
    simp only [ltl hx, bltl hx, oif_t, nn, ofNat_toNat, hx, ob_s, q_NextAverage, hn, Bool.not_true, oif_f, bltl hav, hav, bne_self_eq_false, j7_5]
    rw [wr1 (by omega)]
    obtain ⟨b1, b2, _⟩ := nx_in he h2 hk
    exact hag (n - 1) _ (by omega) ⟨i + 1, nx e cur l[i], rfl, by omega, by simp [avOk, b1, b2], pre ++ [nx e cur l[i]], by simp; omega, by rw [h4]; simp⟩
  · have : i = l.length := by omega
    subst this
    rw [ltn, oif_f]
    unfold j7_4
    exact ⟨true, law_3 hy, rfl⟩

theorem law_6 {d : Nat} {y : List Int} (hy : Bytes y) {e : Int × Int × Int × Int} {a : Int} {l : List Int} : j7_6 (d + 6) y (e, a, l) (aoV e a l) (aoV e a l) false = some true := by
  unfold j7_6
  rw [oif_f]
  unfold aoV
  cases he : elOk e with
  | false => simp only [Bool.false_and, Bool.and_false, Bool.true_and, Bool.false_eq_true, if_false, oif_f]; exact law_3 hy
  | true =>
  cases ha : avOk a with
  | false => simp only [Bool.false_and, Bool.and_false, Bool.true_and, Bool.false_eq_true, if_false, oif_f]; exact law_3 hy
  | true =>
  cases hl : lnsOk l with
  | false => simp only [Bool.false_and, Bool.and_false, Bool.true_and, Bool.false_eq_true, if_false, oif_f]; exact law_3 hy
  | true =>
  simp only [Bool.and_self, if_true, oif_t]
  exact Ok.val (law_loop hy he ha hl)

theorem law_7 {d : Nat} {y : List Int} (hy : Bytes y) : j7_7 (d + 7) y false = some true := by
  unfold j7_7
  obtain ⟨⟨e, a, l⟩, h1, h2⟩ := p_DrawAverageOver (d := d + 2) hy
  simp only at h2
  have s1 : (aoV e a l).1.length ≤ 100 := by
    unfold aoV; split
    · rw [avgL_len]; exact h2
    · simp
  simp only [oif_f, h1, ob_s, q_AverageOver (show l.length < 4194304 by omega), q_sAverageOver (show l.length < 4194304 by omega), beq_self_eq_true, Bool.not_true, q_sameInts (show (aoV e a l).1.length < 4194304 by omega)]
  exact law_6 (d := d + 1) hy

theorem law_main {d : Nat} {x y : List Int} (hx : Bytes x) (hy : Bytes y) : g7 (d + 8) x y = some true := by
  rw [e7]
  obtain ⟨b, hb⟩ := q_big (d := d + 6) (x := x) (y := y)
  rw [hb, ob_s]
  cases b with
  | true => rfl
  | false =>
  obtain ⟨⟨e, a, n⟩, h1, _⟩ := p_DrawNextAverage (d := d + 2) hx
  simp only [oif_f, h1, ob_s, q_NextAverage, q_sNextAverage, beq_self_eq_true, Bool.not_true, bne_self_eq_false, q_IsEarly, q_sIsEarly]
  unfold j7_8
  rw [oif_f]
  unfold naV
  cases he : elOk e with
  | false => simp only [Bool.false_and, Bool.and_false, Bool.true_and, Bool.false_eq_true, if_false, oif_f]; exact law_7 hy
  | true =>
  cases ha : avOk a with
  | false => simp only [Bool.false_and, Bool.and_false, Bool.true_and, Bool.false_eq_true, if_false, oif_f]; exact law_7 hy
  | true =>
  cases hn : lnOk n with
  | false => simp only [Bool.false_and, Bool.and_false, Bool.true_and, Bool.false_eq_true, if_false, oif_f]; exact law_7 hy
  | true =>
  simp only [Bool.and_self, if_true, oif_t]
  obtain ⟨b1, b2, _, _, b5, b6⟩ := nx_in he ha hn
  simp only [lnOk, decide_eq_true_eq] at hn
  rw [wr (n := 256 * n) (by omega) (by omega), decide_eq_false (show ¬ nx e a n < 0 by omega), oif_f, decide_eq_false (show ¬ nx e a n > 15360 by omega), oif_f]
  have fin := law_7 (d := d) hy
  by_cases h3 : a ≤ 256 * n
  · obtain ⟨c1, c2⟩ := b5 h3
    rw [decide_eq_true h3, oif_t, decide_eq_false (show ¬ nx e a n < a by omega), oif_f, decide_eq_false (show ¬ nx e a n > 256 * n by omega), oif_f]
    by_cases h4 : a ≥ 256 * n
    · obtain ⟨c3, c4⟩ := b6 h4
      rw [decide_eq_true h4, oif_t, decide_eq_false (show ¬ nx e a n > a by omega), oif_f, decide_eq_false (show ¬ nx e a n < 256 * n by omega)]
      exact fin
    · rw [decide_eq_false h4, oif_f]; exact fin
  · rw [decide_eq_false h3, oif_f]
    have h4 : a ≥ 256 * n := by omega
    obtain ⟨c3, c4⟩ := b6 h4
    rw [decide_eq_true h4, oif_t, decide_eq_false (show ¬ nx e a n > a by omega), oif_f, decide_eq_false (show ¬ nx e a n < 256 * n by omega)]
    exact fin

theorem lawOk : LawOk Try.prog pvAnn (8) 7 :=
  ⟨rfl, rfl, rfl, fun x y hx hy _ _ => ⟨(x, y), true, law_main (d := 0) hx hy, rfl, rfl⟩⟩

end Go.Proofs.Ytngofhppopgicaa
