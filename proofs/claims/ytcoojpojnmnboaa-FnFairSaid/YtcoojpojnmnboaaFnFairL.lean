/-
  The law FnFair by value.
  Conditions: bytes.
-/
import Derived.Test.YtcoojpojnmnboaaFnFairK
set_option linter.all false
namespace Go.Proofs.Ytcoojpojnmnboaa
open Go.Ev Go.Pv

theorem oif_skip {b : Bool} {a : Option Bool} (h : a = some true) : oif b (some true) a = some true := by
  cases b
  · exact h
  · rfl

theorem sum_le : ∀ {a b : List Int}, a.length = b.length → (∀ i, i < a.length → a.getD i 0 ≤ b.getD i 0) → a.sum ≤ b.sum ∧ (b.sum ≤ a.sum → a = b)
  | [], [], _, _ => ⟨Int.le_refl _, fun _ => rfl⟩
  | [], _ :: _, h, _ => by simp at h
  | _ :: _, [], h, _ => by simp at h
  | x :: a, y :: b, h, g => by
    have h0 : x ≤ y := by simpa using g 0 (by simp)
    obtain ⟨i1, i2⟩ := sum_le (a := a) (b := b) (by simpa using h) (fun i hi => by simpa using g (i + 1) (by simpa using hi))
    simp only [List.sum_cons]
    refine ⟨by omega, fun e => ?_⟩
    rw [i2 (by omega), show x = y by omega]

theorem sum_set1 {s : List Int} {j : Nat} (h : j < s.length) : (s.set j (s.getD j 0 + 1)).sum = s.sum + 1 := by
  rw [sum_set h]; omega

/-- Shares that differ by one at most from a level. -/
def evenP (l s : List Int) (h : Int) (t : Nat) : Prop := s.length = l.length ∧ ∀ i, i < l.length → s.getD i 0 = if i < t then min (h + 1) (l.getD i 0) else min h (l.getD i 0)

theorem even_eq {l a b : List Int} {h g : Int} {t u : Nat} (ha : evenP l a h t) (hb : evenP l b g u) (hs : a.sum = b.sum) : a = b := by
  have le : ∀ {a b : List Int} {h g : Int} {t u : Nat}, evenP l a h t → evenP l b g u → (h < g ∨ h = g ∧ t ≤ u) → a.length = b.length ∧ ∀ i, i < a.length → a.getD i 0 ≤ b.getD i 0 := by
    intro a b h g t u ha hb hc
    refine ⟨by rw [ha.1, hb.1], fun i hi => ?_⟩
    rw [ha.2 i (by rw [← ha.1]; exact hi), hb.2 i (by rw [← ha.1]; exact hi)]
    by_cases c1 : i < t <;> by_cases c2 : i < u
    · rw [if_pos c1, if_pos c2]; omega
    · rw [if_pos c1, if_neg c2]; omega
    · rw [if_neg c1, if_pos c2]; omega
    · rw [if_neg c1, if_neg c2]; omega
  by_cases c : h < g ∨ h = g ∧ t ≤ u
  · obtain ⟨e, f⟩ := le ha hb c
    exact (sum_le e f).2 (by omega)
  · obtain ⟨e, f⟩ := le hb ha (by omega)
    exact ((sum_le e f).2 (by omega)).symm

theorem best_one {l w sh : List Int} (hw : ∀ i, i < l.length → w.getD i 0 = 1) : ∀ (k i : Nat) (b : Int), i + k = l.length →
    (b = -1 ∧ (∀ m, m < i → ¬ sh.getD m 0 < l.getD m 0) ∨ ∃ j : Nat, b = (j : Int) ∧ j < i ∧ sh.getD j 0 < l.getD j 0 ∧ ∀ m, m < i → sh.getD m 0 < l.getD m 0 → sh.getD j 0 ≤ sh.getD m 0 ∧ (sh.getD m 0 = sh.getD j 0 → j ≤ m)) →
    (bestF l w sh k i b = -1 ∧ (∀ m, m < l.length → ¬ sh.getD m 0 < l.getD m 0) ∨ ∃ j : Nat, bestF l w sh k i b = (j : Int) ∧ j < l.length ∧ sh.getD j 0 < l.getD j 0 ∧ ∀ m, m < l.length → sh.getD m 0 < l.getD m 0 → sh.getD j 0 ≤ sh.getD m 0 ∧ (sh.getD m 0 = sh.getD j 0 → j ≤ m))
  | 0, i, b, hi, h => by
    rw [Nat.add_zero] at hi; subst hi; exact h
  | k + 1, i, b, hi, h => by
    simp only [bestF]
    refine best_one hw k (i + 1) _ (by omega) ?_
    by_cases c1 : sh.getD i 0 < l.getD i 0
    · rw [if_pos c1]
      rcases h with ⟨rfl, h⟩ | ⟨j, rfl, h1, h2, h3⟩
      · rw [if_pos (by omega)]
        refine .inr ⟨i, rfl, by omega, c1, fun m hm hc => ?_⟩
        rcases Nat.lt_or_ge m i with g | g
        · exact absurd hc (h m g)
        · have : m = i := by omega
          subst this; exact ⟨Int.le_refl _, fun _ => Nat.le_refl _⟩
      · rw [if_neg (by omega), ofNat_toNat, hw i (by omega), hw j (by omega), Int.mul_one, Int.mul_one]
        by_cases c2 : sh.getD i 0 + 1 < sh.getD j 0 + 1
        · rw [if_pos c2]
          refine .inr ⟨i, rfl, by omega, c1, fun m hm hc => ?_⟩
          rcases Nat.lt_or_ge m i with g | g
          · have := h3 m g hc; exact ⟨by omega, fun e => by omega⟩
          · have : m = i := by omega
            subst this; exact ⟨Int.le_refl _, fun _ => Nat.le_refl _⟩
        · rw [if_neg c2]
          refine .inr ⟨j, rfl, by omega, h2, fun m hm hc => ?_⟩
          rcases Nat.lt_or_ge m i with g | g
          · exact h3 m g hc
          · have : m = i := by omega
            subst this; exact ⟨by omega, fun _ => by omega⟩
    · rw [if_neg c1]
      rcases h with ⟨rfl, h⟩ | ⟨j, rfl, h1, h2, h3⟩
      · refine .inl ⟨rfl, fun m hm => ?_⟩
        rcases Nat.lt_or_ge m i with g | g
        · exact h m g
        · have : m = i := by omega
          subst this; exact c1
      · refine .inr ⟨j, rfl, by omega, h2, fun m hm hc => ?_⟩
        rcases Nat.lt_or_ge m i with g | g
        · exact h3 m g hc
        · have : m = i := by omega
          subst this; exact absurd hc c1

theorem even_step {l s : List Int} {h : Int} {t j : Nat} (he : evenP l s h t) (hj : j < l.length) (h2 : s.getD j 0 < l.getD j 0) (h3 : ∀ m, m < l.length → s.getD m 0 < l.getD m 0 → s.getD j 0 ≤ s.getD m 0 ∧ (s.getD m 0 = s.getD j 0 → j ≤ m)) : ∃ h' t', evenP l (s.set j (s.getD j 0 + 1)) h' t' := by
  have ej := he.2 j hj
  by_cases c : j < t
  · rw [if_pos c] at ej
    refine ⟨h + 1, j + 1, by rw [List.length_set]; exact he.1, fun i hi => ?_⟩
    rw [gd_set (by rw [he.1]; exact hj)]
    have ei := he.2 i hi
    have g := h3 i hi
    by_cases c1 : i = j
    · rw [if_pos c1, if_pos (by omega)]; subst c1; omega
    · rw [if_neg c1]
      by_cases c2 : i < t
      · rw [if_pos c2] at ei
        by_cases c3 : i < j + 1
        · rw [if_pos c3]
          by_cases c4 : s.getD i 0 < l.getD i 0
          · have := g c4; omega
          · omega
        · rw [if_neg c3]; omega
      · rw [if_neg c2] at ei
        rw [if_neg (by omega)]
        by_cases c4 : s.getD i 0 < l.getD i 0
        · have := g c4; omega
        · omega
  · rw [if_neg c] at ej
    refine ⟨h, j + 1, by rw [List.length_set]; exact he.1, fun i hi => ?_⟩
    rw [gd_set (by rw [he.1]; exact hj)]
    have ei := he.2 i hi
    have g := h3 i hi
    by_cases c1 : i = j
    · rw [if_pos c1, if_pos (by omega)]; subst c1; omega
    · rw [if_neg c1]
      by_cases c2 : i < t
      · rw [if_pos c2] at ei; rw [if_pos (by omega)]; exact ei
      · rw [if_neg c2] at ei
        by_cases c3 : i < j + 1
        · rw [if_pos c3]
          by_cases c4 : s.getD i 0 < l.getD i 0
          · have := g c4; omega
          · omega
        · rw [if_neg c3]; exact ei

theorem best_no {l w sh : List Int} : ∀ (k i : Nat) (b : Int), i + k = l.length → (b < 0 → ∀ m, m < i → ¬ sh.getD m 0 < l.getD m 0) → bestF l w sh k i b < 0 → ∀ m, m < l.length → ¬ sh.getD m 0 < l.getD m 0
  | 0, i, b, hi, h, hb => by
    rw [Nat.add_zero] at hi; subst hi; exact h hb
  | k + 1, i, b, hi, h, hb => by
    simp only [bestF] at hb
    refine best_no k (i + 1) _ (by omega) (fun hc m hm => ?_) hb
    by_cases c1 : sh.getD i 0 < l.getD i 0
    · rw [if_pos c1] at hc
      by_cases c2 : b < 0
      · rw [if_pos c2] at hc; omega
      · rw [if_neg c2] at hc
        split at hc <;> omega
    · rw [if_neg c1] at hc
      rcases Nat.lt_or_ge m i with g | g
      · exact h hc m g
      · have : m = i := by omega
        subst this; exact c1

theorem full_eq {l s : List Int} (h : sOk l s) (g : ∀ m, m < l.length → ¬ s.getD m 0 < l.getD m 0) : s = l :=
  (sum_le h.1 (fun i hi => (h.2 i (by rw [← h.1]; exact hi)).2)).2 ((sum_le h.1.symm (fun i hi => by have := g i hi; omega)).1)

theorem wsF_sum {l w : List Int} : ∀ (n : Nat) (s : List Int), sOk l s → (wsF l w n s).sum = min (s.sum + n) l.sum
  | 0, s, h => by
    have := (sum_le h.1 (fun i hi => (h.2 i (by rw [← h.1]; exact hi)).2)).1
    simp only [wsF]; omega
  | n + 1, s, h => by
    simp only [wsF]
    rcases best_in (w := w) l.length 0 (-1) (l := l) (sh := s) (.inl rfl) with e | ⟨j, e, h1, h2⟩
    · rw [if_pos (by omega)]
      rw [full_eq h (best_no (w := w) l.length 0 (-1) (by omega) (fun _ m hm => by omega) (by omega))]; omega
    · rw [e, if_neg (by omega), ofNat_toNat, wsF_sum n _ (sOk_add h (by omega) h2), sum_set1 (by rw [h.1]; omega)]; omega

theorem wsF_even {l w : List Int} (hw : ∀ i, i < l.length → w.getD i 0 = 1) : ∀ (n : Nat) (s : List Int), (∃ h t, evenP l s h t) → ∃ h t, evenP l (wsF l w n s) h t
  | 0, s, h => h
  | n + 1, s, h => by
    simp only [wsF]
    rcases best_one hw l.length 0 (-1) (sh := s) (by omega) (.inl ⟨rfl, fun m hm => by omega⟩) with ⟨e, _⟩ | ⟨j, e, h1, h2, h3⟩
    · rw [if_pos (by omega)]; exact h
    · rw [e, if_neg (by omega), ofNat_toNat]
      obtain ⟨hh, t, he⟩ := h
      exact wsF_even hw n _ (even_step he h1 h2 h3)

theorem give_even {h : Int} : ∀ (l : List Int) (r : Int), ∃ t, evenP l (giveF h r l) h t
  | [], r => ⟨0, rfl, fun i hi => by simp at hi⟩
  | a :: l, r => by
    by_cases c : r > 0 ∧ h < a
    · obtain ⟨t, e1, e2⟩ := give_even l (r - 1)
      refine ⟨t + 1, by simp [giveF_len], fun i hi => ?_⟩
      simp only [giveF]; rw [if_pos c]
      cases i with
      | zero => rw [if_pos (by omega)]; simp; omega
      | succ i =>
        have := e2 i (by simpa using hi)
        simp only [List.getD_cons_succ]; rw [this]
        by_cases c2 : i < t
        · rw [if_pos c2, if_pos (by omega)]
        · rw [if_neg c2, if_neg (by omega)]
    · obtain ⟨t, e1, e2⟩ := give_even l r
      by_cases cr : r > 0
      · refine ⟨t + 1, by simp [giveF_len], fun i hi => ?_⟩
        simp only [giveF]; rw [if_neg c]
        cases i with
        | zero => rw [if_pos (by omega)]; simp; omega
        | succ i =>
          have := e2 i (by simpa using hi)
          simp only [List.getD_cons_succ]; rw [this]
          by_cases c2 : i < t
          · rw [if_pos c2, if_pos (by omega)]
          · rw [if_neg c2, if_neg (by omega)]
      · have z : ∀ (m : List Int) (i : Nat), i < m.length → (giveF h r m).getD i 0 = min h (m.getD i 0) := by
          intro m
          induction m with
          | nil => intro i hi; simp at hi
          | cons b m ih =>
            intro i hi
            simp only [giveF]; rw [if_neg (fun h => cr h.1)]
            cases i with
            | zero => simp
            | succ i => simp only [List.getD_cons_succ]; exact ih i (by simpa using hi)
        exact ⟨0, giveF_len, fun i hi => by rw [if_neg (by omega)]; exact z _ i hi⟩

theorem give_sum {h : Int} : ∀ (l : List Int) (r : Int), 0 ≤ r → (giveF h r l).sum = (lvl h l).sum + min r ((lvl (h + 1) l).sum - (lvl h l).sum)
  | [], r, h0 => by simp [giveF, lvl]; omega
  | a :: l, r, h0 => by
    have mono := lvl_le (show h ≤ h + 1 by omega) l
    simp only [giveF]
    by_cases c : r > 0 ∧ h < a
    · have := give_sum (h := h) l (r - 1) (by omega)
      rw [if_pos c]
      simp only [lvl, List.map_cons, List.sum_cons] at this mono ⊢
      rw [this]; omega
    · have := give_sum (h := h) l r h0
      rw [if_neg c]
      simp only [lvl, List.map_cons, List.sum_cons] at this mono ⊢
      rw [this]; omega

/-- What is known of fair shares. -/
theorem fs_ok {l : List Int} {c : Int} (hs : shOk l = true) (hc : 0 ≤ c) : (∃ h t, 0 ≤ h ∧ evenP l (giveF (levelV l c) (c - (lvl (levelV l c) l).sum) l) h t) ∧ (giveF (levelV l c) (c - (lvl (levelV l c) l).sum) l).sum = min c l.sum := by
  obtain ⟨s1, s2, s3⟩ := sh_in hs
  obtain ⟨⟨v1, v2⟩, v3, v4⟩ := level_ok (fun x hx => (s1 x hx).1) hc
  generalize levelV l c = L at v1 v2 v3 v4 ⊢
  obtain ⟨t, he⟩ := give_even (h := L) l (c - (lvl L l).sum)
  refine ⟨⟨L, t, v1, he⟩, ?_⟩
  have top : ∀ h : Int, 1000000 ≤ h → lvl h l = l := fun h hh => by
    have : ∀ (m : List Int), (∀ x ∈ m, x ≤ h) → lvl h m = m := by
      intro m
      induction m with
      | nil => intro _; rfl
      | cons a m ih =>
        intro g
        have ga := g a (by simp)
        have := ih (fun x hx => g x (by simp [hx]))
        simp only [lvl, List.map_cons] at this ⊢
        rw [this, show min h a = a by omega]
    exact this l fun x hx => by have := s1 x hx; omega
  have lt : (lvl (L + 1) l).sum ≤ l.sum := by
    have := lvl_le (show L + 1 ≤ 3000000 by omega) l
    rwa [top 3000000 (by omega)] at this
  have mono := lvl_le (show L ≤ L + 1 by omega) l
  rw [give_sum l _ (by omega)]
  rcases Int.lt_or_le L 2097151 with g | g
  · have := v4 (L + 1) (by omega) (by omega); omega
  · rw [top L (by omega)] at v3 mono ⊢
    rw [top (L + 1) (by omega)] at mono ⊢; omega

theorem ls_no {l sh : List Int} : ∀ (k i : Nat) (b : Int), i + k = l.length → (b < 0 → ∀ m, m < i → ¬ sh.getD m 0 < l.getD m 0) → lsF l sh k i b < 0 → ∀ m, m < l.length → ¬ sh.getD m 0 < l.getD m 0
  | 0, i, b, hi, h, hb => by
    rw [Nat.add_zero] at hi; subst hi; exact h hb
  | k + 1, i, b, hi, h, hb => by
    simp only [lsF] at hb
    refine ls_no k (i + 1) _ (by omega) (fun hc m hm => ?_) hb
    by_cases c1 : sh.getD i 0 < l.getD i 0
    · rw [if_pos c1] at hc
      by_cases c2 : b < 0
      · rw [if_pos c2] at hc; omega
      · rw [if_neg c2] at hc
        split at hc <;> omega
    · rw [if_neg c1] at hc
      rcases Nat.lt_or_ge m i with g | g
      · exact h hc m g
      · have : m = i := by omega
        subst this; exact c1

theorem law_0 {d : Nat} {l : List Int} {c : Int} (hl : l.length ≤ 41) : j8_0 (d + 6) (l, c) (fsV l c) (fsV l c) false = some true := by
  unfold j8_0
  by_cases hk : (shOk l && cpOk c) = true
  case neg =>
    have e : fsV l c = ([], false) := by unfold fsV; rw [if_neg hk]
    rw [e]; simp only [Bool.not_false, oif_t]
  have e : fsV l c = (giveF (levelV l c) (c - (lvl (levelV l c) l).sum) l, true) := by unfold fsV; rw [if_pos hk]
  simp only [Bool.and_eq_true] at hk
  have hc := hk.2
  simp only [cpOk, decide_eq_true_eq] at hc
  obtain ⟨s1, s2, s3⟩ := sh_in hk.1
  obtain ⟨⟨h, t, h0, he⟩, hsum⟩ := fs_ok hk.1 hc.1
  rw [e]
  generalize giveF (levelV l c) (c - (lvl (levelV l c) l).sum) l = s at he hsum ⊢
  have hin : ∀ i, i < l.length → 0 ≤ s.getD i 0 ∧ s.getD i 0 ≤ l.getD i 0 ∧ s.getD i 0 ≤ h + 1 ∧ (s.getD i 0 < l.getD i 0 → h ≤ s.getD i 0) := fun i hi => by
    have a := gd_in s1 hi
    rw [he.2 i hi]
    by_cases c1 : i < t
    · rw [if_pos c1]; omega
    · rw [if_neg c1]; omega
  have sok : sOk l s := ⟨he.1, fun i hi => ⟨(hin i hi).1, (hin i hi).2.1⟩⟩
  have sall : ∀ x ∈ s, 0 ≤ x ∧ x ≤ 1000000 := fun x hx => by
    obtain ⟨i, hi, rfl⟩ := List.getElem_of_mem hx
    have e2 : s.getD i 0 = s[i] := by simp [List.getD, List.getElem?_eq_getElem hi]
    have a := hin i (by rw [← he.1]; exact hi)
    have b := gd_in s1 (show i < l.length by rw [← he.1]; exact hi)
    omega
  have shs : shOk s = true := by
    simp only [shOk, Bool.and_eq_true, List.all_eq_true, decide_eq_true_eq]
    have := he.1
    exact ⟨sall, by omega, by omega⟩
  have pk : pairOk l s = true := by
    unfold pairOk
    rw [hk.1, shs, decide_eq_true (by rw [he.1])]; rfl
  have ei : isV l s c = (true, true) := by
    unfold isV
    rw [pk, hk.2, if_pos (by rfl), @decide_eq_true _ (Classical.propDecidable _) ⟨by omega, fun i hi => ⟨(hin i hi).2.1, fun j hj g => by have := (hin j hj).2.2.1; have := (hin i hi).2.2.2 g; omega⟩⟩]
  have ls : s.length < 4194304 := by rw [he.1]; omega
  have sq := sum_in sall
  have lq := sum_in s1
  have hsl := he.1
  simp only [Bool.not_true, oif_f, q_IsFairShare (show l.length < 4194304 by omega) ls, q_LeastServed (show l.length < 4194304 by omega) ls, q_sLeastServed (show l.length < 4194304 by omega) ls, ob_s, ei, oif_t, beq_self_eq_true]
  cases hv : (lsV l s).2 with
  | true => rw [oif_t]
  | false =>
    rw [oif_f, q_qSum ls (fun x hx => (sall x hx).1) (by omega), ob_s, q_qSum (by omega) (fun x hx => (s1 x hx).1) (by omega), ob_s]
    have : s = l := by
      refine full_eq sok (ls_no l.length 0 (-1) (by omega) (fun _ m hm => by omega) ?_)
      unfold lsV lsR at hv
      rw [if_pos pk] at hv
      split at hv
      · assumption
      · simp at hv
    rw [this, beq_self_eq_true]

theorem law_1 {d : Nat} {l q w v : List Int} {c n : Int} (hl : l.length ≤ 41) (hq : wsOk q w n = true) (hv : v = List.replicate q.length 1) : j8_1 (d + 6) (l, c) (fsV l c) (fsV l c) (q, w, n) false v = some true := by
  have fin := law_0 (d := d) (c := c) hl
  unfold wsOk at hq
  simp only [Bool.and_eq_true, decide_eq_true_eq, List.all_eq_true] at hq
  obtain ⟨hs, h1, hw1, h2, h3⟩ := hq
  obtain ⟨s1, s2, s3⟩ := sh_in hs
  have vl : v.length = q.length := by rw [hv, List.length_replicate]
  have va : ∀ x ∈ v, x = 1 := fun x hx => by rw [hv] at hx; exact List.eq_of_mem_replicate hx
  have vg : ∀ i, i < q.length → v.getD i 0 = 1 := fun i hi => by
    rw [hv]; simp [List.getD, List.getElem?_replicate, hi]
  have ew : wsV q v n = (wsF q v n.toNat (List.replicate q.length 0), true) := by
    unfold wsV
    rw [if_pos]
    unfold wsOk
    rw [hs, decide_eq_true (by omega), decide_eq_true h2, decide_eq_true h3]
    have : (v.all fun x => decide (1 ≤ x ∧ x ≤ 100)) = true := by
      rw [List.all_eq_true]; intro x hx; rw [va x hx]; rfl
    rw [this]; rfl
  have hcp : cpOk n = true := by simp only [cpOk, decide_eq_true_eq]; omega
  have ef : fsV q n = (giveF (levelV q n) (n - (lvl (levelV q n) q).sum) q, true) := by unfold fsV; rw [hs, hcp, if_pos (by rfl)]
  obtain ⟨⟨h, t, h0, he⟩, hsum⟩ := fs_ok hs h2.1
  have z := sOk_zero s1
  have zs : (List.replicate q.length (0 : Int)).sum = 0 := by simp
  have zg : ∀ i, i < q.length → (List.replicate q.length (0 : Int)).getD i 0 = 0 := fun i hi => by simp [List.getD, List.getElem?_replicate, hi]
  obtain ⟨h', t', he'⟩ := wsF_even vg n.toNat (List.replicate q.length 0) ⟨0, 0, by simp, fun i hi => by rw [zg i hi, if_neg (by omega)]; have := gd_in s1 hi; omega⟩
  have hsum' := wsF_sum (w := v) n.toNat _ z
  have same : wsF q v n.toNat (List.replicate q.length 0) = giveF (levelV q n) (n - (lvl (levelV q n) q).sum) q := even_eq he' he (by rw [hsum', hsum, zs]; omega)
  unfold j8_1
  simp only [q_WeightedShares (show q.length < 4194304 by omega) (show v.length < 4194304 by omega), q_FairShares (show q.length < 4194304 by omega), ob_s, ew, ef, same, Bool.not_true, oif_f]
  rw [q_qInts (by rw [giveF_len]; omega), ob_s, Bool.not_true, oif_f]
  exact fin

theorem ones_it {d : Nat} {q w : List Int} {n : Int} {K : List Int → Option Bool} (hq : q.length ≤ 40) : ∀ (k fuel i : Nat), i + k = q.length → k < fuel → iterP (l8_1 d (q, w, n) K) fuel ((i : Int), List.replicate i 1 ++ List.replicate k 0) = K (List.replicate q.length 1) := by
  intro k
  induction k with
  | zero =>
    intro fuel i g1 g2
    cases fuel with
    | zero => omega
    | succ f =>
      have : i = q.length := by omega
      subst this
      simp only [iterP, l8_1, l8_1_b, List.length_replicate, ofNat_toNat]
      rw [ltn, oif_f, List.replicate_zero, List.append_nil]
  | succ k ih =>
    intro fuel i g1 g2
    cases fuel with
    | zero => omega
    | succ f =>
      have hx : (List.replicate i (1 : Int) ++ List.replicate (k + 1) 0)[i]? = some 0 := by
        rw [List.getElem?_append_right (by simp)]; simp
      have hset : (List.replicate i (1 : Int) ++ List.replicate (k + 1) 0).set i 1 = List.replicate (i + 1) 1 ++ List.replicate k 0 := by
        rw [List.set_append_right _ _ (by simp), List.replicate_succ' (n := i), List.append_assoc]; simp [List.replicate_succ]
      simp only [iterP, l8_1, l8_1_b, List.length_replicate, ofNat_toNat, nn, oif_t]
      rw [decide_eq_true (by omega), oif_t, bltl hx, oif_t, hx, ob_s, wr1 (by omega), hset]
      exact ih f (i + 1) (by omega) (by omega)

theorem law_2 {d : Nat} {l q w : List Int} {c n : Int} (hl : l.length ≤ 41) (hq : wsOk q w n = true) : j8_2 (d + 6) (l, c) (fsV l c) (fsV l c) (q, w, n) false = some true := by
  have hk := hq
  unfold wsOk at hk
  simp only [Bool.and_eq_true] at hk
  have s3 := (sh_in hk.1).2.2
  have hrm : Nat.ble (q.length * 8) roomMax = true := by have := room (n := q.length) (m := 0) (w := 8) (by omega); rwa [Nat.add_zero] at this
  unfold j8_2
  simp only [nn, oif_t, ofNat_toNat, ble_self, hrm, Bool.and_self]
  have := ones_it (d := d + 6) (w := w) (n := n) (K := j8_1 (d + 6) (l, c) (fsV l c) (fsV l c) (q, w, n) false) s3 q.length fuelN 0 (by omega) (by rw [fuelN_eq]; omega)
  rw [List.replicate_zero, List.nil_append] at this
  exact this.trans (law_1 hl hq rfl)

theorem le_it {d : Nat} {q w s : List Int} {n : Int} {b : Bool} {K : Bool → Option Bool} (hs : sOk q s) (hq : q.length ≤ 40) : ∀ (k fuel i : Nat), i + k = q.length → k < fuel → iterP (l8_0 d (q, w, n) (s, b) K) fuel (false, (i : Int)) = K false := by
  intro k
  induction k with
  | zero =>
    intro fuel i g1 g2
    cases fuel with
    | zero => omega
    | succ f =>
      have : s.length = i := by rw [hs.1]; omega
      simp only [iterP, l8_0, l8_0_b]
      rw [this, ltn, oif_f]
  | succ k ih =>
    intro fuel i g1 g2
    cases fuel with
    | zero => omega
    | succ f =>
      have hx : s[i]? = some (s.getD i 0) := gd (by rw [hs.1]; omega)
      have hy : q[i]? = some (q.getD i 0) := gd (by omega)
      have := (hs.2 i (by omega)).2
      simp only [iterP, l8_0, l8_0_b, ltl hx, nn, oif_t, ofNat_toNat, bltl hx, hx, bltl hy, hy, ob_s]
      rw [decide_eq_false (by omega), oif_f, wr1 (by omega)]
      exact ih f (i + 1) (by omega) (by omega)

theorem law_4 {d : Nat} {l q w : List Int} {c n : Int} (hl : l.length ≤ 41) : j8_4 (d + 6) (l, c) (fsV l c) (fsV l c) (q, w, n) (wsV q w n) (wsV q w n) false = some true := by
  unfold j8_4
  rw [oif_f]
  by_cases hq : wsOk q w n = true
  case neg =>
    have e : wsV q w n = ([], false) := by unfold wsV; rw [if_neg hq]
    rw [e]; simp only [oif_f]; exact law_0 hl
  have e : wsV q w n = (wsF q w n.toNat (List.replicate q.length 0), true) := by unfold wsV; rw [if_pos hq]
  have fin := law_2 (d := d) (c := c) hl hq
  have hk := hq
  unfold wsOk at hk
  simp only [Bool.and_eq_true, decide_eq_true_eq] at hk
  obtain ⟨hs, h1, hw1, h2, h3⟩ := hk
  obtain ⟨s1, s2, s3⟩ := sh_in hs
  have z := sOk_zero s1
  have ok := wsF_ok (w := w) n.toNat _ z
  have sm := wsF_sum (w := w) n.toNat _ z
  rw [show (List.replicate q.length (0 : Int)).sum = 0 by simp] at sm
  have lq := sum_in s1
  rw [e]
  generalize wsF q w n.toNat (List.replicate q.length 0) = s at ok sm ⊢
  have hsl := ok.1
  have s0 : ∀ x ∈ s, 0 ≤ x := fun x hx => by
    obtain ⟨i, hi, rfl⟩ := List.getElem_of_mem hx
    have e2 : s.getD i 0 = s[i] := by simp [List.getD, List.getElem?_eq_getElem hi]
    have := ok.2 i (by omega); omega
  have last : j8_3 (d + 6) (l, c) (fsV l c) (fsV l c) (q, w, n) (s, true) false = some true := by
    unfold j8_3
    rw [oif_f]
    exact (le_it ok s3 q.length fuelN 0 (by omega) (by rw [fuelN_eq]; omega)).trans fin
  simp only [oif_t]
  rw [q_qSum (by omega) s0 (by omega), ob_s, decide_eq_false (show ¬ s.sum > n by omega)]
  by_cases c1 : s.sum = n
  · rw [show (s.sum != n) = false by rw [bne_eq_false_iff_eq]; exact c1, oif_f]; exact last
  · rw [show (s.sum != n) = true by rw [bne_iff_ne]; exact c1, oif_t, q_qSum (by omega) (fun x hx => (s1 x hx).1) (by omega), ob_s, show (s.sum != q.sum) = false by rw [bne_eq_false_iff_eq]; omega, oif_f]; exact last

theorem law_main {d : Nat} {x y : List Int} (hx : Bytes x) (hy : Bytes y) : g8 (d + 7) x y = some true := by
  rw [e8]
  refine oif_skip ?_
  obtain ⟨⟨l, c⟩, h1, a1⟩ := p_DrawFairShares (d := d + 1) hx
  obtain ⟨⟨q, w, n⟩, h2, a2, a3⟩ := p_DrawWeightedShares (d := d + 1) hy
  obtain ⟨⟨s, t, m⟩, h3, a4, a5⟩ := p_DrawIsFairShare (d := d + 1) hy
  obtain ⟨⟨u, v⟩, h4, a6, a7⟩ := p_DrawLeastServed (d := d) hy
  simp only at a1 a2 a3 a4 a5 a6 a7
  have f1 := fsV_len (l := l) (c := c)
  have f2 : (wsV q w n).1.length < 4194304 := by
    unfold wsV; split
    · rename_i hk
      unfold wsOk at hk
      simp only [Bool.and_eq_true] at hk
      have := (wsF_ok (w := w) n.toNat _ (sOk_zero (sh_in hk.1).1)).1
      simp only; omega
    · simp
  simp only [h1, h2, h3, h4, ob_s, q_FairShares (show l.length < 4194304 by omega), q_sFairShares (show l.length < 4194304 by omega), q_WeightedShares (show q.length < 4194304 by omega) (show w.length < 4194304 by omega), q_sWeightedShares (show q.length < 4194304 by omega) (show w.length < 4194304 by omega), q_IsFairShare (show s.length < 4194304 by omega) (show t.length < 4194304 by omega), q_sIsFairShare (show s.length < 4194304 by omega) (show t.length < 4194304 by omega), q_LeastServed (show u.length < 4194304 by omega) (show v.length < 4194304 by omega), q_sLeastServed (show u.length < 4194304 by omega) (show v.length < 4194304 by omega), beq_self_eq_true, Bool.not_true, oif_f, bne_self_eq_false, q_qInts (show (fsV l c).1.length < 4194304 by omega), q_qInts f2]
  exact law_4 a1

theorem lawOk : LawOk Try.prog pvAnn (7) 8 :=
  ⟨rfl, rfl, rfl, fun x y hx hy _ _ => ⟨(x, y), true, law_main (d := 0) hx hy, rfl, rfl⟩⟩

end Go.Proofs.Ytcoojpojnmnboaa
