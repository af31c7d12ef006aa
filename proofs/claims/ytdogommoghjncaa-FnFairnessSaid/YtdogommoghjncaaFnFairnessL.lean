/-
  The law FnFairness by value.
  Conditions: bytes.
-/
import Derived.Test.YtdogommoghjncaaFnFairnessK
set_option linter.all false
namespace Go.Proofs.Ytdogommoghjncaa
open Go.Ev Go.Pv

theorem zero_B : faB zeroFa := ⟨by simp [zeroFa], by simp [zeroFa], by simp [zeroFa]⟩

theorem row20 {f : Fa} (h : faV f = true) : ∀ q ∈ f.2.2.1, q.length ≤ 20 := by
  intro q hq
  obtain ⟨k, hk, rfl⟩ := List.mem_iff_getElem.1 hq
  have h1 := (faV_row h (List.getElem?_eq_getElem hk)).2.1
  have h2 := (baseV_in (faV_in h).1).2.2.2.1
  omega

theorem nf_B {n q l : Int} : faB (nfV n q l).1 := by
  unfold nfV
  split
  · rename_i h
    simp only [Bool.and_eq_true, decide_eq_true_eq] at h
    exact nfF_B h.1
  · exact zero_B

theorem tk_B {f : Fa} (hB : faB f) : faB (tkV f).1 := by
  unfold tkV
  cases h : faV f with
  | false => exact zero_B
  | true =>
    rw [Bool.true_and]
    cases he : emptyF f with
    | true => exact zero_B
    | false =>
      obtain ⟨x, hx, hT⟩ := take_some (TI_of hB h) he (n := fuelN) (by rw [fuelN_eq]; omega)
      rw [hx]
      exact TI_B hT.1

theorem pp_B {f : Fa} {p : Pk} (hB : faB f) : faB (ppV f p).1 := by
  unfold ppV
  split
  · rename_i h
    simp only [Bool.and_eq_true] at h
    have h20 := row20 h.1
    unfold putF
    simp only
    split
    · exact hB
    · refine ⟨by simp only [List.length_set]; exact hB.1, hB.2.1, fun q hq => ?_⟩
      rcases mem_setL hq with rfl | hq
      · have : (f.2.2.1.getD (flV p ((f.2.2.1.length : Nat) : Int)).toNat []).length ≤ 20 := by
          simp only [List.getD]
          cases hh : f.2.2.1[(flV p ((f.2.2.1.length : Nat) : Int)).toNat]? with
          | none => simp
          | some x => exact h20 x (List.mem_of_getElem? hh)
        simp only [List.length_append, List.length_singleton]; omega
      · exact hB.2.2 q hq
  · exact zero_B

theorem dfF_B {f : Fa} {n : Int} (hB : faB f) : faB (dfF f n) := by
  refine ⟨by unfold dfF; simp only [List.length_set]; exact hB.1, by unfold dfF; simp only [List.length_set]; exact hB.2.1, fun q hq => ?_⟩
  unfold dfF at hq
  rcases mem_setL hq with rfl | hq
  · simp
  · exact hB.2.2 q hq

theorem df_B {f : Fa} {n : Int} (hB : faB f) : faB (dfV f n).1 := by
  unfold dfV
  split
  · exact dfF_B hB
  · exact zero_B

theorem flat_set : ∀ {l : List (List Pk)} {k : Nat} {q r : List Pk}, l[k]? = some q → r.Sublist q → (l.set k r).flatten.Sublist l.flatten
  | [], k, q, r, h, _ => by simp at h
  | x :: l, 0, q, r, h, hs => by
    simp at h; subst h
    simp only [List.set_cons_zero, List.flatten_cons]
    exact List.Sublist.append hs (List.Sublist.refl _)
  | x :: l, k + 1, q, r, h, hs => by
    simp only [List.set_cons_succ, List.flatten_cons]
    exact List.Sublist.append (List.Sublist.refl _) (flat_set (by simpa using h) hs)

theorem df_good {f : Fa} {k : Nat} (h : faV f = true) (hk : k < f.2.2.1.length) : faV (dfF f (k : Int)) = true := by
  obtain ⟨b, a, o, p⟩ := faV_in h
  obtain ⟨h1, h2, h3, h4, h5, h6, h7, h8, h9⟩ := baseV_in b
  have hk2 : k < f.2.2.2.1.length := by omega
  have ht : (k : Int).toNat = k := Int.toNat_natCast k
  unfold faV
  simp only [Bool.and_eq_true]
  refine ⟨?_, ?_, ?_, ?_⟩
  · unfold baseV dfF
    simp only [List.length_set, decide_eq_true_eq]
    exact ⟨h1, h2, h3, h4, h5, h6, h7, h8, h9⟩
  · rw [allI_iff] at a ⊢
    intro i x hx
    unfold dfF at hx
    rw [ht] at hx
    rw [Nat.zero_add]
    by_cases hi : i = k
    · subst hi
      simp only [List.getElem?_set_self hk] at hx
      cases hx
      have hz : (dfF f (i : Int)).2.2.2.1.getD i 0 = 0 := by unfold dfF; rw [ht]; simp only [getD_set hk2, if_true]
      unfold rngS rowS
      rw [headC_nil, hz]
      simp only [Bool.and_eq_true, decide_eq_true_eq, List.all_nil, List.length_nil]
      unfold dfF
      exact ⟨by simp only; omega, by simp only; omega, trivial, rfl⟩
    · simp only at hx
      rw [List.getElem?_set_ne (by omega)] at hx
      have := a i x hx
      rw [Nat.zero_add] at this
      have hz : (dfF f (k : Int)).2.2.2.1.getD i 0 = f.2.2.2.1.getD i 0 := by unfold dfF; rw [ht]; simp only [getD_set hk2, if_neg (Ne.symm hi)]
      have hl : (dfF f (k : Int)).2.2.1.length = f.2.2.1.length := by unfold dfF; simp only [List.length_set]
      unfold rngS rowS at this ⊢
      rw [hz, hl]
      simp only [Bool.and_eq_true] at this ⊢
      refine ⟨this.1, this.2.1, this.2.2.1, ?_⟩
      have h3 := this.2.2.2
      cases x with
      | nil => rw [headC_nil] at h3 ⊢; rw [hz]; exact h3
      | cons y x =>
        rw [headC_cons] at h3 ⊢
        rw [hz]
        unfold dfF
        simp only
        by_cases hn : (k : Int) = f.2.2.2.2.1
        · rw [← hn, show ((i : Int) == (k : Int)) = false by simp; omega, Bool.and_false] at h3 ⊢
          exact h3
        · rw [if_neg hn]; exact h3
  · unfold openV dfF at *
    simp only
    by_cases hn : (k : Int) = f.2.2.2.2.1
    · rw [if_pos hn]; rfl
    · rw [if_neg hn, ht, show (f.2.2.1.set k []).getD f.2.2.2.2.1.toNat [] = f.2.2.1.getD f.2.2.2.2.1.toNat [] from by rw [getD_set hk, if_neg (by omega)]]
      exact o
  · rw [ap_iff] at p ⊢
    have hs : (dfF f (k : Int)).2.2.1.flatten.Sublist f.2.2.1.flatten := by
      unfold dfF; rw [ht]
      exact flat_set (List.getElem?_eq_getElem hk) (List.nil_sublist _)
    exact ⟨fun x hx => p.1 x (hs.mem hx), p.2.sublist (hs.map _)⟩

theorem law_0 {d : Nat} {y : List Int} (hy : Bytes y) : j3_0 (d + 10) y = some true := by
  unfold j3_0
  obtain ⟨⟨n, q, l⟩, h1, _⟩ := p_DrawNewFair (d := d + 6) hy
  obtain ⟨f, h2, h3⟩ := p_DrawTakeFair (d := d + 2) hy
  rw [h1, ob_s, q_NewFair, ob_s, q_sNewFair, ob_s, h2, ob_s, q_TakeFair h3, ob_s, q_sTakeFair h3, ob_s]
  simp only [beq_self_eq_true, Bool.and_self, oif_t]
  rw [q_pSameFair nf_B, ob_s, oif_t, q_pSameFair (tk_B h3), ob_s]

theorem sum_le_all : ∀ (l : List Int) (b : Int), (∀ x ∈ l, 0 ≤ x ∧ x ≤ b) → 0 ≤ l.sum ∧ l.sum ≤ b * (l.length : Int)
  | [], b, _ => by simp
  | x :: r, b, h => by
    have h1 := h x (by simp)
    have h2 := sum_le_all r b (fun y hy => h y (by simp [hy]))
    simp only [List.sum_cons, List.length_cons]
    rw [show ((r.length + 1 : Nat) : Int) = (r.length : Int) + 1 by omega, Int.mul_add]
    omega

theorem ceil_in {M Q : Int} (hM : 0 ≤ M) (hQ : 1 ≤ Q) : M ≤ (M + Q - 1) / Q * Q ∧ ((M + Q - 1) / Q > 0 → ((M + Q - 1) / Q - 1) * Q < M) ∧ 0 ≤ (M + Q - 1) / Q ∧ (M + Q - 1) / Q ≤ M := by
  have e1 := Int.mul_ediv_add_emod (M + Q - 1) Q
  have e2 := Int.emod_nonneg (M + Q - 1) (show Q ≠ 0 by omega)
  have e3 := Int.emod_lt_of_pos (M + Q - 1) (show 0 < Q by omega)
  have e0 := Int.ediv_nonneg (show 0 ≤ M + Q - 1 by omega) (show 0 ≤ Q by omega)
  rw [Int.mul_comm] at e1
  generalize hR : (M + Q - 1) / Q = R at e1 e0
  generalize (M + Q - 1) % Q = X at e1 e2 e3
  refine ⟨by omega, fun _ => ?_, e0, ?_⟩
  · rw [Int.sub_mul]; omega
  · by_cases hm : R ≤ M
    · exact hm
    · have h4 : (M + 1) * 1 ≤ R * 1 := by omega
      have h5 : (M + 1) * Q ≤ R * Q := Int.mul_le_mul_of_nonneg_right (by omega) (by omega)
      have h6 : M * 1 ≤ M * Q := Int.mul_le_mul_of_nonneg_left hQ hM
      rw [Int.add_mul] at h5
      have h7 : 1 * Q ≤ 1 * Q := Int.le_refl _
      rw [Int.one_mul] at h5
      have h8 : (M + 1) * Q = M * Q + Q := by rw [Int.add_mul, Int.one_mul]
      by_cases hM0 : M = 0
      · subst hM0; simp at h5; omega
      · have h9 : 1 * (Q - 1) ≤ M * (Q - 1) := Int.mul_le_mul_of_nonneg_right (by omega) (by omega)
        rw [Int.mul_sub, Int.mul_one] at h9
        omega

theorem law_1 {d : Nat} {y : List Int} (hy : Bytes y) {f : Fa} {n : Int} (h : faV f = true) (hn : flwIn f n = true) : j3_1 (d + 10) y (f, n) (rdV f n) (f.2.2.1.map szs, true) false = some true := by
  obtain ⟨k, q, dv, rfl, k1, k2, k3, k4, k5, k6, k7, k8, k9, k10⟩ := row_at h hn
  obtain ⟨h1, h2, _⟩ := baseV_in (faV_in h).1
  have e : rdV f (k : Int) = ((max 0 (szs q - dv) + f.1 - 1) / f.1, true) := by
    unfold rdV
    rw [h, hn, Int.toNat_natCast, getD_of k3, getD_of k4]; rfl
  rw [e]
  have hm : (f.2.2.1.map szs)[k]? = some (szs q) := by rw [List.getElem?_map, k3]; rfl
  unfold j3_1
  simp only [oif_f, nn, oif_t, ofNat_toNat, blt_of k2, k4, ob_s, List.length_map, blt_of k1, hm]
  obtain ⟨c1, c2, c3, c4⟩ := ceil_in (M := max 0 (szs q - dv)) (Q := f.1) (by omega) (by omega)
  generalize (max 0 (szs q - dv) + f.1 - 1) / f.1 = R at c1 c2 c3 c4
  have c5 : R * f.1 ≤ 30000 * 3000 := Int.mul_le_mul (by omega) (by omega) (by omega) (by omega)
  have c6 : 0 ≤ R * f.1 := Int.mul_nonneg c3 (by omega)
  rw [wr (n := R * f.1) (by omega) (by omega), wr (n := dv + R * f.1) (by omega) (by omega), decide_eq_false (by omega), oif_f]
  by_cases hR : R > 0
  · have c7 := c2 hR
    rw [decide_eq_true hR, oif_t, wr (n := R - 1) (by omega) (by omega)]
    have c8 : 0 ≤ (R - 1) * f.1 := Int.mul_nonneg (by omega) (by omega)
    rw [wr (n := (R - 1) * f.1) (by omega) (by omega), wr (n := dv + (R - 1) * f.1) (by omega) (by omega), decide_eq_false (by omega), oif_f]
    exact law_0 hy
  · rw [decide_eq_false hR, oif_f]
    exact law_0 hy

theorem law_3 {d : Nat} {y : List Int} (hy : Bytes y) : j3_3 (d + 10) y = some true := by
  unfold j3_3
  obtain ⟨⟨f, n⟩, h1, h2⟩ := p_DrawRoundsFor (d := d + 3) hy
  simp only at h2
  rw [h1, ob_s, q_RoundsFor (f := f) h2, ob_s, q_sRoundsFor (f := f) h2, ob_s, q_DropFlow (f := f) h2, ob_s, q_sDropFlow (f := f) h2, ob_s, beq_self_eq_true, Bool.not_true, oif_f, bne_self_eq_false, oif_f, beq_self_eq_true, Bool.not_true, oif_f, q_pSameFair (df_B h2), ob_s, Bool.not_true]
  unfold j3_2
  rw [oif_f]
  cases hc : faV f && flwIn f n with
  | false =>
    have : (rdV f n).2 = false := by unfold rdV; rw [hc]; rfl
    rw [this, oif_f]
    exact law_0 hy
  | true =>
    have hc' := hc
    simp only [Bool.and_eq_true] at hc'
    obtain ⟨hv, hn⟩ := hc'
    have e1 : (rdV f n).2 = true := by unfold rdV; rw [hc]; rfl
    have e2 : dfV f n = (dfF f n, true) := by unfold dfV; rw [hc]; rfl
    have e3 : blV f = (f.2.2.1.map szs, true) := by unfold blV; rw [hv]; rfl
    have L1 := law_1 (d := d) hy hv hn
    obtain ⟨k, q, dv, hkn, k1, k2, k3, k4, k5, k6, k7, k8, k9, k10⟩ := row_at hv hn
    subst hkn
    have hg := df_good hv k1
    obtain ⟨b1, b2, b3, b4, b5, b6, b7, b8, b9⟩ := baseV_in (faV_in hv).1
    have e4 : blV (dfF f (k : Int)) = ((f.2.2.1.map szs).set k 0, true) := by
      unfold blV; rw [hg, if_pos rfl]; unfold dfF
      simp only [Int.toNat_natCast]
      rw [List.map_set]; rfl
    have hm : (f.2.2.1.map szs)[k]? = some (szs q) := by rw [List.getElem?_map, k3]; rfl
    have hall : ∀ x ∈ f.2.2.1.map szs, 0 ≤ x ∧ x ≤ 30000 := by
      intro x hx
      obtain ⟨r, hr, rfl⟩ := List.mem_map.1 hx
      obtain ⟨i, hi, rfl⟩ := List.mem_iff_getElem.1 hr
      have hr := (faV_row hv (List.getElem?_eq_getElem hi)).2.2.1
      have h20 := row20 hv _ (List.getElem_mem hi)
      have s1 := szs_nonneg (l := f.2.2.1[i]) hr
      have s2 := szs_le _ hr
      omega
    have hlm : (f.2.2.1.map szs).length = f.2.2.1.length := List.length_map _
    have hall2 : ∀ x ∈ (f.2.2.1.map szs).set k 0, 0 ≤ x ∧ x ≤ 30000 := by
      intro x hx
      rcases List.mem_or_eq_of_mem_set hx with hx | rfl
      · exact hall x hx
      · omega
    have s1 := sum_le_all _ _ hall
    have s2 := sum_le_all _ _ hall2
    rw [List.length_set, hlm] at s2
    rw [hlm] at s1
    rw [e1, oif_t, e2]
    simp only
    rw [q_BacklogOf h2, ob_s, q_BacklogOf (dfF_B h2), ob_s, e3, e4]
    simp only [Bool.not_true, oif_f, List.length_set, hlm, bne_self_eq_false, nn, oif_t, ofNat_toNat, blt_of k1]
    rw [List.getElem?_set_self (by rw [hlm]; exact k1), ob_s, bne_self_eq_false, oif_f, q_pSum (by rw [List.length_set, hlm]; omega) (fun x hx => (hall2 x hx).1) (by omega), ob_s, q_pSum (by rw [hlm]; omega) (fun x hx => (hall x hx).1) (by omega), ob_s, hm, ob_s]
    have hsum := sum_set (l := f.2.2.1.map szs) (v := 0) (show k < (f.2.2.1.map szs).length by rw [hlm]; exact k1)
    rw [getD_of hm] at hsum
    rw [wr (n := (f.2.2.1.map szs).sum - szs q) (by omega) (by omega), hsum, show ((f.2.2.1.map szs).sum - szs q + 0 != (f.2.2.1.map szs).sum - szs q) = false by simp]
    exact L1

theorem law_4 {d : Nat} {y : List Int} (hy : Bytes y) {f : Fa} {p : Pk} (hB : faB f) (h : (ppV f p).2.2 = true) : j3_5 (d + 10) y (f, p) (ppV f p) (ppV f p) false = some true := by
  have L3 := law_3 (d := d) hy
  unfold j3_5
  rw [oif_f, h, oif_t]
  have hv := h
  unfold ppV at hv
  cases hc : (faV f && (pkOk p && !hasA f p.1)) with
  | false => rw [hc] at hv; simp at hv
  | true =>
    have e : ppV f p = putF f p := by unfold ppV; rw [hc]; rfl
    simp only [Bool.and_eq_true] at hc
    obtain ⟨hf, hp, _⟩ := hc
    have hfl := faV_fl hf
    obtain ⟨f1, f2⟩ := flV_in (p := p) hfl
    obtain ⟨b1, b2, b3, b4, b5, b6, b7, b8, b9⟩ := baseV_in (faV_in hf).1
    have hfo : foV p ((f.2.2.1.length : Nat) : Int) = (flV p ((f.2.2.1.length : Nat) : Int), true) := by unfold foV; rw [hp, hfl]; rfl
    simp only
    rw [q_FlowOf, ob_s, hfo, e]
    obtain ⟨k, hk⟩ := Int.eq_ofNat_of_zero_le f1
    have hP : putF f p = (if (((f.2.2.1.getD k []).length : Nat) : Int) = f.2.1 then (f, false, true) else ((f.1, f.2.1, f.2.2.1.set k (f.2.2.1.getD k [] ++ [p]), f.2.2.2), true, true)) := by
      unfold putF; rw [hk, Int.toNat_natCast]
    rw [hk] at f2 ⊢
    have hlt : k < f.2.2.1.length := by omega
    rw [getD_of (List.getElem?_eq_getElem hlt)] at hP
    have h20 := row20 hf _ (List.getElem_mem hlt)
    simp only [Bool.not_true, oif_f]
    rw [decide_eq_false (by omega), oif_f, decide_eq_false (by omega)]
    unfold j3_4
    rw [oif_f, hP]
    by_cases he : ((f.2.2.1[k].length : Nat) : Int) = f.2.1
    · rw [if_pos he]
      simp only [oif_f, Bool.not_false, oif_t, nn, ofNat_toNat, blt_of hlt, List.getElem?_eq_getElem hlt, ob_s]
      rw [he, bne_self_eq_false, oif_f, q_pSameFair hB, ob_s, Bool.not_true, oif_f]
      exact L3
    · rw [if_neg he]
      simp only [oif_t, nn, ofNat_toNat, List.length_set, blt_of hlt, List.getElem?_set_self hlt, List.getElem?_eq_getElem hlt, ob_s]
      have hlast : (f.2.2.1[k] ++ [p])[f.2.2.1[k].length]? = some p := by simp
      rw [wr1 (by omega), show ((((f.2.2.1[k] ++ [p]).length : Nat) : Int) != ((f.2.2.1[k].length + 1 : Nat) : Int)) = false by simp, oif_f, hlast, ob_s]
      simp only [beq_self_eq_true, Bool.and_self, Bool.not_true, oif_f]
      exact L3

theorem law_main {d : Nat} {x y : List Int} (hx : Bytes x) (hy : Bytes y) : g3 (d + 11) x y = some true := by
  rw [e3]
  obtain ⟨b, hb⟩ := q_big (d := d + 9) (x := x) (y := y)
  rw [hb, ob_s]
  cases b with
  | true => rfl
  | false =>
    obtain ⟨⟨f, p⟩, h1, h2⟩ := p_DrawPutFair (d := d + 3) hx
    simp only at h2
    rw [oif_f, h1, ob_s, q_PutFair (f := f) (p := p) h2, ob_s, q_sPutFair (f := f) (p := p) h2, ob_s, beq_self_eq_true, Bool.not_true, oif_f, beq_self_eq_true, Bool.not_true, oif_f, q_pSameFair (pp_B h2), ob_s, Bool.not_true]
    cases h : (ppV f p).2.2 with
    | true => exact law_4 hy h2 h
    | false =>
      unfold j3_5
      rw [oif_f, h, oif_f]
      exact law_3 hy

theorem lawOk : LawOk Try.prog pvAnn (11) 3 :=
  ⟨rfl, rfl, rfl, fun x y hx hy _ _ => ⟨(x, y), true, law_main (d := 0) hx hy, rfl, rfl⟩⟩

end Go.Proofs.Ytdogommoghjncaa
