/-
  The law FnDrops by value.
  Conditions: bytes.
-/
import Derived.Test.YtaggjheabeoohaaFnDropsK
set_option linter.all false
namespace Go.Proofs.Ytaggjheabeoohaa
open Go.Ev Go.Pv

theorem pd_len {q : Qu} {p : Pk} (h : q.2.2.1.length ≤ 61) : (pdV q p).1.2.2.1.length ≤ 62 ∧ (pdV q p).2.1.length ≤ 61 := by
  unfold pdV
  split
  · split
    · split
      · exact ⟨by simp only; omega, by simp⟩
      · exact ⟨by simp [zeroQ], by simp⟩
    · simp only
      split
      · exact ⟨by simp; omega, by simp [idL]; omega⟩
      · exact ⟨by simp [zeroQ], by simp⟩
  · exact ⟨by simp [zeroQ], by simp⟩

theorem rf_len {q : Qu} {f : Pk} (h : q.2.2.1.length ≤ 61) : (rfV q f).1.2.2.1.length ≤ 61 ∧ (rfV q f).2.1.length ≤ 61 := by
  have := parts_len f q.2.2.1
  unfold rfV
  split
  · split
    · exact ⟨by show (keepL f q.2.2.1).length ≤ 61; omega, by rw [idL_len]; omega⟩
    · exact ⟨by simp [zeroQ], by simp⟩
  · exact ⟨by simp [zeroQ], by simp⟩

theorem ta_len {q : Qu} (h : q.2.2.1.length ≤ 61) : (taV q).1.2.2.1.length ≤ 61 ∧ (taV q).2.1.length ≤ 61 := by
  unfold taV
  split
  · exact ⟨by simp, by rw [idL_len]; exact h⟩
  · exact ⟨by simp [zeroQ], by simp⟩

theorem law_0 {d : Nat} {y : List Int} (hy : Bytes y) : j7_0 (d + 8) y = some true := by
  unfold j7_0
  obtain ⟨r, h1, _⟩ := p_DrawNewQueue (d := d + 4) hy
  obtain ⟨q, h2, h3⟩ := p_DrawTakeAll (d := d + 1) hy
  obtain ⟨t1, t2⟩ := ta_len h3
  have hn : (nqV r.1 r.2).1.2.2.1.length < 4194304 := by unfold nqV; split <;> simp [zeroQ]
  rw [h1, ob_s, q_NewQueue, ob_s, q_sNewQueue, ob_s, h2, ob_s, q_TakeAll (by omega), ob_s, q_sTakeAll (by omega), ob_s]
  simp only [beq_self_eq_true, oif_t]
  rw [q_pSameQueue hn, ob_s, oif_t, q_sameInts (by omega), ob_s, oif_t, q_pSameQueue (by omega), ob_s, oif_t]
  unfold taV
  split
  · rw [Bool.not_true, oif_f, idL_len]; simp
  · rfl

theorem nodup_last {l : List Pk} (h : (l.map fun p => p.1).Nodup) {x : Pk} (hx : l[l.length - 1]? = some x) : hasV (l.take (l.length - 1)) x.1 = false := by
  unfold hasV
  rw [List.any_eq_false]
  intro y hy hyx
  simp only [beq_iff_eq] at hyx
  obtain ⟨i, hi, rfl⟩ := List.mem_iff_getElem.1 hy
  simp only [List.length_take] at hi
  have hlt : l.length - 1 < l.length := by omega
  rw [List.getElem?_eq_getElem hlt] at hx
  injection hx with hx
  rw [List.getElem_take] at hyx
  have hn := List.pairwise_iff_getElem.1 h i (l.length - 1) (by simp; omega) (by simp; omega) (by omega)
  simp only [List.getElem_map] at hn
  exact hn (by rw [hx]; exact hyx)

theorem sumTo_le {id : Int} : ∀ (l : List Pk) (t n : Int), allOkP l → sumTo id l t = some n → n ≤ t + szs l ∧ l ≠ []
  | [], t, n, _, h => by simp [sumTo] at h
  | x :: r, t, n, ha, h => by
    have hx := szsQ ha x (by simp)
    have hr : allOkP r := fun y hy => ha y (by simp [hy])
    have h0 := szs_nonneg hr
    rw [szs_cons]
    unfold sumTo at h
    split at h
    · simp at h; exact ⟨by omega, by simp⟩
    · have := (sumTo_le r _ n hr h).1
      exact ⟨by omega, by simp⟩

theorem law_1 {d : Nat} {y : List Int} (hy : Bytes y) {q : Qu} {id r : Int} (hl : q.2.2.1.length ≤ 61) : j7_1 (d + 8) y (q, id, r) (dlV q id r) false = some true := by
  unfold j7_1
  rw [oif_f]
  cases h : (dlV q id r).2 with
  | false => rw [oif_f]; exact law_0 hy
  | true =>
    rw [oif_t]
    have hv := h
    unfold dlV at hv
    cases hc : (goodV q && ratOk r) with
    | false => rw [hc] at hv; simp at hv
    | true =>
      rw [hc, if_pos rfl] at hv
      simp only [Bool.and_eq_true] at hc
      obtain ⟨hg, hr⟩ := hc
      obtain ⟨h1, h2, h3, h4, h5, h6⟩ := good_in hg
      cases hs : sumTo id q.2.2.1 0 with
      | none => rw [hs] at hv; simp at hv
      | some n =>
        obtain ⟨n1, n2⟩ := sumTo_le _ _ _ h4 hs
        have hpos : 0 < q.2.2.1.length := List.length_pos_iff.2 n2
        have hlt : q.2.2.1.length - 1 < q.2.2.1.length := by omega
        have hx := List.getElem?_eq_getElem hlt
        rw [wr (n := ((q.2.2.1.length : Nat) : Int) - 1) (by omega) (by omega), show ((q.2.2.1.length : Nat) : Int) - 1 = ((q.2.2.1.length - 1 : Nat) : Int) by omega]
        simp only [nn, ofNat_toNat, oif_t]
        rw [blt_of hlt, oif_t, hx, ob_s, q_DelayOf (by omega), ob_s]
        have e1 := (sumTo_at (id := (q.2.2.1[q.2.2.1.length - 1]).1) q.2.2.1 0).2 (q.2.2.1.length - 1) _ hx rfl (nodup_last h5 hx)
        have e2 : dlV q (q.2.2.1[q.2.2.1.length - 1]).1 r = ((szs q.2.2.1 + r - 1) / r, true) := by
          unfold dlV
          rw [hg, hr, e1, show q.2.2.1.length - 1 + 1 = q.2.2.1.length by omega, List.take_length]
          simp
        have e3 : dlV q id r = ((n + r - 1) / r, true) := by
          unfold dlV
          rw [hg, hr, hs]; rfl
        rw [e2, e3]
        simp only [ratOk, decide_eq_true_eq] at hr
        have : (n + r - 1) / r ≤ (szs q.2.2.1 + r - 1) / r := Int.ediv_le_ediv (by omega) (by omega)
        simp only [Bool.not_true, oif_f]
        rw [decide_eq_false (by omega), oif_f]
        exact law_0 hy

theorem law_2 {d : Nat} {y : List Int} (hy : Bytes y) {b : Bool} : j7_2 (d + 8) y b = some true := by
  unfold j7_2
  obtain ⟨⟨q, id, r⟩, h1, h2⟩ := p_DrawDelayOf (d := d + 1) hy
  simp only at h2
  rw [h1, ob_s, q_DelayOf (q := q) (show q.2.2.1.length ≤ 100 by omega), ob_s, q_sDelayOf (q := q) (show q.2.2.1.length ≤ 100 by omega), ob_s, beq_self_eq_true, Bool.not_true, oif_f, bne_self_eq_false]
  exact law_1 hy h2

theorem law_4 {d : Nat} {y : List Int} (hy : Bytes y) {b : Bool} {q : Qu} {f : Pk} (hl : q.2.2.1.length ≤ 61) : j7_4 (d + 8) y b (q, f) (rfV q f) (rfV q f) false = some true := by
  unfold j7_4
  rw [oif_f]
  cases h : (rfV q f).2.2 with
  | false => rw [oif_f]; exact law_2 hy
  | true =>
    rw [oif_t]
    have hv := h
    unfold rfV at hv
    cases hc : (goodV q && pkOk f) with
    | false => rw [hc] at hv; simp at hv
    | true =>
      rw [hc, if_pos rfl] at hv
      cases hn : cntsOk (rfQ q f) with
      | false => rw [hn] at hv; simp at hv
      | true =>
        have e : rfV q f = (rfQ q f, idL (goneL f q.2.2.1), true) := by unfold rfV; rw [hc, hn]; rfl
        rw [e]
        simp only [Bool.and_eq_true] at hc
        obtain ⟨hg, hf⟩ := hc
        obtain ⟨h1, h2, h3, h4, h5, h6⟩ := good_in hg
        have hpl := parts_len f q.2.2.1
        refine (range_eq (fun (t : Bool) (i : Int) => (t, i)) (keepL f q.2.2.1) (fun x i t k => k t) (fun b' => j7_3 (d + 8) y (q, f) (rfQ q f, idL (goneL f q.2.2.1), true) b') ?_ ?_ (by rw [fuelN_eq]; omega) b).trans ?_
        · intro ag t i x hx
          have hi := (List.getElem?_eq_some_iff.1 hx).1
          have hm : x ∈ keepL f q.2.2.1 := by obtain ⟨_, rfl⟩ := List.getElem?_eq_some_iff.1 hx; exact List.getElem_mem _
          obtain ⟨m1, m2⟩ := List.mem_filter.1 hm
          have hx' : (rfQ q f).2.2.1[i]? = some x := hx
          have hl' : decide ((i : Int) < (((rfQ q f).2.2.1.length : Nat) : Int)) = true := ltl hx'
          simp only [l7_1, l7_1_b, hl', nn, ofNat_toNat, hx', ob_s, oif_t, q_SameFlow (h4 x m1) hf]
          rw [Bool.not_true, oif_f, wr1 (by omega)]
          have m3 : sfV x f = false := by simpa using m2
          rw [m3, oif_f]
        · intro ag t
          have hl' : (rfQ q f).2.2.1.length = (keepL f q.2.2.1).length := rfl
          simp only [l7_1, l7_1_b, hl', ltn, oif_f]
        · rw [rangeR_fold (f := fun _ _ t => t)]
          unfold j7_3
          have e2 : (rfQ q f).2.2.1.length = (keepL f q.2.2.1).length := rfl
          simp only [e2, idL_len]
          rw [wr (n := (((keepL f q.2.2.1).length : Nat) : Int) + (((goneL f q.2.2.1).length : Nat) : Int)) (by omega) (by omega)]
          have e3 : ((((keepL f q.2.2.1).length : Nat) : Int) + (((goneL f q.2.2.1).length : Nat) : Int) != ((q.2.2.1.length : Nat) : Int)) = false := by
            rw [← hpl]; simp
          rw [e3, oif_f]
          exact law_2 hy

theorem law_5 {d : Nat} {y : List Int} (hy : Bytes y) {b : Bool} : j7_5 (d + 8) y b = some true := by
  unfold j7_5
  obtain ⟨⟨q, f⟩, h1, h2⟩ := p_DrawRemoveFlow (d := d + 1) hy
  simp only at h2
  obtain ⟨t1, t2⟩ := rf_len (f := f) h2
  rw [h1, ob_s, q_RemoveFlow (q := q) (f := f) (show q.2.2.1.length ≤ 100 by omega), ob_s, q_sRemoveFlow (q := q) (f := f) (show q.2.2.1.length ≤ 100 by omega), ob_s, beq_self_eq_true, Bool.not_true, oif_f, q_sameInts (show (rfV q f).2.1.length < 4194304 by omega), ob_s, Bool.not_true, oif_f, q_pSameQueue (show (rfV q f).1.2.2.1.length < 4194304 by omega), ob_s, Bool.not_true]
  exact law_4 hy h2

theorem law_9 {d : Nat} {y : List Int} (hy : Bytes y) {q : Qu} {p : Pk} (hl : q.2.2.1.length ≤ 61) : j7_9 (d + 8) y (q, p) (pdV q p) (pdV q p) false = some true := by
  unfold j7_9
  rw [oif_f]
  cases h : (pdV q p).2.2 with
  | false => rw [oif_f]; unfold j7_8; rw [oif_f]; exact law_5 hy
  | true =>
    rw [oif_t]
    unfold j7_8
    by_cases hs : pkSz p ≤ q.2.1
    · show oif (decide (pkSz p ≤ q.2.1)) _ _ = _
      rw [decide_eq_true hs, oif_t]
      have hv := h
      unfold pdV at hv
      cases hc : canV q p with
      | false => rw [hc] at hv; simp at hv
      | true =>
        rw [hc, if_pos rfl, show decide (pkSz p > q.2.1) = false by simp; omega, if_neg (by decide)] at hv
        simp only at hv
        have hn := dropN_le q.1 q.2.1 (pkSz p) q.2.2.1
        generalize hN : dropN q.1 q.2.1 (pkSz p) q.2.2.1 = n at hn hv
        cases hcn : cntsOk (q.1, q.2.1, q.2.2.1.drop n ++ [p], q.2.2.2.1, q.2.2.2.2 + (n : Int)) with
        | false => rw [hcn] at hv; simp at hv
        | true =>
          have e : pdV q p = ((q.1, q.2.1, q.2.2.1.drop n ++ [p], q.2.2.2.1, q.2.2.2.2 + (n : Int)), idL (q.2.2.1.take n), true) := by
            unfold pdV
            rw [hc, if_pos rfl, show decide (pkSz p > q.2.1) = false by simp; omega, if_neg (by decide)]
            simp only
            rw [hN, hcn]; rfl
          rw [e]
          have hlen : (q.2.2.1.drop n ++ [p]).length = q.2.2.1.length - n + 1 := by simp
          have hil : (idL (q.2.2.1.take n)).length = n := by simp [idL]; omega
          have hlast : (q.2.2.1.drop n ++ [p])[q.2.2.1.length - n]? = some p := by
            rw [List.getElem?_append_right (by simp)]; simp
          simp only [hlen, hil]
          rw [show ((((q.2.2.1.length - n + 1 : Nat) : Int) : Int) == 0) = false by simp; omega, oif_f, wr (n := ((q.2.2.1.length - n + 1 : Nat) : Int) - 1) (by omega) (by omega), show ((q.2.2.1.length - n + 1 : Nat) : Int) - 1 = ((q.2.2.1.length - n : Nat) : Int) by omega]
          simp only [nn, ofNat_toNat, oif_t, hlast, ob_s, beq_self_eq_true, Bool.and_self, Bool.not_true, oif_f]
          rw [wr (n := (n : Int) + ((q.2.2.1.length - n + 1 : Nat) : Int)) (by omega) (by omega), wr (n := ((q.2.2.1.length : Nat) : Int) + 1) (by omega) (by omega)]
          rw [show ((n : Int) + ((q.2.2.1.length - n + 1 : Nat) : Int) != ((q.2.2.1.length : Nat) : Int) + 1) = false by simp; omega]
          unfold j7_7
          rw [oif_f]
          refine (range_eq (fun (t : Bool) (i : Int) => (t, i)) (idL (q.2.2.1.take n)) (fun x i t k => k t) (j7_6 (d + 8) y) ?_ ?_ (by rw [fuelN_eq]; omega) false).trans ?_
          · intro ag t i x hx
            have hi := (List.getElem?_eq_some_iff.1 hx).1
            rw [hil] at hi
            have hx2 := hx
            unfold idL at hx2
            rw [List.getElem?_map, List.getElem?_take_of_lt hi, List.getElem?_eq_getElem (show i < q.2.2.1.length by omega)] at hx2
            simp only [Option.map_some, Option.some.injEq] at hx2
            simp only [l7_0, l7_0_b, ltl hx, bltl hx, nn, ofNat_toNat, hx, ob_s, oif_t]
            rw [blt_of (show i < q.2.2.1.length by omega), oif_t, List.getElem?_eq_getElem (show i < q.2.2.1.length by omega), ob_s, hx2, bne_self_eq_false, oif_f, wr1 (by omega)]
          · intro ag t; simp only [l7_0, l7_0_b, ltn, oif_f]
          · rw [rangeR_fold (f := fun _ _ t => t)]
            unfold j7_6
            exact law_5 hy
    · show oif (decide (pkSz p ≤ q.2.1)) _ _ = _
      rw [decide_eq_false hs, oif_f]
      exact law_5 hy

theorem law_main {d : Nat} {x y : List Int} (hx : Bytes x) (hy : Bytes y) : g7 (d + 9) x y = some true := by
  rw [e7]
  obtain ⟨b, hb⟩ := q_big (d := d + 7) (x := x) (y := y)
  rw [hb, ob_s]
  cases b with
  | true => rfl
  | false =>
    obtain ⟨⟨q, p⟩, h1, h2⟩ := p_DrawPutDropHead (d := d) hx
    simp only at h2
    obtain ⟨t1, t2⟩ := pd_len (p := p) h2
    rw [oif_f, h1, ob_s, q_PutDropHead (q := q) (p := p) (show q.2.2.1.length ≤ 100 by omega), ob_s, q_sPutDropHead (q := q) (p := p) (show q.2.2.1.length ≤ 100 by omega), ob_s, beq_self_eq_true, Bool.not_true, oif_f, q_sameInts (show (pdV q p).2.1.length < 4194304 by omega), ob_s, Bool.not_true, oif_f, q_pSameQueue (show (pdV q p).1.2.2.1.length < 4194304 by omega), ob_s, Bool.not_true]
    exact law_9 hy h2

theorem lawOk : LawOk Try.prog pvAnn (9) 7 :=
  ⟨rfl, rfl, rfl, fun x y hx hy _ _ => ⟨(x, y), true, law_main (d := 0) hx hy, rfl, rfl⟩⟩

end Go.Proofs.Ytaggjheabeoohaa
