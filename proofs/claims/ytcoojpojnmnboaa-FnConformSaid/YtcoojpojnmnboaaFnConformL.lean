/-
  The law FnConform by value.
  Conditions: bytes.
-/
import Derived.Test.YtcoojpojnmnboaaFnConformK
set_option linter.all false
namespace Go.Proofs.Ytcoojpojnmnboaa
open Go.Ev Go.Pv

/-- No element of a trace waits longer than the bound. -/
def waits (bd : Int) : List Int → List (Int × Int) → Prop
  | e :: es, x :: r => (0 ≤ e ∧ e ≤ 10000000 ∧ 0 ≤ x.1 ∧ x.1 ≤ 100000 ∧ e - x.1 ≤ bd) ∧ waits bd es r
  | _, _ => True

theorem waits_get {bd : Int} : ∀ {es : List Int} {l : List (Int × Int)} {i : Nat} {e : Int} {x : Int × Int}, waits bd es l → es[i]? = some e → l[i]? = some x → 0 ≤ e ∧ e ≤ 10000000 ∧ 0 ≤ x.1 ∧ x.1 ≤ 100000 ∧ e - x.1 ≤ bd
  | [], _, _, _, _, _, h, _ => by simp at h
  | _ :: _, [], _, _, _, _, _, h => by simp at h
  | a :: es, b :: l, 0, e, x, h, h1, h2 => by simp at h1 h2; subst h1; subst h2; exact h.1
  | a :: es, b :: l, i + 1, e, x, h, h1, h2 => waits_get h.2 (by simpa using h1) (by simpa using h2)

theorem upV_add {a b k r : Int} (h : a ≤ b + r * k) (hr : 1 ≤ r) : upV a r ≤ upV b r + k := by
  unfold upV
  have e : b + r * k + r - 1 = b + r - 1 + r * k := by omega
  have := Int.add_mul_ediv_left (b + r - 1) k (show r ≠ 0 by omega)
  rw [← this]
  exact Int.ediv_le_ediv (by omega) (by omega)

theorem ss_waits {rate B : Int} {s : Int × Int} (hr : 0 ≤ rate) (hs : svOk s = true) (hrs : rate ≤ s.1) (hB : 0 ≤ B) : ∀ (l : List (Int × Int)) (t f u e : Int), trF t l = true → 0 ≤ t → 0 ≤ f → f ≤ t → 0 ≤ u → u + 1500 * l.length ≤ 1000000 → allW rate B l → (∀ x r, l = x :: r → ¬ x.1 > e → wb rate B f u l) → waits (s.2 + upV B s.1) (ssF s f u e l) l
  | [], t, f, u, e, _, _, _, _, _, _, _, _ => trivial
  | x :: r, t, f, u, e, ht, h0, h1, h2, h3, h4, h5, h6 => by
    have hx := trF_in ht x (by simp)
    have hs' := hs
    simp only [svOk, decide_eq_true_eq] at hs'
    simp only [trF, Bool.and_eq_true] at ht
    simp only [List.length_cons] at h4
    have key : ∀ (f u : Int), 0 ≤ f → f ≤ x.1 → 0 ≤ u → u + 1500 * (r.length + 1) ≤ 1000000 → wb rate B f u (x :: r) → waits (s.2 + upV B s.1) ((f + s.2 + upV (u + x.2) s.1) :: ssF s f (u + x.2) (f + s.2 + upV (u + x.2) s.1) r) (x :: r) := by
      intro f u g0 g1 g2 g3 g4
      have hw := g4.1
      have hm : rate * (x.1 - f) ≤ s.1 * (x.1 - f) := Int.mul_le_mul_of_nonneg_right hrs (by omega)
      have hu := upV_add (a := u + x.2) (b := B) (k := x.1 - f) (r := s.1) (by omega) hs'.1
      obtain ⟨q1, q2⟩ := upV_in (a := u + x.2) (b := s.1) (by omega) hs'.1
      refine ⟨⟨by omega, by omega, by omega, by omega, by omega⟩, ?_⟩
      exact ss_waits hr hs hrs hB r x.1 f (u + x.2) _ ht.2.2 (by omega) g0 g1 (by omega) (by omega) h5.2 (fun _ _ _ _ => g4.2)
    simp only [ssF]
    by_cases hc : x.1 > e
    · simp only [hc, if_true]
      exact key x.1 0 (by omega) (by omega) (by omega) (by omega) h5.1
    · simp only [hc, if_false]
      exact key f u h1 (by omega) h3 (by omega) (h6 x r rfl hc)

theorem law_0 {d : Nat} {y : List Int} (hy : Bytes y) : j10_0 (d + 8) y false = some true := by
  unfold j10_0
  obtain ⟨m, h1, a1⟩ := p_DrawChainServices (d := d + 2) hy
  obtain ⟨⟨a, l⟩, h2, a2⟩ := p_DrawConformsTo (d := d + 3) hy
  obtain ⟨⟨s, t⟩, h3, a3⟩ := p_DrawSlowestSends (d := d + 3) hy
  simp only at a2 a3
  have hs : (ssV s t).1.length < 4194304 := by
    unfold ssV; split
    · rw [ssF_len]; omega
    · simp
  simp only [oif_f, h1, h2, h3, ob_s, q_ChainServices (show m.length < 4194304 by omega), q_sChainServices (show m.length < 4194304 by omega), q_ConformsTo (show l.length < 4194304 by omega), q_sConformsTo (show l.length < 4194304 by omega), q_SlowestSends (show t.length < 4194304 by omega), q_sSlowestSends (show t.length < 4194304 by omega), beq_self_eq_true, oif_t, Bool.and_self, q_sameInts hs]

theorem law_1 {d : Nat} {y : List Int} (hy : Bytes y) {b : Bool} : j10_1 (d + 8) y b = some true := by
  unfold j10_1
  obtain ⟨⟨a, l⟩, h1, a1⟩ := p_DrawChainDelays (d := d + 2) hy
  simp only at a1
  have fin := law_0 (d := d) hy
  simp only [h1, ob_s, q_ChainDelays (show l.length < 4194304 by omega), q_sChainDelays (show l.length < 4194304 by omega), beq_self_eq_true, Bool.not_true, oif_f, bne_self_eq_false]
  cases h : (cdV a l).2.2 with
  | false => rw [oif_f]; exact fin
  | true =>
    have := cdV_once h
    rw [oif_t, decide_eq_false (show ¬ (cdV a l).2.1 > (cdV a l).1 by omega)]; exact fin

theorem law_3 {d : Nat} {y : List Int} (hy : Bytes y) {rate : Int} {l : List (Int × Int)} {s : Int × Int} (hr : 0 ≤ rate ∧ rate ≤ 100000) (ht : trOk l = true) (hs : svOk s = true) (hrs : rate ≤ s.1) :
    j10_3 (d + 8) y (rate, l) (ssF s 0 0 (-1) l, true) (dlV (bv rate l, rate) s, true) false = some true := by
  unfold j10_3
  rw [oif_f]
  obtain ⟨b1, b2, b3⟩ := bv_in (rate := rate) hr.1 ht
  have hk := tr_len ht
  have hlen : (ssF s 0 0 (-1) l).length = l.length := ssF_len
  have ht' := ht
  simp only [trOk, Bool.and_eq_true] at ht'
  have hw := ss_waits hr.1 hs hrs b1 l 0 0 0 (-1) ht'.1 (by omega) (by omega) (by omega) (by omega) (by omega) b3 (fun x r e h => by
    have := tr_in ht x (by rw [e]; simp)
    omega)
  refine (range_eq (fun (t : Bool) (i : Int) => (t, i)) (ssF s 0 0 (-1) l) (fun x _ t k => k t) (fun t => j10_2 (d + 8) y t) ?_ ?_ (by rw [fuelN_eq, hlen]; omega) false).trans ?_
  · intro ag t i e he
    have hi := (List.getElem?_eq_some_iff.1 he).1
    have hil : i < l.length := by omega
    have hx : l[i]? = some l[i] := List.getElem?_eq_getElem hil
    obtain ⟨w1, w2, w3, w4, w5⟩ := waits_get hw he hx
    simp only [l10_0, l10_0_b, ltl he, bltl he, nn, ofNat_toNat, he, ob_s, oif_t, bltl hx, hx]
    rw [wr (n := e - l[i].1) (by omega) (by omega), decide_eq_false (show ¬ e - l[i].1 > dlV (bv rate l, rate) s by unfold dlV; simp only; omega), oif_f, wr1 (by omega)]
  · intro ag t; simp only [l10_0, l10_0_b, ltn, oif_f]
  · rw [rangeR_fold (f := fun _ _ t => t)]; unfold j10_2; exact law_1 hy

theorem law_4 {d : Nat} {y : List Int} (hy : Bytes y) {rate n : Int} {l : List (Int × Int)} (hr : 0 ≤ rate ∧ rate ≤ 100000) (ht : trOk l = true) (hn : rate ≤ n ∧ 1 ≤ n ∧ n ≤ 100000) : j10_4 (d + 8) y (rate, l) (lbV rate l) n = some true := by
  unfold j10_4
  have hk := tr_len ht
  obtain ⟨b1, b2, b3⟩ := bv_in (rate := rate) hr.1 ht
  have e0 : lbV rate l = (bv rate l, true) := by unfold lbV; rw [if_pos]; simp [hr, ht]
  have h50 : 0 ≤ ((y.length : Nat) : Int).tmod 50 ∧ ((y.length : Nat) : Int).tmod 50 < 50 := ⟨Int.tmod_nonneg _ (by omega), Int.tmod_lt_of_pos _ (by omega)⟩
  have hs : svOk (n, ((y.length : Nat) : Int).tmod 50) = true := by simp [svOk]; omega
  have e1 : ssV (n, ((y.length : Nat) : Int).tmod 50) l = (ssF (n, ((y.length : Nat) : Int).tmod 50) 0 0 (-1) l, true) := by unfold ssV; rw [if_pos]; simp [hs, ht]
  have hb : both (bv rate l, rate) (n, ((y.length : Nat) : Int).tmod 50) = true := by
    simp only [both, hs, Bool.true_and, Bool.and_eq_true, decide_eq_true_eq]
    exact ⟨by simp [inOk]; omega, hn.1⟩
  have e2 : dbV (bv rate l, rate) (n, ((y.length : Nat) : Int).tmod 50) = (dlV (bv rate l, rate) (n, ((y.length : Nat) : Int).tmod 50), true) := by simp [dbV, hb]
  rw [e0]
  simp only [q_SlowestSends (show l.length < 4194304 by omega), q_sSlowestSends (show l.length < 4194304 by omega), ob_s, q_DelayBound, e1, e2, Bool.not_true, oif_f]
  rw [q_sameInts (by rw [ssF_len]; omega), ob_s, Bool.not_true, oif_f, ssF_len, bne_self_eq_false]
  exact law_3 hy hr ht hs hn.1

theorem law_5 {d : Nat} {y : List Int} (hy : Bytes y) {rate : Int} {l : List (Int × Int)} (hr : 0 ≤ rate ∧ rate ≤ 100000) (ht : trOk l = true) : j10_5 (d + 8) y (rate, l) (lbV rate l) = some true := by
  unfold j10_5
  have h1 : 0 ≤ rate.tmod 1000 ∧ rate.tmod 1000 < 1000 := ⟨Int.tmod_nonneg _ hr.1, Int.tmod_lt_of_pos _ (by omega)⟩
  simp only
  rw [wr (n := 1 + rate.tmod 1000) (by omega) (by omega)]
  by_cases h : 1 + rate.tmod 1000 < rate
  · rw [decide_eq_true h, oif_t]; exact law_4 hy hr ht (by omega)
  · rw [decide_eq_false h, oif_f]; exact law_4 hy hr ht (by omega)

theorem law_7 {d : Nat} {y : List Int} (hy : Bytes y) {rate : Int} {l : List (Int × Int)} (hl : l.length < 4194304) : j10_7 (d + 8) y (rate, l) (lbV rate l) (lbV rate l) false = some true := by
  unfold j10_7
  rw [oif_f]
  by_cases hc : decide (0 ≤ rate ∧ rate ≤ 100000) && trOk l
  case neg =>
    have e0 : lbV rate l = (0, false) := by unfold lbV; rw [if_neg hc]
    rw [e0]; simp only [oif_f]; exact law_1 hy
  have e0 : lbV rate l = (bv rate l, true) := by unfold lbV; rw [if_pos hc]
  simp only [Bool.and_eq_true, decide_eq_true_eq] at hc
  obtain ⟨hr, ht⟩ := hc
  obtain ⟨b1, b2, b3⟩ := bv_in (rate := rate) hr.1 ht
  have fin := law_5 (d := d) hy hr ht
  have hi : ∀ b : Int, 0 ≤ b → b ≤ 60000 → ctV (b, rate) l = (decide (bv rate l ≤ b), true) := by
    intro b h0 h1
    have : inOk (b, rate) = true := by simp [inOk]; omega
    simp [ctV, this, ht]
  rw [e0] at fin ⊢
  simp only [oif_t, q_ConformsTo hl, ob_s, hi _ b1 b2, Int.le_refl, decide_true, Bool.not_true, oif_f]
  unfold j10_6
  rw [oif_f]
  by_cases h : bv rate l > 0
  · simp only
    rw [decide_eq_true h, oif_t, wr (n := bv rate l - 1) (by omega) (by omega), q_ConformsTo hl, ob_s, hi _ (by omega) (by omega)]
    simp only [Bool.not_true, oif_f]
    rw [decide_eq_false (show ¬ bv rate l ≤ bv rate l - 1 by omega), oif_f]
    exact fin
  · simp only
    rw [decide_eq_false h, oif_f]; exact fin

theorem law_main {d : Nat} {x y : List Int} (hx : Bytes x) (hy : Bytes y) : g10 (d + 9) x y = some true := by
  rw [e10]
  obtain ⟨b, hb⟩ := q_big (d := d + 7) (x := x) (y := y)
  rw [hb, ob_s]
  cases b with
  | true => rfl
  | false =>
  obtain ⟨⟨rate, l⟩, h1, a1⟩ := p_DrawLeastBurst (d := d + 3) hx
  simp only at a1
  simp only [oif_f, h1, ob_s, q_LeastBurst (show l.length < 4194304 by omega), q_sLeastBurst (show l.length < 4194304 by omega), beq_self_eq_true, Bool.not_true, bne_self_eq_false]
  exact law_7 hy (by omega)

theorem lawOk : LawOk Try.prog pvAnn (9) 10 :=
  ⟨rfl, rfl, rfl, fun x y hx hy _ _ => ⟨(x, y), true, law_main (d := 0) hx hy, rfl, rfl⟩⟩

end Go.Proofs.Ytcoojpojnmnboaa
