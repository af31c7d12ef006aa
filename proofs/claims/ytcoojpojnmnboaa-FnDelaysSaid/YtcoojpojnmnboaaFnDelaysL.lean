/-
  The law FnDelays by value.
  Conditions: bytes.
-/
import Derived.Test.YtcoojpojnmnboaaFnDelaysK
set_option linter.all false
namespace Go.Proofs.Ytcoojpojnmnboaa
open Go.Ev Go.Pv

theorem oif_skip {b : Bool} {a : Option Bool} (h : a = some true) : oif b (some true) a = some true := by
  cases b
  · exact h
  · rfl

theorem stB_drop {x : Int × Int × Int × Bool × Int × Int} {now s : Int} (hx : dlOk x = true) (h : (stB x now true s).2 = true) : (stB x now true s).1.2.2.2.1 = true ∧ (x.2.2.2.1 = true ∨ now < (stB x now true s).1.2.2.2.2.2) := by
  obtain ⟨h1, h2, h3, h4, h5, h6, h7, h8, h9⟩ := dl_in2 hx
  unfold stB at h ⊢
  simp only [if_true] at h ⊢
  cases hdr : x.2.2.2.1 with
  | true =>
    rw [hdr] at h
    simp only [if_true] at h ⊢
    by_cases hc : now < x.2.2.2.2.2
    · rw [if_pos hc] at h; simp at h
    · rw [if_neg hc]; exact ⟨rfl, .inl trivial⟩
  | false =>
    simp only [Bool.false_eq_true, if_false]
    by_cases hc : 1 ≤ x.2.2.2.2.1 - 2 ∧ now < x.2.2.2.2.2 + 8 * x.2.1
    · obtain ⟨g1, _⟩ := gapV_in h2 (c := x.2.2.2.2.1 - 2) hc.1 (by omega)
      rw [if_pos hc]; exact ⟨rfl, .inr (by simp only; omega)⟩
    · obtain ⟨g1, _⟩ := gapV_in h2 (c := 1) (by omega) (by omega)
      rw [if_neg hc]; exact ⟨rfl, .inr (by simp only; omega)⟩

theorem st_drop {x : Int × Int × Int × Bool × Int × Int} {now w b : Int} (hx : dlOk x = true) (h : (stV x now w b).2 = true) : (x.1 ≤ w ∧ 1 ≤ b) ∧ (0 ≤ x.2.2.1 ∧ x.2.2.1 ≤ now) ∧ (stV x now w b).1.2.2.2.1 = true ∧ (x.2.2.2.1 = true ∨ now < (stV x now w b).1.2.2.2.2.2) := by
  unfold stV at h ⊢
  cases ht : (stL x w b && decide (0 ≤ x.2.2.1 ∧ x.2.2.1 ≤ now)) with
  | false => rw [ht] at h; simp [stB] at h
  | true =>
    rw [ht] at h
    simp only [Bool.and_eq_true, decide_eq_true_eq, stL] at ht
    exact ⟨ht.1, ht.2, stB_drop hx h⟩

theorem law_0 {d : Nat} {x : Int × Int × Int × Bool × Int × Int} {now w b : Int} : j4_0 d (x, now, w, b) ((stV x now w b).1, (stV x now w b).2, true) false = some true := by
  unfold j4_0
  rw [oif_f]
  simp only
  by_cases hl : w ≥ x.1
  · rw [decide_eq_true hl, oif_t]
  · have e : stL x w b = false := by unfold stL; rw [decide_eq_false (by omega)]
    have e2 : stV x now w b = ((x.1, x.2.1, -1, false, x.2.2.2.2.1, x.2.2.2.2.2), false) := by unfold stV stB; rw [e]; rfl
    rw [decide_eq_false hl, oif_f, e2]; rfl

theorem law_1 {d : Nat} {x : Int × Int × Int × Bool × Int × Int} {now w b : Int} : j4_1 (d + 6) (x, now, w, b) (dsV x now w b) (dsV x now w b) false = some true := by
  unfold j4_1
  by_cases hc : (dlOk x && (decide (0 ≤ now ∧ now ≤ 100000) && (decide (0 ≤ w ∧ w ≤ 100000) && decide (0 ≤ b ∧ b ≤ 100000)))) = true
  case neg =>
    have e0 : dsV x now w b = ((0, 0, 0, false, 0, 0), false, false) := by unfold dsV; rw [if_neg hc]
    rw [e0]; simp only [Bool.not_false, oif_t]
  by_cases hd : dlOk (stV x now w b).1 = true
  case neg =>
    have e0 : dsV x now w b = ((0, 0, 0, false, 0, 0), false, false) := by unfold dsV; rw [if_pos hc, if_neg hd]
    rw [e0]; simp only [Bool.not_false, oif_t]
  have e0 : dsV x now w b = ((stV x now w b).1, (stV x now w b).2, true) := by unfold dsV; rw [if_pos hc, if_pos hd]
  simp only [Bool.and_eq_true, decide_eq_true_eq] at hc
  obtain ⟨hx, hn, hw, hb⟩ := hc
  have fin := law_0 (d := d + 6) (x := x) (now := now) (w := w) (b := b)
  rw [e0]
  simp only [Bool.not_true, oif_f, q_IsDelay, ob_s, hd]
  cases hs : (stV x now w b).2 with
  | false => rw [hs] at fin; rw [oif_f]; exact fin
  | true =>
    obtain ⟨a1, a2, a3, a4⟩ := st_drop hx hs
    rw [hs] at fin
    rw [oif_t, decide_eq_false (show ¬ w < x.1 by omega), oif_f, decide_eq_false (show ¬ b < 1 by omega), oif_f, decide_eq_false (show ¬ x.2.2.1 < 0 by omega), oif_f, decide_eq_false (show ¬ x.2.2.1 > now by omega), oif_f, a3, Bool.not_true, oif_f]
    by_cases hc : (stV x now w b).1.2.2.2.2.2 ≤ now
    · rw [decide_eq_true hc, oif_t]
      rcases a4 with h | h
      · rw [h, Bool.not_true]; exact fin
      · omega
    · rw [decide_eq_false hc, oif_f]; exact fin

theorem law_2 {d : Nat} {i n a : Int} {t : List Int × Bool} {ag : Bool × Int → Option Bool} {c : Nat} {b : Bool} (hi : ivOk i = true) (hc : c < 1000) (h0 : 0 ≤ a) (h1 : a ≤ 100000000) (ht : t.1[c]? = some (a + gapV i ((c + 1 : Nat) : Int))) : j4_2 (d + 6) (i, n) t ag false ((c : Nat) : Int) a b = ag (false, ((c + 1 : Nat) : Int)) := by
  unfold j4_2
  obtain ⟨p1, p2, _⟩ := gapV_in hi (c := ((c + 1 : Nat) : Int)) (by omega) (by omega)
  have eg : gaV i ((c + 1 : Nat) : Int) = (gapV i ((c + 1 : Nat) : Int), true) := by unfold gaV; rw [hi, decide_eq_true (by omega)]; rfl
  have ew : IntKind.i64.wrap (a + gapV i ((c + 1 : Nat) : Int) - a) = gapV i ((c + 1 : Nat) : Int) := by rw [wr (by omega) (by omega)]; omega
  simp only
  rw [wr1 (by omega), q_GapAfter, ob_s, eg, nn]
  simp only [Bool.not_true, oif_f, oif_t, ofNat_toNat, bltl ht, ht, ob_s, ew, bne_self_eq_false]

theorem law_it {d : Nat} {i n : Int} {t : List Int × Bool} {K : Bool → Option Bool} : ∀ (k fuel : Nat) (pre : List Int) (a : Int), t.1 = pre ++ dtF i k a (pre.length + 1) → k < fuel → pre.length + k ≤ 40 → (k = 0 ∨ ivOk i = true) → 0 ≤ a → a ≤ 10000 * (pre.length : Int) → (pre = [] ∧ a = 0 ∨ 0 < pre.length ∧ t.1[pre.length - 1]? = some a) → iterP (l4_0 (d + 6) (i, n) t K) fuel (false, ((pre.length : Nat) : Int)) = K false := by
  intro k
  induction k with
  | zero =>
    intro fuel pre a g0 g1 _ _ _ _ _
    cases fuel with
    | zero => omega
    | succ f =>
      have e : t.1.length = pre.length := by rw [g0]; simp [dtF]
      simp only [iterP, l4_0, l4_0_b]
      rw [e, ltn, oif_f]
  | succ k ih =>
    intro fuel pre a g0 g1 g2 g3 g4 g5 g6
    cases fuel with
    | zero => omega
    | succ f =>
      have hi : ivOk i = true := by rcases g3 with h | h; exact absurd h (by omega); exact h
      obtain ⟨p1, p2, _⟩ := gapV_in hi (c := ((pre.length + 1 : Nat) : Int)) (by omega) (by omega)
      have hg : t.1[pre.length]? = some (a + gapV i ((pre.length + 1 : Nat) : Int)) := by rw [g0]; simp [dtF]
      have next := ih f (pre ++ [a + gapV i ((pre.length + 1 : Nat) : Int)]) (a + gapV i ((pre.length + 1 : Nat) : Int)) (by rw [g0]; simp [dtF]) (by omega) (by simp; omega) (.inr hi) (by omega) (by rw [List.length_append, List.length_singleton]; omega) (.inr ⟨by simp, by simpa using hg⟩)
      rw [List.length_append, List.length_singleton] at next
      have step : ∀ (b : Bool), j4_2 (d + 6) (i, n) t (iterP (l4_0 (d + 6) (i, n) t K) f) false ((pre.length : Nat) : Int) a b = K false := fun b => (law_2 hi (by omega) g4 (by omega) hg).trans next
      simp only [iterP, l4_0, l4_0_b]
      rw [ltl hg, oif_t]
      rcases g6 with ⟨h1, h2⟩ | ⟨h1, h2⟩
      · have hz : pre.length = 0 := by rw [h1]; rfl
        rw [decide_eq_false (by omega), oif_f]
        have := step false
        rw [h2] at this; exact this
      · have ew : IntKind.i64.wrap (((pre.length : Nat) : Int) - 1) = ((pre.length - 1 : Nat) : Int) := by rw [wr (by omega) (by omega)]; omega
        rw [decide_eq_true (by omega), oif_t, ew, nn, oif_t, ofNat_toNat, bltl h2, oif_t, h2, ob_s]
        exact step true

theorem law_3 {d : Nat} {x : Int × Int × Int × Bool × Int × Int} {now w b i n : Int} : j4_3 (d + 6) (x, now, w, b) (dsV x now w b) (dsV x now w b) (i, n) (dtV i n) = some true := by
  unfold j4_3
  have fin := law_1 (d := d) (x := x) (now := now) (w := w) (b := b)
  by_cases hc : (ivOk i && decide (0 ≤ n ∧ n ≤ 40)) = true
  · have e : dtV i n = (dtF i n.toNat 0 1, true) := by unfold dtV; rw [if_pos hc]
    simp only [Bool.and_eq_true, decide_eq_true_eq] at hc
    exact (law_it n.toNat fuelN [] 0 (by rw [e]; rfl) (by rw [fuelN_eq]; omega) (by simp; omega) (.inr hc.1) (by omega) (by simp) (.inl ⟨rfl, rfl⟩)).trans fin
  · have e : dtV i n = ([], false) := by unfold dtV; rw [if_neg hc]
    exact (law_it 0 fuelN [] 0 (by rw [e]; rfl) (by rw [fuelN_eq]; omega) (by simp) (.inl rfl) (by omega) (by simp) (.inl ⟨rfl, rfl⟩)).trans fin

theorem law_5 {d : Nat} {x : Int × Int × Int × Bool × Int × Int} {now w b i n j c : Int} : j4_5 (d + 6) (x, now, w, b) (dsV x now w b) (dsV x now w b) (j, c) (gaV j c) (gaV j c) (i, n) (dtV i n) false = some true := by
  unfold j4_5
  rw [oif_f]
  have fin := law_3 (d := d) (x := x) (now := now) (w := w) (b := b) (i := i) (n := n)
  by_cases h : (ivOk j && decide (1 ≤ c ∧ c ≤ 1000)) = true
  case neg =>
    have e : gaV j c = (0, false) := by unfold gaV; rw [if_neg h]
    rw [e]; simp only [oif_f]
    unfold j4_4
    rw [oif_f]; exact fin
  have e : gaV j c = (gapV j c, true) := by unfold gaV; rw [if_pos h]
  simp only [Bool.and_eq_true, decide_eq_true_eq] at h
  obtain ⟨p1, p2, _⟩ := gapV_in h.1 h.2.1 h.2.2
  rw [e]; simp only [oif_t]
  unfold j4_4
  by_cases hc : c < 1000
  · have eg : gaV j (c + 1) = (gapV j (c + 1), true) := by unfold gaV; rw [h.1, decide_eq_true (by omega)]; rfl
    have := gapV_less h.1 h.2.1 hc
    simp only
    rw [decide_eq_true hc, oif_t, wr (by omega) (by omega), q_GapAfter, ob_s, eg]
    simp only [Bool.not_true, oif_f]
    rw [decide_eq_false (by omega), oif_f, decide_eq_false (by omega), oif_f]
    exact fin
  · simp only
    rw [decide_eq_false hc, oif_f]; exact fin

theorem law_6 {d : Nat} {x : Int × Int × Int × Bool × Int × Int} {now w b i n j c m : Int} : j4_6 (d + 6) (x, now, w, b) (dsV x now w b) (dsV x now w b) m (rtV m) (rtV m) (j, c) (gaV j c) (gaV j c) (i, n) (dtV i n) false = some true := by
  unfold j4_6
  rw [oif_f]
  have fin := law_5 (d := d) (x := x) (now := now) (w := w) (b := b) (i := i) (n := n) (j := j) (c := c)
  by_cases h : 0 ≤ m ∧ m ≤ 1000000000
  · have e : rtV m = (rootV m, true) := by unfold rtV; rw [decide_eq_true h]; rfl
    obtain ⟨r1, r2⟩ := rootV_in h.1 h.2
    obtain ⟨_, q1, q2⟩ := rootV_root h.1 h.2
    have hs : 0 ≤ (rootV m + 1) * (rootV m + 1) ∧ (rootV m + 1) * (rootV m + 1) ≤ 31623 * 31623 := ⟨Int.mul_nonneg (by omega) (by omega), sq_le (by omega) (by omega)⟩
    have hq : 0 ≤ rootV m * rootV m := Int.mul_nonneg (by omega) (by omega)
    rw [e]; simp only [oif_t]
    rw [wr (n := rootV m * rootV m) (by omega) (by omega), decide_eq_false (by omega), oif_f, wr (n := rootV m + 1) (by omega) (by omega), wr (n := (rootV m + 1) * (rootV m + 1)) (by omega) (by omega), decide_eq_false (by omega)]
    exact fin
  · have e : rtV m = (0, false) := by unfold rtV; rw [decide_eq_false h]; rfl
    rw [e]; simp only [oif_f]; exact fin

theorem law_main {d : Nat} {x y : List Int} (hx : Bytes x) (hy : Bytes y) : g4 (d + 7) x y = some true := by
  rw [e4]
  refine oif_skip ?_
  obtain ⟨⟨a, now, w, b⟩, h1, _⟩ := p_DrawDelayStep (d := d + 1) hx
  obtain ⟨m, h2, _⟩ := p_DrawRootOf (d := d + 2) hy
  obtain ⟨⟨j, c⟩, h3, _⟩ := p_DrawGapAfter (d := d + 2) hy
  obtain ⟨⟨i, n⟩, h4, _⟩ := p_DrawDropTimes (d := d + 2) hy
  obtain ⟨⟨t1, t2⟩, h5, _⟩ := p_DrawNewDelay (d := d + 2) hy
  have hl : (dtV i n).1.length < 4194304 := by
    unfold dtV; split
    · rename_i h; simp only [Bool.and_eq_true, decide_eq_true_eq] at h; rw [dtF_len]; omega
    · simp
  simp only [h1, h2, h3, h4, h5, ob_s, q_DelayStep, q_sDelayStep, q_RootOf, q_sRootOf, q_GapAfter, q_sGapAfter, q_DropTimes, q_sDropTimes, q_NewDelay, q_sNewDelay, beq_self_eq_true, Bool.not_true, oif_f, bne_self_eq_false, Bool.and_self, Bool.and_true, q_qInts hl, q_IsDelay, q_sIsDelay]
  exact law_6

theorem lawOk : LawOk Try.prog pvAnn (7) 4 :=
  ⟨rfl, rfl, rfl, fun x y hx hy _ _ => ⟨(x, y), true, law_main (d := 0) hx hy, rfl, rfl⟩⟩

end Go.Proofs.Ytcoojpojnmnboaa
