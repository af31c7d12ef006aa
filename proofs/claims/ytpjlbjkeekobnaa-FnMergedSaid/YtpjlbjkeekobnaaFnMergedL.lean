/-
  The law FnMerged by value: flows merged by stable sorting and by insertion are the same.
  Conditions: bytes.
-/
import Derived.Test.YtpjlbjkeekobnaaFnMergedK
set_option linter.all false
namespace Go.Proofs.Ytpjlbjkeekobnaa
open Go.Ev Go.Pv

def allT (t : Int) (l : List Fl) : List Tm := l.flatMap fun f => ptL f (untK f t)

theorem allT_cons (t : Int) (f : Fl) (l : List Fl) : allT t (f :: l) = ptL f (untK f t) ++ allT t l := by simp [allT]

theorem allT_snoc (t : Int) (f : Fl) (l : List Fl) : allT t (l ++ [f]) = allT t l ++ ptL f (untK f t) := by simp [allT]

theorem untK_le (f : Fl) (t : Int) : untK f t ≤ 60 := by have := (untN_in (c := fun k => decide ((ptV f k).1 > t)) 60 0).2.1; unfold untK; omega

theorem allT_len (t : Int) : ∀ l : List Fl, (allT t l).length ≤ 60 * l.length
  | [] => by simp [allT]
  | f :: l => by
    have := allT_len t l
    have := untK_le f t
    rw [allT_cons, List.length_append, ptL_len, List.length_cons]; omega

def mgOk (l : List Fl) (t : Int) : Bool := l.all flowOk && (decide (l.length ≤ 6) && tkOk t)

def rn : Nat → List Tm → List Tm
  | _, [] => []
  | i, x :: r => (x.1, ((i + 1 : Nat) : Int), x.2.2) :: rn (i + 1) r

theorem rn_len : ∀ (i : Nat) (l : List Tm), (rn i l).length = l.length
  | _, [] => rfl
  | i, x :: r => by simp only [rn, List.length_cons, rn_len (i + 1) r]

theorem rn_app : ∀ (i : Nat) (a b : List Tm), rn i (a ++ b) = rn i a ++ rn (i + a.length) b
  | i, [], b => by simp [rn]
  | i, x :: a, b => by
    simp only [List.cons_append, rn, rn_app (i + 1) a b, List.length_cons]
    rw [show i + 1 + a.length = i + (a.length + 1) by omega]

theorem rn_get : ∀ {i k : Nat} {l : List Tm} {x : Tm}, (rn i l)[k]? = some x → ∃ y, l[k]? = some y ∧ x = (y.1, ((i + k + 1 : Nat) : Int), y.2.2)
  | i, k, [], x, h => by simp [rn] at h
  | i, 0, y :: r, x, h => by simp [rn] at h; exact ⟨y, by simp, by rw [← h]; rfl⟩
  | i, k + 1, y :: r, x, h => by
    simp only [rn, List.getElem?_cons_succ] at h ⊢
    obtain ⟨z, h1, h2⟩ := rn_get h
    exact ⟨z, h1, by rw [h2, show i + 1 + k + 1 = i + (k + 1) + 1 by omega]⟩

def MG (l : List Fl) (t : Int) (r : List Tm × Bool) : Prop := if mgOk l t = true then ∃ s, Stb kyT (allT t l) s ∧ r = (rn 0 (s.take 60), true) else r = ([], false)

theorem MG.uniq {l : List Fl} {t : Int} {r q : List Tm × Bool} (h : MG l t r) (g : MG l t q) : r = q := by
  unfold MG at h g
  split at h
  · rename_i ho
    rw [if_pos ho] at g
    obtain ⟨s, h1, rfl⟩ := h
    obtain ⟨s', h2, rfl⟩ := g
    rw [h1.uniq h2]
  · rename_i ho
    rw [if_neg ho] at g
    rw [h, g]

theorem q_cloneT {d : Nat} {l : List Tm} (hl : l.length ≤ 100000) : g61 (d + 1) l = some l := by
  rw [e61, nilB_same (fun h => ?_), room (by simp; omega), oif_t, List.nil_append]
  rw [List.length_eq_zero_iff.1 h]; rfl

/-- Numbering anew, one after the other. -/
theorem rn_step {pre r : List Tm} {x : Tm} {k : Nat} (hk : k = pre.length) : (rn 0 pre ++ x :: r).set k (x.1, ((k + 1 : Nat) : Int), x.2.2) = rn 0 (pre ++ [x]) ++ r := by
  subst hk
  rw [List.set_append_right _ _ (by rw [rn_len]; exact Nat.le_refl _), rn_len, Nat.sub_self, List.set_cons_zero, rn_app]
  simp [rn]

theorem mg_range {β : Type} {t : Int} {no : Option β} {fin : List Tm → Option β} : ∀ (l : List Fl) (i : Nat) (s : List Tm), s.length + 60 * l.length ≤ 1000 →
    rangeR (fun x _ s k => oif (!flowOk x) no (oif (Nat.ble ((s.length + (ptL x (untK x t)).length) * 56) roomMax) (k (s ++ ptL x (untK x t))) none)) fin l i s = oif (l.all flowOk) (fin (s ++ allT t l)) no
  | [], i, s, _ => by simp [rangeR, allT, oif]
  | x :: r, i, s, h => by
    simp only [List.length_cons] at h
    have := untK_le x t
    simp only [rangeR, List.all_cons]
    cases hx : flowOk x with
    | false => rfl
    | true =>
      rw [Bool.not_true, oif_f, room (by rw [ptL_len]; omega), oif_t, mg_range r (i + 1) _ (by rw [List.length_append, ptL_len]; omega), Bool.true_and, allT_cons, List.append_assoc]

theorem p_MergeFlows {d : Nat} {l : List Fl} {t : Int} (hl : l.length < 4194304) : Ok (g20 (d + 26) l t) (MG l t) := by
  rw [show d + 26 = (d + 24) + 2 from rfl, e20]
  have no : mgOk l t = false → Ok (some (([] : List Tm), false)) (MG l t) := fun h => Ok.some (by unfold MG; rw [if_neg (by rw [h]; simp)])
  unfold mgOk at no
  by_cases h6 : ((l.length : Nat) : Int) > 6
  · rw [decide_eq_true h6, oif_t]; unfold j20_2
    exact no (by rw [decide_eq_false (show ¬ l.length ≤ 6 by omega)]; simp)
  rw [decide_eq_false h6, oif_f, q_isTicks, ob_s]
  change Ok (j20_2 (d + 24) l t (!tkOk t)) _
  unfold j20_2
  cases ht : tkOk t with
  | false => exact no (by rw [ht]; simp)
  | true =>
    rw [Bool.not_true, oif_f]
    have e : iterP (l20_0 (d + 24) l t (j20_1 (d + 24))) fuelN ([], false, ([] : List Tm), 0) = oif (l.all flowOk) (j20_1 (d + 24) false [] (allT t l)) (some ([], false)) := by
      refine (range_eq (fun (s : List Tm) (i : Int) => (([] : List Tm), false, s, i)) l (fun x _ s k => oif (!flowOk x) (some ([], false)) (oif (Nat.ble ((s.length + (ptL x (untK x t)).length) * 56) roomMax) (k (s ++ ptL x (untK x t))) none)) (fun s => j20_1 (d + 24) false [] s) ?_ ?_ (by rw [fuelN_eq]; exact hl) []).trans ?_
      · intro ag s i x hx
        have hi := (List.getElem?_eq_some_iff.1 hx).1
        simp only [l20_0, l20_0_b, ltl hx, nn, ofNat_toNat, hx, ob_s, oif_t]
        rw [q_IsFlow, ob_s]
        cases hf : flowOk x with
        | false => simp only [Bool.not_false, oif_t]
        | true => rw [Bool.not_true, oif_f, oif_f, q_flowUntil hf, ob_s, wr1 (by omega)]
      · intro ag s; simp only [l20_0, l20_0_b, ltn, oif_f]
      · rw [mg_range l 0 [] (by simp; omega), List.nil_append]
    rw [e]
    cases hf : l.all flowOk with
    | false => exact no (by rw [hf]; rfl)
    | true =>
      rw [oif_t]
      unfold j20_1
      have hal := allT_len t l
      refine Ok.bind (p_stableT (d := d) (X := allT t l) (f := false) (by omega)) fun r hr => ?_
      have hrl := hr.len
      have hmin : (if (60 : Int) < ((r.length : Nat) : Int) then (60 : Int) else ((r.length : Nat) : Int)) = ((min 60 r.length : Nat) : Int) := by split <;> omega
      rw [hmin, nn, oif_t, ofNat_toNat, ble_t (by omega), oif_t, q_cloneT (by simp; omega), ob_s]
      have htk : r.take (min 60 r.length) = r.take 60 := by
        rcases Nat.le_total 60 r.length with h | h
        · rw [Nat.min_eq_left h]
        · rw [Nat.min_eq_right h, List.take_length, List.take_of_length_le h]
      rw [htk]
      have hfin : MG l t (rn 0 (r.take 60), true) := by
        unfold MG mgOk
        rw [hf, ht, decide_eq_true (show l.length ≤ 6 by omega)]
        simp only [Bool.and_self, if_true]
        exact ⟨r, hr, rfl⟩
      have hq60 : (r.take 60).length ≤ 60 := by simp; omega
      generalize r.take 60 = q at hfin hq60
      refine iter_ok (fun k st => ∃ pre s, q = pre ++ s ∧ st = (((pre.length : Nat) : Int), rn 0 pre ++ s) ∧ k = s.length) ?_ _ q.length _ (by rw [fuelN_eq]; omega) ⟨[], q, rfl, rfl, rfl⟩
      · rintro k st ag ⟨pre, s, e1, rfl, rfl⟩ hag
        simp only [l20_1, l20_1_b]
        cases s with
        | nil =>
          rw [List.append_nil] at e1
          subst e1
          rw [decide_eq_false (by omega), oif_f]
          unfold j20_0
          rw [List.append_nil]
          exact Ok.some hfin
        | cons x s =>
          have hq := congrArg List.length e1
          simp only [List.length_append, List.length_cons] at hq
          have hx : (rn 0 pre ++ x :: s)[pre.length]? = some x := by
            rw [List.getElem?_append_right (by rw [rn_len]; exact Nat.le_refl _), rn_len, Nat.sub_self]; rfl
          rw [decide_eq_true (show ((pre.length : Nat) : Int) < ((q.length : Nat) : Int) by omega), oif_t, nn, oif_t, ofNat_toNat, blt_of (List.getElem?_eq_some_iff.1 hx).1, oif_t, hx, ob_s, wr1 (by omega), rn_step rfl]
          refine hag s.length _ (by simp) ⟨pre ++ [x], s, by rw [e1]; simp, by simp, rfl⟩

theorem p_tfMerge {d : Nat} {l : List Fl} {t : Int} (hl : l.length ≤ 6) (hf : ∀ x ∈ l, flowOk x = true) : Ok (g64 (d + 7) l t) fun r => ∃ s, Stb kyT (allT t l) s ∧ r = rn 0 (s.take 60) := by
  rw [show d + 7 = (d + 6) + 1 from rfl, e64]
  refine iter_ok (fun k st => ∃ l1 l2 S, l = l1 ++ l2 ∧ Stb kyT (allT t l1) S ∧ st = (S, ((l1.length : Nat) : Int)) ∧ k = l2.length) ?_ _ l.length _ (by rw [fuelN_eq]; omega) ⟨[], l, [], rfl, Stb.self List.Pairwise.nil, rfl, rfl⟩
  rintro k st ag ⟨l1, l2, S, e1, hS, rfl, rfl⟩ hag
  simp only [l64_0, l64_0_b]
  have hSl := hS.len
  have hal := allT_len t l1
  have hll := congrArg List.length e1
  simp only [List.length_append] at hll
  cases l2 with
  | nil =>
    rw [List.append_nil] at e1
    subst e1
    rw [decide_eq_false (by omega), oif_f]
    unfold j64_1
    rw [q_l1Least, ob_s]
    have hmin : min ((S.length : Nat) : Int) 60 = ((min 60 S.length : Nat) : Int) := by omega
    rw [hmin, nn, oif_t, ofNat_toNat, ble_t (by omega), oif_t]
    have htk : S.take (min 60 S.length) = S.take 60 := by
      rcases Nat.le_total 60 S.length with h | h
      · rw [Nat.min_eq_left h]
      · rw [Nat.min_eq_right h, List.take_length, List.take_of_length_le h]
    have hm : min 60 S.length ≤ 60 := Nat.min_le_left ..
    have hm2 : min 60 S.length ≤ S.length := Nat.min_le_right ..
    have hfin : ∃ s, Stb kyT (allT t l) s ∧ rn 0 (S.take (min 60 S.length)) = rn 0 (s.take 60) := ⟨S, hS, by rw [htk]⟩
    generalize min 60 S.length = q at hfin hm hm2
    refine iter_ok (fun k st => ∃ pre s, S = pre ++ s ∧ pre.length ≤ q ∧ st = (((pre.length : Nat) : Int), rn 0 pre ++ s) ∧ k = q - pre.length) ?_ _ q _ (by rw [fuelN_eq]; omega) ⟨[], S, rfl, by simp, rfl, by simp⟩
    rintro k st ag ⟨pre, s, e1, h1, rfl, rfl⟩ hag
    simp only [l64_3, l64_3_b, ofNat_toNat]
    by_cases hc : pre.length = q
    · rw [decide_eq_false (by omega), oif_f]
      unfold j64_0
      refine Ok.some ?_
      rw [ofNat_toNat, ← hc, ← rn_len 0 pre, List.take_left]
      rw [e1, ← hc, List.take_left] at hfin
      exact hfin
    · cases s with
      | nil => rw [e1, List.append_nil] at hm2; omega
      | cons x s =>
        have hx : (rn 0 pre ++ x :: s)[pre.length]? = some x := by
          rw [List.getElem?_append_right (by rw [rn_len]; exact Nat.le_refl _), rn_len, Nat.sub_self]; rfl
        rw [decide_eq_true (show ((pre.length : Nat) : Int) < ((q : Nat) : Int) by omega), oif_t, nn, oif_t, blt_of (by omega), oif_t, hx, ob_s, wr1 (by omega), rn_step rfl]
        refine hag (q - (pre.length + 1)) _ (by omega) ⟨pre ++ [x], s, by rw [e1]; simp, by simp; omega, by simp, by simp⟩
  | cons f l2 =>
    simp only [List.length_cons] at hll
    have hff := hf f (by rw [e1]; simp)
    have hfl : l[l1.length]? = some f := by rw [e1]; simp
    rw [decide_eq_true (by omega), oif_t, nn, oif_t, ofNat_toNat, hfl, ob_s, q_tfUntil hff, ob_s]
    have hu := untK_le f t
    have hP : (ptL f (untK f t)).length ≤ 60 := by rw [ptL_len]; exact hu
    have hnext : ∀ R, Stb kyT (allT t (l1 ++ [f])) R → Ok (j64_2 (d + 6) ag ((l1.length : Nat) : Int) ((ptL f (untK f t)).length : Int) R) fun r => ∃ s, Stb kyT (allT t l) s ∧ r = rn 0 (s.take 60) := by
      intro R hR
      unfold j64_2
      rw [wr1 (by omega)]
      exact hag l2.length _ (by simp) ⟨l1 ++ [f], l2, R, by rw [e1]; simp, hR, by simp, rfl⟩
    rw [allT_snoc] at hnext
    clear hag
    generalize ptL f (untK f t) = P at hP hnext
    refine iter_ok (fun k st => ∃ P1 P2 R, P = P1 ++ P2 ∧ Stb kyT (allT t l1 ++ P1) R ∧ st = (R, ((P1.length : Nat) : Int)) ∧ k = P2.length) ?_ _ P.length _ (by rw [fuelN_eq]; omega) ⟨[], P, S, rfl, by simpa using hS, rfl, rfl⟩
    rintro k st ag2 ⟨P1, P2, R, e2, hR, rfl, rfl⟩ hag2
    simp only [l64_1, l64_1_b]
    have hRl := hR.len
    have hPl := congrArg List.length e2
    simp only [List.length_append] at hPl hRl
    cases P2 with
    | nil =>
      rw [List.append_nil] at e2
      subst e2
      rw [decide_eq_false (by omega), oif_f]
      exact hnext R hR
    | cons x P2 =>
      simp only [List.length_cons] at hPl
      have hx : P[P1.length]? = some x := by rw [e2]; simp
      rw [decide_eq_true (by omega), oif_t, nn, oif_t, ofNat_toNat, blt_of (by omega), oif_t, hx, ob_s]
      have fin : ∀ (S1 S2 : List Tm) (n : Int) (b1 b2 : Bool), R = S1 ++ S2 → (∀ z ∈ S1, kyT z ≤ kyT x) → (∀ z ∈ S2, kyT x < kyT z) → Ok (j64_3 (d + 6) ag2 R ((P1.length : Nat) : Int) x ((S1.length : Nat) : Int) n b1 b2) fun r => ∃ s, Stb kyT (allT t l) s ∧ r = rn 0 (s.take 60) := by
        intro S1 S2 n b1 b2 e3 g1 g2
        have h3 := congrArg List.length e3
        simp only [List.length_append] at h3
        unfold j64_3
        rw [nn, oif_t, ofNat_toNat, ble_t (by omega), oif_t, room (by simp; omega), oif_t, room (by simp; omega), oif_t, oif_t, oif_t, room (by simp; omega), oif_t, wr1 (by omega), Nat.zero_add, e3, List.take_left, List.drop_left, List.nil_append]
        subst e3
        have hR2 := hR.ins g1 g2
        rw [List.append_assoc] at hR2
        refine hag2 P2.length _ (by simp) ⟨P1 ++ [x], P2, _, by rw [e2]; simp, hR2, by simp, rfl⟩
      refine iter_ok (fun k st => ∃ S1 S2, R = S1 ++ S2 ∧ (∀ z ∈ S2, kyT x < kyT z) ∧ st = ((S1.length : Nat) : Int) ∧ k = S1.length) ?_ _ R.length _ (by rw [fuelN_eq]; omega) ⟨R, [], by simp, by simp, rfl, rfl⟩
      rintro k st ag3 ⟨S1, S2, e3, g2, rfl, rfl⟩ hag3
      simp only [l64_2, l64_2_b]
      have h3 := congrArg List.length e3
      simp only [List.length_append] at h3
      rcases List.eq_nil_or_concat S1 with rfl | ⟨S1, z, rfl⟩
      · rw [decide_eq_false (by simp), oif_f]
        exact fin [] S2 _ _ _ e3 (by simp) g2
      · simp only [List.concat_eq_append, List.length_append, List.length_cons, List.length_nil] at e3 h3 hag3 ⊢
        rw [decide_eq_true (by omega), oif_t, wrP (by omega) (by omega), nn, oif_t, ofNat_toNat, blt_of (by omega), oif_t]
        have hz : R[S1.length + (0 + 1) - 1]? = some z := by
          rw [e3, show S1.length + (0 + 1) - 1 = S1.length by omega]; simp
        rw [hz, ob_s]
        by_cases hk : z.1 > x.1
        · rw [decide_eq_true hk, oif_t]
          refine hag3 S1.length _ (by omega) ⟨S1, z :: S2, by rw [e3]; simp, fun w hw => ?_, by simp, rfl⟩
          rcases List.mem_cons.1 hw with rfl | hw
          · exact hk
          · exact g2 w hw
        · rw [decide_eq_false hk, oif_f]
          have hs := hR.srt
          rw [e3] at hs
          have := fin (S1 ++ [z]) S2 ((S1.length + (0 + 1) : Nat) : Int) true true e3 (fun w hw => ?_) g2
          · simpa using this
          · rcases List.mem_append.1 hw with hw | hw
            · have := (Srt.left hs).across w hw z (by simp)
              have hd' : z.1 ≤ x.1 := by omega
              exact Int.le_trans this hd'
            · simp at hw; subst hw; show w.1 ≤ x.1; omega

theorem p_sMergeFlows {d : Nat} {l : List Fl} {t : Int} (hl : l.length < 4194304) : Ok (g21 (d + 8) l t) (MG l t) := by
  rw [show d + 8 = (d + 7) + 1 from rfl, e21]
  have no : mgOk l t = false → Ok (some (([] : List Tm), false)) (MG l t) := fun h => Ok.some (by unfold MG; rw [if_neg (by rw [h]; simp)])
  unfold mgOk at no
  have e : iterP (l21_0 (d + 7) l (j21_0 (d + 7) l t)) fuelN ([], false, 0) = oif (l.all flowOk) (j21_0 (d + 7) l t false []) (some ([], false)) := by
    refine (range_eq (fun (s : Bool) (i : Int) => (([] : List Tm), s, i)) l (fun x _ s k => oif (flowOk x) (k s) (some ([], false))) (fun s => j21_0 (d + 7) l t s []) ?_ ?_ (by rw [fuelN_eq]; exact hl) false).trans ?_
    · intro ag s i x hx
      have hi := (List.getElem?_eq_some_iff.1 hx).1
      simp only [l21_0, l21_0_b, ltl hx, nn, ofNat_toNat, hx, ob_s, oif_t]
      rw [q_tfGood, ob_s, wr1 (by omega)]
      cases hf : flowOk x with
      | false => simp only [Bool.not_false, oif_t, oif_f]
      | true => simp only [Bool.not_true, oif_f, oif_t]
    · intro ag s; simp only [l21_0, l21_0_b, ltn, oif_f]
    · exact rangeR_all l 0 false
  rw [e]
  cases hf : l.all flowOk with
  | false => exact no (by rw [hf]; rfl)
  | true =>
    rw [oif_t]
    unfold j21_0
    by_cases h6 : ((l.length : Nat) : Int) > 6
    · rw [decide_eq_true h6, oif_t]
      exact no (by rw [decide_eq_false (show ¬ l.length ≤ 6 by omega)]; simp)
    rw [decide_eq_false h6, oif_f, q_tfTick, ob_s]
    cases ht : tkOk t with
    | false => exact no (by rw [ht]; simp)
    | true =>
      rw [Bool.not_true, oif_f]
      refine Ok.bind (p_tfMerge (by omega) (fun x hx => List.all_eq_true.1 hf x hx)) fun r hr => Ok.some ?_
      obtain ⟨s, h1, rfl⟩ := hr
      unfold MG mgOk
      rw [hf, ht, decide_eq_true (show l.length ≤ 6 by omega)]
      simp only [Bool.and_self, if_true]
      exact ⟨s, h1, rfl⟩

theorem p_DrawMergeFlows {d : Nat} {x : List Int} (hx : Bytes x) : Ok (g19 (d + 6) x) fun r => r.1.length ≤ 10 := by
  rw [e19]
  refine Ok.bind (p_pick (CurOk.new hx) (by omega)) fun r hr => ?_
  obtain ⟨a1, a2, a3⟩ := hr
  refine Ok.bind (p_one a3 (by omega)) fun q hq => ?_
  have fin : ∀ {k : Int} {c : List Int × Int × Int} (n : Nat), n ≤ 100 → k ≤ 10 → CurOk n c → Ok (j19_1 (d + 5) k c.1 c.2.1 c.2.2) fun r => r.1.length ≤ 10 := by
    intro k c n hn hk hc
    unfold j19_1
    refine iter_ok (fun w s => s.1.length + w = 10 ∧ CurOk (n + 30 * s.1.length) s.2) ?_ _ 10 _ (by rw [fuelN_eq]; omega) ⟨by simp, hc.mono (by simp)⟩
    rintro w ⟨l, c'⟩ ag ⟨e1, e2⟩ hag
    simp only at e1 e2
    simp only [l19_0, l19_0_b]
    refine Ok.oif (fun h => ?_) (fun h => ?_)
    · simp only [decide_eq_true_eq] at h
      refine Ok.bind (p_flow e2 (by omega)) fun r hr => ?_
      rw [room (by simp; omega), oif_t]
      exact hag (w - 1) _ (by omega) ⟨by simp; omega, hr.mono (by simp; omega)⟩
    · unfold j19_0
      refine Ok.bind (p_tick (m := n + 30 * l.length) e2 (by omega)) fun r hr => Ok.some (by show l.length ≤ 10; omega)
  refine Ok.oif (fun _ => ?_) (fun _ => ?_)
  · refine Ok.bind (p_pick hq (by omega)) fun u hu => ?_
    obtain ⟨b1, b2, b3⟩ := hu
    rw [wr (by omega) (by omega)]
    exact fin _ (by omega) (by omega) b3
  · exact fin _ (by omega) (by omega) hq

theorem p_timed {d m : Nat} {c : List Int × Int × Int} (hc : CurOk m c) (hm : m ≤ 100) : Ok (g65 (d + 6) c) fun r => r.1.length ≤ 100 ∧ CurOk 10000 r.2 := by
  rw [e65]
  refine Ok.bind (p_pick hc (by omega)) fun r hr => ?_
  obtain ⟨a1, a2, a3⟩ := hr
  refine Ok.bind (p_pick a3 (by omega)) fun q hq => ?_
  obtain ⟨b1, b2, b3⟩ := hq
  refine Ok.bind (p_one b3 (by omega)) fun u hu => ?_
  have fin0 : ∀ {l : List Tm} {c : List Int × Int × Int}, l.length ≤ 100 → CurOk 9000 c → Ok (j65_0 (d + 5) c.1 c.2.1 c.2.2 l) fun r => r.1.length ≤ 100 ∧ CurOk 10000 r.2 := by
    intro l c hl hc
    unfold j65_0
    refine Ok.oif (fun h => ?_) (fun _ => Ok.some ⟨hl, hc.mono (by omega)⟩)
    simp only [decide_eq_true_eq] at h
    refine Ok.bind (p_pick hc (by omega)) fun r hr => ?_
    obtain ⟨c1, c2, c3⟩ := hr
    have hlt : r.1.toNat < l.length := by omega
    rw [decide_eq_true (show 0 ≤ r.1 by omega), oif_t, blt_of hlt, oif_t]
    refine Ok.bind (p_pick c3 (by omega)) fun v hv => ?_
    obtain ⟨d1, d2, d3⟩ := hv
    refine Ok.oif (fun _ => ?_) fun _ => Ok.oif (fun _ => ?_) fun _ => Ok.oif (fun _ => ?_) fun _ => Ok.some ⟨hl, d3.mono (by omega)⟩
    · refine Ok.bind (p_among d3 (by omega) (by simp)) fun w hw => ?_
      rw [List.getElem?_eq_getElem hlt, ob_s]
      exact Ok.some ⟨by simp; omega, hw.2.mono (by omega)⟩
    · refine Ok.bind (p_anyPacket d3 (by omega)) fun w hw => ?_
      rw [List.getElem?_eq_getElem hlt, ob_s]
      exact Ok.some ⟨by simp; omega, hw.mono (by omega)⟩
    · refine Ok.bind (p_pick d3 (by omega)) fun w hw => ?_
      have hl1 : l.length - 1 < l.length := by omega
      rw [wr (n := ((l.length : Nat) : Int) - 1) (by omega) (by omega), show ((l.length : Nat) : Int) - 1 = ((l.length - 1 : Nat) : Int) by omega, nn, oif_t, ofNat_toNat, blt_of hl1, oif_t, List.getElem?_eq_getElem hl1, ob_s]
      exact Ok.some ⟨by simp; omega, hw.2.2.mono (by omega)⟩
  have fin : ∀ {k : Int} {r : Int × (List Int × Int × Int)} {c : List Int × Int × Int} (n : Nat), n ≤ 120 → 0 ≤ r.1 → r.1 ≤ 5 → k ≤ 100 → CurOk n c → Ok (j65_1 (d + 5) r k c.1 c.2.1 c.2.2) fun r => r.1.length ≤ 100 ∧ CurOk 10000 r.2 := by
    intro k r c n hn hr0 hr1 hk hc
    unfold j65_1
    refine iter_ok (fun w s => s.1.length + w = 100 ∧ 0 ≤ s.2.1 ∧ s.2.1 ≤ 5 + 10 * (s.1.length : Int) ∧ CurOk (n + 30 * s.1.length) s.2.2) ?_ _ 100 _ (by rw [fuelN_eq]; omega) ⟨by simp, hr0, by simpa using hr1, hc.mono (by simp)⟩
    rintro w ⟨l, t, c'⟩ ag ⟨e1, e2, e3, e4⟩ hag
    simp only at e1 e2 e3 e4
    simp only [l65_0, l65_0_b]
    refine Ok.oif (fun h => ?_) (fun h => ?_)
    · simp only [decide_eq_true_eq] at h
      refine Ok.bind (p_packet e4 (by omega)) fun r hr => ?_
      rw [room (by simp; omega), oif_t]
      refine Ok.bind (p_among hr (by omega) (by simp)) fun v hv => ?_
      have hv0 : 0 ≤ v.1 ∧ v.1 ≤ 10 := by
        have := hv.1
        simp only [List.mem_cons, List.not_mem_nil, or_false] at this
        omega
      rw [wr (n := t + v.1) (by omega) (by omega)]
      exact hag (w - 1) _ (by omega) ⟨by simp; omega, by simp only; omega, by simp only [List.length_append, List.length_cons, List.length_nil]; omega, hv.2.mono (by simp; omega)⟩
    · exact fin0 (c := c') (by omega) (e4.mono (by omega))
  refine Ok.oif (fun _ => ?_) (fun _ => ?_)
  · refine Ok.bind (p_pick hu (by omega)) fun v hv => ?_
    obtain ⟨d1, d2, d3⟩ := hv
    rw [wr (by omega) (by omega)]
    exact fin _ (by omega) a1 (by omega) (by omega) d3
  · exact fin _ (by omega) a1 (by omega) (by omega) hu

theorem p_DrawBytesUntil {d : Nat} {x : List Int} (hx : Bytes x) : Ok (g22 (d + 7) x) fun r => r.1.length ≤ 100 := by
  rw [e22]
  refine Ok.bind (p_timed (CurOk.new hx) (by omega)) fun r hr => ?_
  exact Ok.bind (p_tick hr.2 (by omega)) fun q hq => Ok.some hr.1

theorem p_DrawPeakIn {d : Nat} {x : List Int} (hx : Bytes x) : Ok (g25 (d + 7) x) fun r => r.1.length ≤ 100 := by
  rw [e25]
  refine Ok.bind (p_timed (CurOk.new hx) (by omega)) fun r hr => ?_
  exact Ok.bind (p_among hr.2 (by omega) (by simp)) fun q hq => Ok.some hr.1

theorem ptL_tick {f : Fl} {t : Int} : ∀ x ∈ ptL f (untK f t), x.1 ≤ t := by
  intro x hx
  obtain ⟨k, hk, rfl⟩ := List.mem_map.1 hx
  have := (untN_in (c := fun k => decide ((ptV f k).1 > t)) 60 0).2.2.1 k (by omega) (by have := List.mem_range.1 hk; unfold untK at this; exact this)
  simp only [decide_eq_false_iff_not] at this
  omega

theorem ptL_low {f : Fl} {k : Nat} (hf : flowOk f = true) : ∀ x ∈ ptL f k, 0 ≤ x.1 := by
  intro x hx
  obtain ⟨k, hk, rfl⟩ := List.mem_map.1 hx
  exact (tickA_in hf _).1

theorem allT_tick {t : Int} {l : List Fl} (hf : l.all flowOk = true) : ∀ x ∈ allT t l, 0 ≤ x.1 ∧ x.1 ≤ t := by
  intro x hx
  obtain ⟨f, h1, h2⟩ := List.mem_flatMap.1 hx
  exact ⟨ptL_low (List.all_eq_true.1 hf f h1) x h2, ptL_tick x h2⟩

/-- The third part: what merged packets are. -/
theorem law_3 {d : Nat} {l : List Fl} {t : Int} {r : List Tm × Bool} (h : MG l t r) : j4_3 (d + 26) (l, t) r r = some true := by
  unfold j4_3
  cases hr2 : r.2 with
  | false => rfl
  | true =>
    rw [Bool.not_true, oif_f]
    unfold MG at h
    split at h
    case isFalse => rw [h] at hr2; simp at hr2
    rename_i ho
    obtain ⟨s, hs, rfl⟩ := h
    unfold mgOk at ho
    simp only [Bool.and_eq_true, decide_eq_true_eq] at ho
    obtain ⟨hf, h6, ht⟩ := ho
    have hal := allT_len t l
    have hsl := hs.len
    have hlast : ∀ n : Int, n = (((allT t l).length : Nat) : Int) → j4_2 (d + 26) (l, t) (rn 0 (s.take 60), true) false n = some true := by
      intro n hn
      have hrl : (rn 0 (s.take 60)).length = min 60 (allT t l).length := by rw [rn_len, List.length_take, hsl]
      have hord : ∀ m : Int, m = ((min 60 (allT t l).length : Nat) : Int) → j4_1 (d + 26) (l, t) (rn 0 (s.take 60), true) false m = some true := by
        intro m hm
        unfold j4_1
        refine Ok.val ?_
        refine iter_ok (fun k st => ∃ i : Nat, i + k = (rn 0 (s.take 60)).length ∧ st.2.2 = (i : Int) ∧ (∀ j, i ≤ j → ∀ x, s[j]? = some x → st.2.1 ≤ x.1)) ?_ _ _ _ (by rw [fuelN_eq, hrl]; omega) ⟨0, Nat.zero_add _, rfl, fun j _ x hx => ?_⟩
        · rintro k ⟨b, a, i'⟩ ag ⟨i, h1, h2, h3⟩ hag
          simp only at h2 h3
          subst h2
          simp only [l4_1, l4_1_b]
          by_cases hi : i < (rn 0 (s.take 60)).length
          · obtain ⟨x, hx⟩ : ∃ x, (rn 0 (s.take 60))[i]? = some x := ⟨_, List.getElem?_eq_getElem hi⟩
            obtain ⟨y, hy, rfl⟩ := rn_get hx
            have hi60 : i < 60 := by rw [hrl] at hi; omega
            rw [List.getElem?_take_of_lt hi60] at hy
            have hyt := allT_tick hf y (hs.mem.1 (List.mem_iff_getElem?.2 ⟨i, hy⟩))
            have hya := h3 i (Nat.le_refl _) y hy
            rw [decide_eq_true (show ((i : Nat) : Int) < (((rn 0 (s.take 60)).length : Nat) : Int) by omega), oif_t, nn, oif_t, ofNat_toNat, blt_of hi, oif_t, hx, ob_s]
            simp only []
            rw [decide_eq_false (show ¬ y.1 < a by omega), oif_f, decide_eq_false (show ¬ y.1 > t by omega), oif_f, wr1 (by omega), Nat.zero_add, bne_self_eq_false, oif_f]
            refine hag (k - 1) _ (by omega) ⟨i + 1, by omega, rfl, fun j hj x hx2 => ?_⟩
            exact hs.srt.get (i := i) (j := j) (by omega) hy hx2
          · rw [decide_eq_false (show ¬ ((i : Nat) : Int) < (((rn 0 (s.take 60)).length : Nat) : Int) by omega), oif_f]
            unfold j4_0
            refine Ok.some ?_
            rw [beq_iff_eq, hm, hrl]
        · exact (allT_tick hf x (hs.mem.1 (List.mem_iff_getElem?.2 ⟨j, hx⟩))).1
      unfold j4_2
      by_cases hc : n > 60
      · rw [decide_eq_true hc, oif_t]; exact hord 60 (by omega)
      · rw [decide_eq_false hc, oif_f]; exact hord n (by omega)
    refine Ok.val ?_
    refine iter_ok (fun k st => ∃ l1 l2, l = l1 ++ l2 ∧ st = (false, (((allT t l1).length : Nat) : Int), ((l1.length : Nat) : Int)) ∧ k = l2.length) ?_ _ l.length _ (by rw [fuelN_eq]; omega) ⟨[], l, rfl, rfl, rfl⟩
    rintro k st ag ⟨l1, l2, e1, rfl, rfl⟩ hag
    simp only [l4_0, l4_0_b]
    have hll := congrArg List.length e1
    simp only [List.length_append] at hll
    cases l2 with
    | nil =>
      rw [List.append_nil] at e1
      subst e1
      rw [decide_eq_false (by omega), oif_f]
      exact Ok.eq (hlast _ rfl) rfl
    | cons f l2 =>
      simp only [List.length_cons] at hll
      have hx : l[l1.length]? = some f := by rw [e1]; simp
      have hff : flowOk f = true := List.all_eq_true.1 hf f (by rw [e1]; simp)
      have hal1 := allT_len t l1
      have hu := untK_le f t
      rw [decide_eq_true (by omega), oif_t, nn, oif_t, ofNat_toNat, blt_of (by omega), oif_t, hx, ob_s, q_FlowUntil, ob_s, q_sFlowUntil, ob_s]
      have e3 : fuV f t = (ptL f (untK f t), true) := by unfold fuV; rw [hff, ht]; rfl
      rw [e3]
      simp only [Bool.not_true, oif_f]
      rw [q_qTimedM (by rw [ptL_len]; omega), ob_s, Bool.not_true, oif_f, wr (by rw [ptL_len]; omega) (by rw [ptL_len]; omega), wr1 (by omega)]
      refine hag l2.length _ (by simp) ⟨l1 ++ [f], l2, by rw [e1]; simp, ?_, rfl⟩
      rw [allT_snoc]; simp

theorem law_all {d : Nat} {x y : List Int} (hx : Bytes x) (hy : Bytes y) : g4 (d + 27) x y = some true := by
  rw [show d + 27 = (d + 26) + 1 from rfl, e4]
  refine Ok.val ?_
  refine Ok.oif (fun _ => Ok.some rfl) fun _ => ?_
  refine Ok.bind (p_DrawMergeFlows hx) fun r hr => ?_
  obtain ⟨r1, r2⟩ := r
  simp only at hr ⊢
  obtain ⟨m, hm, hM⟩ := p_MergeFlows (d := d) (l := r1) (t := r2) (by omega)
  obtain ⟨m', hm', hM'⟩ := p_sMergeFlows (d := d + 18) (l := r1) (t := r2) (by omega)
  obtain rfl := hM.uniq hM'
  rw [hm, ob_s, hm', ob_s]
  refine Ok.bind (p_DrawBytesUntil hy) fun b hb => ?_
  rw [q_BytesUntil (by omega), ob_s, q_sBytesUntil (by omega), ob_s]
  refine Ok.bind (p_DrawPeakIn hy) fun p hp => ?_
  rw [q_PeakIn (by omega), ob_s, q_sPeakIn (by omega), ob_s]
  have hml : m.1.length < 4194304 := by
    unfold MG at hM
    split at hM
    · obtain ⟨s, _, rfl⟩ := hM
      simp only [rn_len]
      rw [List.length_take]; omega
    · rw [hM]; simp
  simp only [beq_self_eq_true, Bool.not_true, oif_f, bne_self_eq_false]
  rw [q_qTimedM hml, ob_s]
  simp only [Bool.not_true, oif_f]
  unfold j4_5
  rw [oif_f]
  have h3 := law_3 (d := d) hM
  refine Ok.eq (a := true) ?_ rfl
  have hpt : (pkV p.1 p.2).2 = true → tmsOk p.1 = true ∧ 1 ≤ p.2 ∧ p.2 ≤ 100000 := fun h => by
    unfold pkV at h
    split at h
    · rename_i hc
      simp only [Bool.and_eq_true, decide_eq_true_eq] at hc
      exact hc
    · simp at h
  cases hp2 : (pkV p.1 p.2).2 with
  | false =>
    rw [oif_f]; unfold j4_4
    rw [oif_f]; exact h3
  | true =>
    obtain ⟨k1, k2, k3⟩ := hpt hp2
    rw [oif_t]; unfold j4_4
    by_cases hw : p.2 < 100000
    · rw [decide_eq_true hw, oif_t, wr (by omega) (by omega), q_PeakIn (by omega), ob_s, q_BytesUntil (by omega), ob_s]
      obtain ⟨n1, n2⟩ := tmsOk_in k1
      have e1 : pkV p.1 p.2 = (pkI p.2 0 p.1, true) := by unfold pkV; rw [k1, decide_eq_true ⟨k2, k3⟩]; rfl
      have e2 : pkV p.1 (p.2 + 1) = (pkI (p.2 + 1) 0 p.1, true) := by unfold pkV; rw [k1, decide_eq_true ⟨by omega, by omega⟩]; rfl
      have e3 : buV p.1 100000 = (sumC (fun x => decide (x.1 ≤ 100000)) p.1, true) := by unfold buV; rw [k1]; rfl
      rw [e1, e2, e3]
      simp only [Bool.not_true, oif_f]
      have g1 := pkI_mono (w := p.2) n1 (Int.le_refl 0)
      have g2 := pkI_le (w := p.2 + 1) n1 (Int.le_refl _) (sumC_in n1).1
      rw [decide_eq_false (by omega), oif_f, decide_eq_false (by omega), oif_f]
      exact h3
    · rw [decide_eq_false hw, oif_f]; exact h3

theorem lawOk : LawOk Try.prog pvAnn 27 4 := ⟨rfl, rfl, rfl, fun x y hx hy lx ly => ⟨(x, y), true, law_all (d := 0) (x := x) (y := y) hx hy, rfl, rfl⟩⟩

end Go.Proofs.Ytpjlbjkeekobnaa
