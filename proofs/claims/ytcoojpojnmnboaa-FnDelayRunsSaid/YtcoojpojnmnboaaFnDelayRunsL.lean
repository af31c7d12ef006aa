/-
  The law FnDelayRuns by value.
  Conditions: bytes.
-/
import Derived.Test.YtcoojpojnmnboaaFnDelayRunsK
set_option linter.all false
namespace Go.Proofs.Ytcoojpojnmnboaa
open Go.Ev Go.Pv

theorem oif_skip {b : Bool} {a : Option Bool} (h : a = some true) : oif b (some true) a = some true := by
  cases b
  · exact h
  · rfl

def okF (m : Int) : Int → Int → List Int → List Int → Prop
  | p, s, a :: r, o :: q => (a ≤ lft o ∧ p ≤ lft o ∧ (lft o).tmod m = 0 ∧ 0 ≤ lft o ∧ lft o ≤ 100000 ∧ (0 ≤ o → o ≠ s)) ∧ okF m (lft o) (if 0 ≤ o then o else s) r q
  | _, _, [], [] => True
  | _, _, [], _ :: _ => False
  | _, _, _ :: _, [] => False

theorem run_ok {m : Int} (hm : 1 ≤ m ∧ m ≤ 1000) : ∀ (l : List Int) (f k : Int) (x : (Int × Int × Int × Bool × Int × Int)) (q : List Int) (p s : Int), (∀ a ∈ l, 0 ≤ a ∧ a ≤ 100000) → f = k * m → 0 ≤ f → p ≤ f → s < f → runF m l f x = some q → okF m p s l q
  | [], f, k, x, q, p, s, ha, hf, h0, hp, hs, h => by
    simp only [runF, Option.some.injEq] at h; subst h; simp only [okF]
  | a :: r, f, k, x, q, p, s, ha, hf, h0, hp, hs, h => by
    have hin := ha a (by simp)
    obtain ⟨k2, hk2⟩ := at_mul (a := a) hf
    have at1 : a ≤ atV a f m ∧ f ≤ atV a f m := by
      obtain ⟨c1, c2⟩ := cl_in hin.1 hm.1
      unfold atV; split <;> omega
    simp only [runF, runS] at h
    generalize atV a f m = t at h hk2 at1
    have htm : t.tmod m = 0 := by rw [hk2]; exact Int.mul_tmod_left _ _
    split at h
    · rename_i hc
      simp only [Bool.and_eq_true, decide_eq_true_eq] at hc
      have ht := hc.1
      split at h
      · obtain ⟨q2, h2, rfl⟩ := Option.map_eq_some_iff.1 h
        have e : lft (-1 - t) = t := by unfold lft; rw [if_pos (by omega)]; omega
        simp only [okF]
        rw [e, if_neg (by omega)]
        exact ⟨⟨at1.1, by omega, htm, ht.1, ht.2, fun h => absurd h (by omega)⟩, run_ok hm r t k2 _ q2 t s (fun b hb => ha b (by simp [hb])) hk2 ht.1 (Int.le_refl _) (by omega) h2⟩
      · obtain ⟨q2, h2, rfl⟩ := Option.map_eq_some_iff.1 h
        have e : lft t = t := by unfold lft; rw [if_neg (by omega)]
        simp only [okF]
        rw [e, if_pos ht.1]
        exact ⟨⟨at1.1, by omega, htm, ht.1, ht.2, fun _ => by omega⟩, run_ok hm r (t + m) (k2 + 1) _ q2 t t (fun b hb => ha b (by simp [hb])) (by rw [Int.add_mul, hk2]; omega) (by omega) (by omega) (by omega) h2⟩
    · simp at h

theorem wt_ok {m : Int} : ∀ (l q : List Int) (p s : Int), okF m p s l q → ∃ w, wtF l q = some w ∧ w.length = l.length
  | [], [], _, _, _ => ⟨[], rfl, rfl⟩
  | [], _ :: _, _, _, h => by simp only [okF] at h
  | _ :: _, [], _, _, h => by simp only [okF] at h
  | a :: r, o :: q, p, s, h => by
    simp only [okF] at h
    obtain ⟨⟨a1, a2, a3, a4, a5, a6⟩, a7⟩ := h
    obtain ⟨w, e, hl⟩ := wt_ok r q _ _ a7
    refine ⟨(lft o - a) :: w, ?_, by simp [hl]⟩
    simp only [wtF]
    rw [decide_eq_true (show 0 ≤ lft o ∧ lft o ≤ 100000 from ⟨a4, a5⟩), decide_eq_true a1, Bool.and_self, if_pos rfl, e]; rfl

theorem wt_in : ∀ (l1 l2 w : List Int), wtF l1 l2 = some w → w.length ≤ l1.length ∧ ∀ y ∈ w, 0 ≤ y
  | [], _, w, h => by simp only [wtF, Option.some.injEq] at h; subst h; exact ⟨by simp, fun y hy => by simp at hy⟩
  | _ :: _, [], w, h => by simp only [wtF, Option.some.injEq] at h; subst h; exact ⟨by simp, fun y hy => by simp at hy⟩
  | a :: r, b :: s, w, h => by
    simp only [wtF] at h
    split at h
    · rename_i hc
      simp only [Bool.and_eq_true, decide_eq_true_eq] at hc
      obtain ⟨w2, h2, rfl⟩ := Option.map_eq_some_iff.1 h
      obtain ⟨i1, i2⟩ := wt_in r s w2 h2
      refine ⟨by simp only [List.length_cons]; omega, fun y hy => ?_⟩
      rcases List.mem_cons.1 hy with rfl | hy
      · omega
      · exact i2 y hy
    · simp at h

theorem wtV_in (l1 l2 : List Int) : (wtV l1 l2).1.length ≤ l1.length ∧ ∀ y ∈ (wtV l1 l2).1, 0 ≤ y := by
  unfold wtV
  split
  · cases h : wtF l1 l2 with
    | none => exact ⟨by simp [resV], fun y hy => by simp [resV] at hy⟩
    | some w => simp only [resV, List.nil_append]; exact wt_in l1 l2 w h
  · exact ⟨by simp, fun y hy => by simp at hy⟩

theorem rnV_len (x : (Int × Int × Int × Bool × Int × Int)) (l : List Int) (m : Int) : (rnV x l m).1.length ≤ l.length := by
  unfold rnV
  split
  · cases h : runF m l 0 x with
    | none => simp [resV]
    | some q => simp only [resV, List.nil_append]; have := (run_len l 0 x q h).1; omega
  · simp

theorem loop0 {d : Nat} {t : List Int × Bool} {K : Bool → Option Bool} (ht : ∀ y ∈ t.1, 0 ≤ y) (hl : t.1.length < 4194304) : ∀ (k fuel i : Nat), i + k = t.1.length → k < fuel → iterP (l12_0 d t K) fuel (false, (i : Int)) = K false := by
  intro k
  induction k with
  | zero =>
    intro fuel i g1 g2
    cases fuel with
    | zero => omega
    | succ f =>
      have e : t.1.length = i := by omega
      simp only [iterP, l12_0, l12_0_b]
      rw [e, ltn, oif_f]
  | succ k ih =>
    intro fuel i g1 g2
    cases fuel with
    | zero => omega
    | succ f =>
      have hlt : i < t.1.length := by omega
      have hx : t.1[i]? = some t.1[i] := List.getElem?_eq_getElem hlt
      have hy := ht _ (List.getElem_mem hlt)
      simp only [iterP, l12_0, l12_0_b]
      rw [ltl hx, oif_t, nn, oif_t, ofNat_toNat, bltl hx, oif_t, hx, ob_s, decide_eq_false (by omega), oif_f, wr1 (by omega)]
      exact ih f (i + 1) (by omega) (by omega)

theorem loop1 {d : Nat} {x : (Int × Int × Int × Bool × Int × Int)} {l : List Int} {m : Int} {t : List Int × Bool} {K : Bool → Option Bool} (hm : 1 ≤ m) (hl : l.length ≤ 40) (hs : Sm t.1) (he : t.1.length = l.length) : ∀ (k fuel i : Nat) (p s : Int), i + k = l.length → k < fuel → okF m p s (l.drop i) (t.1.drop i) → iterP (l12_1 d (x, l, m) t K) fuel (false, p, s, (i : Int)) = K false := by
  intro k
  induction k with
  | zero =>
    intro fuel i p s g1 g2 _
    cases fuel with
    | zero => omega
    | succ f =>
      have e : t.1.length = i := by omega
      simp only [iterP, l12_1, l12_1_b]
      rw [e, ltn, oif_f]
  | succ k ih =>
    intro fuel i p s g1 g2 g3
    cases fuel with
    | zero => omega
    | succ f =>
      have hlt1 : i < l.length := by omega
      have hlt2 : i < t.1.length := by omega
      have hx1 : l[i]? = some l[i] := List.getElem?_eq_getElem hlt1
      have hx2 : t.1[i]? = some t.1[i] := List.getElem?_eq_getElem hlt2
      have ho := hs _ (List.getElem_mem hlt2)
      rw [List.drop_eq_getElem_cons hlt1, List.drop_eq_getElem_cons hlt2] at g3
      simp only [okF] at g3
      obtain ⟨⟨a1, a2, a3, a4, a5, a6⟩, a7⟩ := g3
      have hm0 : (m == 0) = false := by rw [beq_eq_false_iff_ne]; omega
      have body : ∀ (tt : Int) (bb : Bool), tt = lft t.1[i] → j12_2 d (x, l, m) (iterP (l12_1 d (x, l, m) t K) f) false p s (i : Int) t.1[i] tt bb = K false := by
        intro tt bb ht
        rw [← ht] at a1 a2 a3 a4 a5 a7
        unfold j12_2
        simp only [nn, oif_t, ofNat_toNat, bltl hx1, hx1, ob_s, hm0, oif_f, a3, bne_self_eq_false]
        rw [decide_eq_false (show ¬ tt < l[i] by omega), oif_f, decide_eq_false (show ¬ tt < p by omega), oif_f]
        by_cases hc : t.1[i] ≥ 0
        · rw [if_pos hc] at a7
          rw [decide_eq_true hc, oif_t, show (t.1[i] == s) = false by rw [beq_eq_false_iff_ne]; exact a6 hc]
          unfold j12_1
          rw [oif_f, decide_eq_true hc, oif_t, wr1 (by omega)]
          exact ih f (i + 1) tt _ (by omega) (by omega) a7
        · rw [if_neg (show ¬ 0 ≤ t.1[i] from hc)] at a7
          rw [decide_eq_false hc, oif_f]
          unfold j12_1
          rw [oif_f, decide_eq_false hc, oif_f, wr1 (by omega)]
          exact ih f (i + 1) tt s (by omega) (by omega) a7
      simp only [iterP, l12_1, l12_1_b]
      rw [ltl hx2, oif_t, nn, oif_t, ofNat_toNat, bltl hx2, oif_t, hx2, ob_s]
      by_cases hc : t.1[i] < 0
      · rw [decide_eq_true hc, oif_t, wr (by omega) (by omega)]
        exact body _ true (by unfold lft; rw [if_pos hc])
      · rw [decide_eq_false hc, oif_f]
        exact body _ false (by unfold lft; rw [if_neg hc])

theorem law_0 {d : Nat} {x : (Int × Int × Int × Bool × Int × Int)} {l q w : List Int} {m : Int} {b : Bool} (har : arOk l = true) (hq : q.length = l.length) (hs : Sm q) (hw : wtF l q = some w) (hwl : w.length = l.length) : j12_0 (d + 7) (x, l, m) (q, true) (q, true) b = some true := by
  have h40 := ar_len har
  have ew : wtV l q = (w, true) := by
    unfold wtV
    rw [har, hq, bne_self_eq_false, if_pos (by rfl), hw]; simp [resV]
  have ed : dnV q = (dnF q 0, true) := by
    unfold dnV
    rw [decide_eq_false (by omega), if_neg (by simp)]
  unfold j12_0
  simp only [q_WaitsOfRun (show l.length < 4194304 by omega) hs, ob_s, q_DropsIn, q_sDropsIn, ew, ed, oif_t, beq_self_eq_true, hwl, hq]

theorem law_3 {d : Nat} {x : (Int × Int × Int × Bool × Int × Int)} {l : List Int} {m : Int} : j12_3 (d + 7) (x, l, m) (rnV x l m) (rnV x l m) false = some true := by
  unfold j12_3
  by_cases hc : (dlOk x && (arOk l && decide (1 ≤ m ∧ m ≤ 1000))) = true
  case neg =>
    have e : rnV x l m = ([], false) := by unfold rnV; rw [if_neg hc]
    rw [e]; simp only [Bool.not_false, oif_t]
  cases hr : runF m l 0 x with
  | none =>
    have e : rnV x l m = ([], false) := by unfold rnV; rw [if_pos hc, hr]; rfl
    rw [e]; simp only [Bool.not_false, oif_t]
  | some q =>
    have e : rnV x l m = (q, true) := by unfold rnV; rw [if_pos hc, hr]; simp [resV]
    simp only [Bool.and_eq_true, decide_eq_true_eq] at hc
    obtain ⟨hx, har, hm⟩ := hc
    have har2 := har
    simp only [arOk, Bool.and_eq_true] at har2
    obtain ⟨i1, i2⟩ := run_len _ _ _ _ hr
    have ok := run_ok hm l 0 0 x q 0 (-1) (arF_in har2.1) (by omega) (by omega) (by omega) (by omega) hr
    obtain ⟨w, hw, hwl⟩ := wt_ok _ _ _ _ ok
    have h40 := ar_len har
    rw [e]; simp only [Bool.not_true, oif_f]
    exact (loop1 hm.1 h40 i2 i1 l.length fuelN 0 0 (-1) (by omega) (by rw [fuelN_eq]; omega) (by rw [List.drop_zero, List.drop_zero]; exact ok)).trans (law_0 har i1 i2 hw hwl)

theorem law_4 {d : Nat} {x : (Int × Int × Int × Bool × Int × Int)} {l l1 l2 : List Int} {m : Int} (h1 : l1.length ≤ 41) : j12_4 (d + 7) (x, l, m) (rnV x l m) (rnV x l m) (wtV l1 l2) false = some true := by
  unfold j12_4
  rw [oif_f]
  obtain ⟨a1, a2⟩ := wtV_in l1 l2
  exact (loop0 a2 (by omega) _ fuelN 0 (Nat.zero_add _) (by rw [fuelN_eq]; omega)).trans law_3

theorem law_main {d : Nat} {x y : List Int} (hx : Bytes x) (hy : Bytes y) : g12 (d + 8) x y = some true := by
  rw [e12]
  refine oif_skip ?_
  obtain ⟨⟨x0, l, m⟩, h1, a1, a2⟩ := p_DrawRunDelay (d := d + 2) hx
  obtain ⟨⟨l1, l2⟩, h2, ⟨b1, b2⟩, b3, b4⟩ := p_DrawWaitsOfRun (d := d + 2) hy
  obtain ⟨q, h3, _⟩ := p_DrawDropsIn (d := d + 3) hy
  simp only at a1 a2 b1 b2 b3 b4
  have n1 := rnV_len x0 l m
  have n2 := (wtV_in l1 l2).1
  simp only [h1, h2, h3, ob_s, q_RunDelay (show l.length < 4194304 by omega), q_sRunDelay (show l.length < 4194304 by omega), q_WaitsOfRun (show l1.length < 4194304 by omega) b3, q_sWaitsOfRun (show l1.length < 4194304 by omega) b3, q_DropsIn, q_sDropsIn, beq_self_eq_true, Bool.not_true, oif_f, bne_self_eq_false, q_qInts (show (rnV x0 l m).1.length < 4194304 by omega), q_qInts (show (wtV l1 l2).1.length < 4194304 by omega)]
  exact law_4 b2

theorem lawOk : LawOk Try.prog pvAnn (8) 12 :=
  ⟨rfl, rfl, rfl, fun x y hx hy _ _ => ⟨(x, y), true, law_main (d := 0) hx hy, rfl, rfl⟩⟩

end Go.Proofs.Ytcoojpojnmnboaa
