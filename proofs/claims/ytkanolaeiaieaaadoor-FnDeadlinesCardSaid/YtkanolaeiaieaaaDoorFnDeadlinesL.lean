/-
  The law FnDeadlines by value.
  Conditions: bytes.
-/
import Derived.Test.YtkanolaeiaieaaaDoorFnDeadlinesK
import Derived.Test.YtkanolaeiaieaaaDoorVAny
set_option linter.all false
namespace Go.Proofs.YtkanolaeiaieaaaDoor
open Go.Ev Go.Pv

theorem law_0 {d : Nat} {y : List Int} (hy : Bytes y) {b : Bool} : j3_0 (d + 15) y b = some true := by
  unfold j3_0
  obtain ⟨r, h1, h2⟩ := p_DrawEligibleAt (d := d + 7) hy
  obtain ⟨u, h3, h4⟩ := p_DrawSessionText (d := d + 7) hy
  rw [h1, ob_s, q_EligibleAt (d := d + 11) (by omega), ob_s, q_sEligibleAt (d := d + 11) (by omega), ob_s, h3, ob_s, q_SessionText (d := d + 11) (by omega), ob_s, q_sSessionText (d := d) (by omega), ob_s]
  simp only [beq_self_eq_true, oif_t]

theorem sv_le {s : Se} {t m : Int} (hr : rsOk s t = true) (h : t ≤ m) : (svV (if belV s t = true then outV s t else s) m).2 = (svV s m).2 ∧ ((svV s m).2 = true → (svV (if belV s t = true then outV s t else s) m).1 ≤ (svV s m).1) := by
  obtain ⟨hs, r1, r2, r3⟩ := rs_in hr
  obtain ⟨b0, b1, b2, b3, b4, b5, b6, b7, b8⟩ := se_in hs
  cases hb : belV s t with
  | false => rw [if_neg (by simp)]; exact ⟨rfl, fun _ => Int.le_refl _⟩
  | true =>
    rw [if_pos rfl]
    have ho : seOk (outV s t) = true := se_mk b0 b1 ⟨by show 0 ≤ t; omega, r2, by show 0 ≤ s.2.2.2.1; omega, r3, Int.le_refl _, b7, b8⟩
    have eo : (outV s t).2.1 = t := rfl
    unfold svV
    rw [ho, hs, eo]
    by_cases h1 : m ≤ 100000
    · rw [if_pos ⟨by trivial, h, h1⟩, if_pos ⟨by trivial, by omega, h1⟩]
      exact ⟨rfl, fun _ => bel_all hr hb h h1⟩
    · rw [if_neg (fun h2 => h1 h2.2.2), if_neg (fun h2 => h1 h2.2.2)]
      exact ⟨rfl, fun _ => Int.le_refl _⟩

theorem rs_len {s : Se} {t : Int} (hl : s.2.2.2.2.length ≤ 30) : (rsV s t).1.2.2.2.2.length ≤ 30 := by
  unfold rsV
  split
  · split
    · exact hl
    · exact hl
  · simp [noSe]

theorem law_loop {d : Nat} {y : List Int} (hy : Bytes y) {s : Se} {t : Int} (hl : s.2.2.2.2.length ≤ 30) (hr : (rsV s t).2 = true) : iterP (l3_0 (d + 15) (s, t) (rsV s t) (j3_1 (d + 15) y)) fuelN (false, 0) = some true := by
  have hk : rsOk s t = true := by
    unfold rsV at hr
    split at hr
    · assumption
    · simp at hr
  obtain ⟨hs, r1, r2, r3⟩ := rs_in hk
  obtain ⟨b0, b1, b2, b3, b4, b5, b6, b7, b8⟩ := se_in hs
  have hln := rs_len (t := t) hl
  have e1 : (rsV s t).1 = if belV s t = true then outV s t else s := by unfold rsV; rw [if_pos hk]
  refine (range_eq (fun (b : Bool) (i : Int) => (b, i)) [t, t + 1, t + 10, t + 1000, 100000] (fun x i b k => oif (decide (t ≤ x)) (k b) none) (j3_1 (d + 15) y) ?_ ?_ (by rw [fuelN_eq]; simp) false).trans ?_
  · intro ag b i x hx
    have hi := (List.getElem?_eq_some_iff.1 hx).1
    have hm : t ≤ x := by
      have := List.mem_of_getElem? hx
      simp only [List.mem_cons, List.not_mem_nil, or_false] at this
      omega
    simp only [l3_0, l3_0_b]
    rw [wr (n := t + 1) (by omega) (by omega), wr (n := t + 10) (by omega) (by omega), wr (n := t + 1000) (by omega) (by omega)]
    simp only [ltl hx, bltl hx, nn, ofNat_toNat, hx, ob_s, oif_t]
    rw [q_ServiceAt (d := d + 12) (by omega), ob_s, q_ServiceAt (d := d + 12) (by omega), ob_s, e1, wr1 (by simp at hi; omega), decide_eq_true hm, oif_t]
    obtain ⟨g1, g2⟩ := sv_le hk hm
    rw [g1, beq_self_eq_true, Bool.not_true, oif_f]
    cases hv : (svV s x).2 with
    | false => rfl
    | true => rw [oif_t, decide_eq_false (by have := g2 hv; omega), oif_f]
  · intro ag b
    simp only [l3_0, l3_0_b]
    rw [decide_eq_false (by simp), oif_f]
  · have e : [t, t + 1, t + 10, t + 1000, 100000].all (fun x => decide (t ≤ x)) = true := by
      rw [List.all_eq_true]
      intro x hx
      simp only [List.mem_cons, List.not_mem_nil, or_false] at hx
      rw [decide_eq_true_eq]; omega
    rw [rangeR_all (p := fun x => decide (t ≤ x)), e, oif_t]
    exact law_0 hy

theorem law_3 {d : Nat} {y : List Int} (hy : Bytes y) : j3_3 (d + 15) y false = some true := by
  unfold j3_3
  obtain ⟨r, h1, h2⟩ := p_DrawRestartSession (d := d + 7) hy
  have hln := rs_len (t := r.2) h2
  rw [oif_f, h1, ob_s, q_RestartSession (d := d + 12) (by omega), ob_s, q_sRestartSession (d := d + 10) (by omega), ob_s, beq_self_eq_true, Bool.not_true, oif_f, q_pSameSession (d := d + 13) (by omega), ob_s, Bool.not_true]
  unfold j3_2
  rw [oif_f]
  cases hr : (rsV r.1 r.2).2 with
  | false => rw [oif_f]; exact law_0 hy
  | true => rw [oif_t]; exact law_loop hy h2 hr

theorem law_4 {d : Nat} {y : List Int} (hy : Bytes y) {s : Se} (hl : s.2.2.2.2.length ≤ 30) : j3_4 (d + 15) y s = some true := by
  unfold j3_4
  have hso : (soV s).1.2.2.2.2.length ≤ 30 ∧ ((soV s).2.2 = true → ((soV s).1.2.2.2.1 = IntKind.i64.wrap (s.2.2.2.1 + (soV s).2.1)) ∧ IntKind.i64.wrap ((((soV s).1.2.2.2.2.length : Nat) : Int) + 1) = ((s.2.2.2.2.length : Nat) : Int)) := by
    unfold soV
    split
    · exact ⟨by simp [noSe], fun h => by simp at h⟩
    · rename_i x r hz
      split
      · rename_i hc
        obtain ⟨b0, b1, b2, b3, b4, b5, b6, b7, b8⟩ := se_in hc.1
        have hx := szs_in hc.1 x (by rw [hz]; simp)
        rw [hz] at hl
        simp only [List.length_cons] at hl
        refine ⟨by simp only; omega, fun _ => ⟨?_, ?_⟩⟩
        · simp only; rw [wr (by omega) (by omega)]
        · simp only; rw [hz, wr1 (by omega)]; simp
      · exact ⟨by simp [noSe], fun h => by simp at h⟩
  rw [q_ServeOne (d := d + 12) (by omega), ob_s, q_sServeOne (d := d + 11) (by omega), ob_s, beq_self_eq_true, Bool.not_true, oif_f, bne_self_eq_false, oif_f, q_pSameSession (d := d + 13) (by have := hso.1; omega), ob_s, Bool.not_true, oif_f]
  cases hv : (soV s).2.2 with
  | false => rw [oif_f]; exact law_3 hy
  | true =>
    obtain ⟨e1, e2⟩ := hso.2 hv
    rw [oif_t, e1, bne_self_eq_false, oif_f, e2, bne_self_eq_false]
    exact law_3 hy

theorem do_spec {s : Se} (h : (doV s).2 = true) : ∃ (x : Int) (r : List Int), s.2.2.2.2 = x :: r ∧ seOk s = true ∧ 1 ≤ x ∧ x ≤ 1500 ∧ s.2.1 ≤ (doV s).1 ∧ (doV s).1 ≤ 100000 ∧ s.2.2.2.1 + x ≤ seAt s (doV s).1 ∧ ((doV s).1 > s.2.1 → seAt s ((doV s).1 - 1) < s.2.2.2.1 + x) := by
  unfold doV at h ⊢
  split at h
  · rename_i hs
    obtain ⟨b0, b1, b2, b3, b4, b5, b6, b7, b8⟩ := se_in hs
    rw [if_pos hs]
    unfold dlV at h ⊢
    split at h
    · simp at h
    · rename_i x r hz
      have hx := szs_in hs x (by rw [hz]; simp)
      obtain ⟨t1, t2, t3⟩ := th_spec (y := s.2.2.2.1 + x - s.2.2.1) b1
      split at h
      · rename_i hc
        refine ⟨x, r, hz, hs, hx.1, hx.2, ?_⟩
        rw [if_pos hc]
        simp only
        generalize hT : thV s.1 (s.2.2.2.1 + x - s.2.2.1) = T at *
        have es : ∀ u, seAt s u = s.2.2.1 + cuV s.1 (u - s.2.1) := fun _ => rfl
        refine ⟨by omega, hc, ?_, fun h2 => ?_⟩
        · have := (t3 T t1 (by omega)).1 (Int.le_refl _)
          rw [es, show s.2.1 + T - s.2.1 = T by omega]; omega
        · have := t3 (T - 1) (by omega) (by omega)
          rw [es, show s.2.1 + T - 1 - s.2.1 = T - 1 by omega]
          omega
      · simp at h
  · simp at h

theorem law_6 {d : Nat} {y : List Int} (hy : Bytes y) {s : Se} (hl : s.2.2.2.2.length ≤ 30) : j3_6 (d + 15) y s (doV s) (doV s) false = some true := by
  unfold j3_6
  rw [oif_f]
  cases hv : (doV s).2 with
  | false => rw [oif_f]; exact law_4 hy hl
  | true =>
    obtain ⟨x, r, hz, hs, x1, x2, k1, k2, k3, k4⟩ := do_spec hv
    obtain ⟨b0, b1, b2, b3, b4, b5, b6, b7, b8⟩ := se_in hs
    have e1 : svV s (doV s).1 = (seAt s (doV s).1, true) := by unfold svV; rw [if_pos ⟨hs, k1, k2⟩]
    have hb : Nat.blt 0 s.2.2.2.2.length = true := blt_of (by rw [hz]; simp)
    have hg : s.2.2.2.2[0]? = some x := by rw [hz]; rfl
    rw [oif_t, q_ServiceAt (d := d + 12) (by omega), ob_s, e1]
    simp only [Bool.not_true, oif_f]
    rw [hb, oif_t, hg, ob_s, wr (n := s.2.2.2.1 + x) (by omega) (by omega), decide_eq_false (by omega)]
    unfold j3_5
    rw [oif_f]
    by_cases h : (doV s).1 > s.2.1
    · have k5 := k4 h
      have e2 : svV s ((doV s).1 - 1) = (seAt s ((doV s).1 - 1), true) := by unfold svV; rw [if_pos ⟨hs, by omega, by omega⟩]
      rw [decide_eq_true h, oif_t, wr (n := (doV s).1 - 1) (by omega) (by omega), q_ServiceAt (d := d + 12) (by omega), ob_s, e2]
      simp only [Bool.not_true, oif_f]
      rw [hb, oif_t, hg, ob_s, wr (n := s.2.2.2.1 + x) (by omega) (by omega), decide_eq_false (by omega), oif_f]
      exact law_4 hy hl
    · rw [decide_eq_false h, oif_f]
      exact law_4 hy hl

theorem law_main {d : Nat} {x y : List Int} (hx : Bytes x) (hy : Bytes y) : g3 (d + 16) x y = some true := by
  rw [e3]
  obtain ⟨b, hb⟩ := q_big (d := d + 14) (x := x) (y := y)
  rw [hb, ob_s]
  cases b with
  | true => rfl
  | false =>
    obtain ⟨s, h1, h2⟩ := p_DrawDeadlineOf (d := d + 7) hx
    rw [oif_f, h1, ob_s, q_DeadlineOf (d := d + 9) (by omega), ob_s, q_sDeadlineOf (d := d + 11) (by omega), ob_s, beq_self_eq_true, Bool.not_true, oif_f, bne_self_eq_false, oif_f, q_IsSession (d := d + 13) (by omega), ob_s, q_sIsSession (d := d + 11) (by omega), ob_s, beq_self_eq_true, Bool.not_true]
    exact law_6 hy h2

def tysLaw : List Ty := [.sl (.int .u8), .sl (.int .u8)]

theorem bytes_of {x : List Int} (h : Wf (.sl (.int .u8)) x) : Bytes x := by
  intro n hn
  have h' : IntKind.u8.min ≤ n ∧ n ≤ IntKind.u8.max := h.2 n hn
  have e1 : IntKind.u8.min = 0 := by decide
  have e2 : IntKind.u8.max = 255 := by decide
  rw [e1, e2] at h'
  omega

theorem lawAny : LawAny Tryd.prog pvAnn (16) 3 tysLaw :=
  ⟨rfl, rfl, rfl, fun a h => ⟨true, law_main (d := 0) (bytes_of (h ⟨.sl (.int .u8), a.1⟩ (List.Mem.head _))) (bytes_of (h ⟨.sl (.int .u8), a.2⟩ (List.Mem.tail _ (List.Mem.head _)))), rfl⟩⟩

end Go.Proofs.YtkanolaeiaieaaaDoor
