/-
  The law FnNested by value.
  Conditions: bytes.
-/
import Derived.Test.YtmjhgkmiafemfaaFnNestedK
set_option linter.all false
namespace Go.Proofs.Ytmjhgkmiafemfaa
open Go.Ev Go.Pv

theorem law_0 {d : Nat} {p : List At} {ts : List Int} : j10_0 d (p, ts) (faV p ts) (faV p ts) false = some true := by
  unfold j10_0
  rw [oif_f]
  cases h : (faV p ts).2 with
  | false => rfl
  | true =>
    rw [Bool.not_true, oif_f]
    unfold faV at h ⊢
    cases hc : (atsOk p && tyOk ts) with
    | false => rw [hc] at h; simp at h
    | true =>
      rw [hc] at h
      simp only [if_true] at h ⊢
      simp only [Bool.and_eq_true, tyOk, decide_eq_true_eq] at hc
      obtain ⟨k, h1, h2, h3⟩ := fiI_in p.length 0 h
      have hk : k < p.length := by omega
      simp only [fiP, Bool.and_eq_true, decide_eq_true_eq] at h3
      have h4 := mt_typ h3.2
      have hts : ts.length - 1 < ts.length := by omega
      rw [h1, wr (n := ((ts.length : Nat) : Int) - 1) (by omega) (by omega), show ((ts.length : Nat) : Int) - 1 = ((ts.length - 1 : Nat) : Int) by omega]
      simp only [nn, ofNat_toNat, oif_t, blt_of hk, blt_of hts, List.getElem?_eq_getElem hk, ts_get hts, ob_s]
      rw [← typ_get (List.getElem?_eq_getElem hk), ← dep_get (List.getElem?_eq_getElem hk), h4, h3.1]
      simp only [beq_self_eq_true, oif_t]

theorem law_1 {d : Nat} {y : List Int} (hy : Bytes y) : j10_1 (d + 6) y = some true := by
  unfold j10_1
  obtain ⟨⟨p, ts⟩, h1, h2, h3⟩ := p_DrawFindAttr (d := d) hy
  simp only at h2 h3
  simp only [h1, ob_s, q_FindAttr (show ts.length < 4194304 by omega), q_sFindAttr (show p.length < 4194304 by omega) (show ts.length < 4194304 by omega), beq_self_eq_true, Bool.not_true, oif_f, bne_self_eq_false]
  exact law_0

theorem law_2 {d : Nat} {y : List Int} (hy : Bytes y) {k : Int} {m : List At} : j10_2 (d + 6) y (k, m) (woV k m) false = some true := by
  unfold j10_2
  rw [oif_f]
  unfold woV
  cases hc : (atsOk m && atsOk (wrL k m)) with
  | false => simp only [Bool.false_eq_true, if_false, oif_f]; exact law_1 hy
  | true =>
    simp only [Bool.and_eq_true] at hc
    have h400 := at_len hc.1
    have hv : hasV (wrL k m) 0 = true := by
      unfold hasV; rw [hc.2, decide_eq_true (by simp [wrL])]; rfl
    have he := wr_end hc.1 hc.2
    have hl : (wrL k m).length = m.length + 1 := by simp [wrL]
    simp only [if_true, oif_t, q_DropAttr, q_EndOfAttr, ob_s]
    unfold doV eoV
    rw [hv]
    simp only [if_true, Bool.not_true, oif_f]
    have hd : (drL (wrL k m) (0 : Int).toNat).length = 0 := by
      show (drL (wrL k m) 0).length = 0
      unfold drL
      rw [he]; simp
    have he2 : enK (wrL k m) (0 : Int).toNat = m.length + 1 := by
      show enK (wrL k m) 0 = _
      rw [he, hl]
    rw [hd, he2, show (((0 : Nat) : Int) != 0) = false from rfl, oif_f, wr1 (by omega), bne_self_eq_false, oif_f]
    exact law_1 hy

theorem law_3 {d : Nat} {y : List Int} (hy : Bytes y) {b : Bool} : j10_3 (d + 6) y b = some true := by
  unfold j10_3
  obtain ⟨⟨k, m⟩, h1, h2⟩ := p_DrawWrapAttrs (d := d) hy
  simp only at h2
  have s1 : (woV k m).1.length < 4194304 := by
    unfold woV; split
    · simp [wrL]; omega
    · simp
  simp only [h1, ob_s, q_WrapAttrs, q_sWrapAttrs (show m.length < 4194304 by omega), beq_self_eq_true, Bool.not_true, oif_f, q_pSameAttrs s1]
  exact law_2 hy

theorem law_4 {d : Nat} {y : List Int} (hy : Bytes y) {l : List At} {n : Nat} (ho : atsOk l = true) (hn : n < l.length) {b : Bool} : j10_4 (d + 6) y (l, (n : Int)) (eoV l (n : Int)) b = some true := by
  unfold j10_4
  have h400 := at_len ho
  have hv : hasV l (n : Int) = true := by unfold hasV; rw [ho, decide_eq_true (by omega)]; rfl
  have hlen := drL_len hn
  obtain ⟨k1, k2, k3, k4⟩ := enK_in hn
  simp only [q_DropAttr, q_sDropAttr (show l.length < 4194304 by omega), ob_s]
  unfold doV eoV
  rw [hv]
  simp only [if_true, ofNat_toNat, Bool.not_true, oif_f]
  rw [q_pSameAttrs (by omega), ob_s, Bool.not_true, oif_f, wr (n := (enK l n : Int) - (n : Int)) (by omega) (by omega), wr (by omega) (by omega), show (((drL l n).length : Nat) : Int) = ((l.length : Nat) : Int) - ((enK l n : Int) - (n : Int)) by omega, bne_self_eq_false, oif_f, q_AreAttrs, ob_s, drL_ok ho hn, Bool.not_true, oif_f]
  exact law_3 hy

theorem law_6 {d : Nat} {y : List Int} (hy : Bytes y) {l : List At} {i : Int} (hl : l.length ≤ 500) : j10_6 (d + 6) y (l, i) (coV l i) (coV l i) false = some true := by
  unfold j10_6
  rw [oif_f]
  cases hv : hasV l i with
  | false =>
    have : (coV l i).2 = false := by unfold coV; rw [hv]; rfl
    rw [this, oif_f]; exact law_3 hy
  | true =>
    obtain ⟨n, rfl, hn, ho, h4⟩ := hasV_in hv
    have hc : coV l (n : Int) = (chA l n (enK l n), true) := by unfold coV; rw [hv]; rfl
    have he : eoV l (n : Int) = ((enK l n : Int), true) := by unfold eoV; rw [hv]; rfl
    obtain ⟨k1, k2, k3, k4⟩ := enK_in hn
    rw [hc]
    simp only [oif_t, q_EndOfAttr, q_sEndOfAttr (show l.length < 4194304 by omega), ob_s, he, Bool.not_true, oif_f, bne_self_eq_false]
    unfold j10_5
    rw [oif_f]
    have hcl := chA_len (l := l) (i := n) (enK l n)
    refine Ok.val ?_
    refine iter_ok (fun k s => ∃ j : Nat, s = (false, (j : Int)) ∧ j + k = (chA l n (enK l n)).length) ?_ _ (chA l n (enK l n)).length _ (by rw [fuelN_eq]; omega) ⟨0, rfl, by omega⟩
    rintro k _ ag ⟨j, rfl, hj⟩ hag
    simp only [l10_0, l10_0_b]
    rcases Nat.lt_or_ge j (chA l n (enK l n)).length with hlt | hge
    · have hx : (chA l n (enK l n))[j]? = some (chA l n (enK l n))[j] := List.getElem?_eq_getElem hlt
      obtain ⟨q, hq1, hq2, hq3⟩ := chA_mem (List.getElem_mem hlt)
      rw [hq1] at hx
      obtain ⟨p1, p2⟩ := pa_kid ho hn hq2 hq3
      simp only [ltl hx, bltl hx, nn, ofNat_toNat, hx, ob_s, oif_t]
      rw [q_ParentOf ho (show q < l.length by omega) p2, ob_s, p1]
      simp only [Bool.not_true, oif_f, bne_self_eq_false]
      rw [decide_eq_false (by omega), oif_f, wr1 (by omega)]
      exact hag (k - 1) _ (by omega) ⟨j + 1, rfl, by omega⟩
    · have : j = (chA l n (enK l n)).length := by omega
      subst this
      rw [ltn, oif_f]
      have := law_4 (d := d) (b := false) hy ho hn
      rw [he] at this
      exact ⟨true, this, rfl⟩

theorem law_main {d : Nat} {x y : List Int} (hx : Bytes x) (hy : Bytes y) : g10 (d + 8) x y = some true := by
  rw [e10]
  obtain ⟨b, hb⟩ := q_big (d := d + 6) (x := x) (y := y)
  rw [hb, ob_s]
  cases b with
  | true => rfl
  | false =>
  obtain ⟨⟨l, i⟩, h1, h2⟩ := p_DrawChildrenOf (d := d) hx
  simp only at h2
  have s1 : (coV l i).1.length < 4194304 := by
    unfold coV
    cases hv : hasV l i with
    | false => simp
    | true =>
      obtain ⟨n, rfl, hn, ho, h4⟩ := hasV_in hv
      obtain ⟨k1, k2, k3, k4⟩ := enK_in hn
      have := chA_len (l := l) (i := n) (enK l n)
      simp only [if_true, ofNat_toNat]; omega
  simp only [oif_f, h1, ob_s, q_ChildrenOf, q_sChildrenOf (show l.length < 4194304 by omega), beq_self_eq_true, Bool.not_true, q_sameInts s1]
  exact law_6 (d := d + 1) hy h2

theorem lawOk : LawOk Try.prog pvAnn (8) 10 :=
  ⟨rfl, rfl, rfl, fun x y hx hy _ _ => ⟨(x, y), true, law_main (d := 0) hx hy, rfl, rfl⟩⟩

end Go.Proofs.Ytmjhgkmiafemfaa
