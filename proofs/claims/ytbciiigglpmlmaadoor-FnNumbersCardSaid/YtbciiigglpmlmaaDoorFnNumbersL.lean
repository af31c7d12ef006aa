/-
  The law FnNumbers by value.
  Conditions: bytes.
-/
import Derived.Test.YtbciiigglpmlmaaDoorFnNumbersK
import Derived.Test.YtbciiigglpmlmaaDoorVAny
set_option linter.all false
namespace Go.Proofs.YtbciiigglpmlmaaDoor
open Go.Ev Go.Pv

theorem law_0 {d : Nat} {y : List Int} (hy : Bytes y) : j4_0 (d + 15) y = some true := by
  unfold j4_0
  obtain ⟨t, h1, h2⟩ := p_DrawReadAny (d := d) hy
  have hs : t.size < 4194304 := by omega
  rw [h1, ob_s, q_ReadAny (d := d + 11) hs, ob_s, q_nReadAny (d := d + 11) hs, ob_s, q_ReadNumber (d := d + 13) hs, ob_s, q_nReadNumber (d := d + 12) hs, ob_s]
  simp only [beq_self_eq_true, oif_t]
  rw [q_IsCanonical (d := d + 12) hs, ob_s, q_sIsCanonical (d := d + 1) hs, ob_s, beq_self_eq_true, oif_t]
  cases hx : hxB (bl t) with
  | true =>
    rw [hx_nr hx]; rfl
  | false =>
    have e : nyV (bl t) = nrV (bl t) := by unfold nyV; rw [hx, if_neg (by simp)]
    rw [e]
    unfold toR
    by_cases h : nrV (bl t) < 0
    · rw [if_pos h]; rfl
    · rw [if_neg h]; simp [oif]

theorem law_1 {d : Nat} {y : List Int} (hy : Bytes y) {n : Int} : j4_1 (d + 15) y n (htV n) false = some true := by
  unfold j4_1
  rw [oif_f]
  by_cases h : 0 ≤ n ∧ n ≤ 65535
  · obtain ⟨m, rfl⟩ := Int.eq_ofNat_of_zero_le h.1
    have hm : m ≤ 65535 := by omega
    have e : htV (m : Int) = (ofL (hoL m), true) := by unfold htV; rw [if_pos h, Int.toNat_natCast]
    have hl : (ofL (hoL m)).size < 4194304 := by
      rw [bl_len, bl_ofL]
      have := (toHx_len 7 m []).2
      unfold hoL; simp only [List.length_cons, List.length_nil] at this ⊢; omega
    have hb : bl (ofL (hoL m)) = hoL m := bl_ofL _
    rw [e]
    simp only [oif_t]
    rw [q_ReadHex (d := d + 12) hl (by rw [hb]; exact ho_hx m), ob_s, q_ReadAny (d := d + 11) hl, ob_s, hb, ho_ny hm]
    have e2 : (hoL m).drop 2 = toHx 7 m [] := rfl
    rw [e2, hx_rc hm]
    unfold toR
    rw [if_neg (by omega)]
    simp only [Bool.not_true, oif_f, bne_self_eq_false]
    exact law_0 hy
  · have e : htV n = (⟨#[]⟩, false) := by unfold htV; rw [if_neg h]
    rw [e]
    simp only [oif_f]
    exact law_0 hy

theorem law_2 {d : Nat} {y : List Int} (hy : Bytes y) : j4_2 (d + 15) y = some true := by
  unfold j4_2
  obtain ⟨h, h1, _⟩ := p_DrawHexText (d := d + 11) hy
  rw [h1, ob_s, q_HexText (d := d + 13), ob_s, q_sHexText (d := d + 13), ob_s]
  simp only [beq_self_eq_true, Bool.not_true, oif_f]
  exact law_1 hy

theorem law_3 {d : Nat} {y : List Int} (hy : Bytes y) {n : Int} {b : Bool} : j4_3 (d + 15) y n (foV n) (foV n) b = some true := by
  unfold j4_3 foV
  cases hv : vlOk n with
  | false => simp only [Bool.false_eq_true, if_false, oif_f]; exact law_2 hy
  | true =>
    simp only [if_true, oif_t]
    obtain ⟨r, hr⟩ := fm_head n.toNat
    rw [q_NumberText (d := d + 12), ob_s]
    unfold nxV
    rw [hv, if_pos rfl]
    simp only [Bool.not_true, oif_f]
    rw [hr]
    rw [show ((((ntV n.toNat :: r).length : Nat) : Int) == 0) = false by rw [beq_eq_false_iff_ne]; simp; omega, oif_f, blt_of (by simp), oif_t, List.getElem?_cons_zero, ob_s, beq_self_eq_true, Bool.not_true, oif_f]
    exact law_2 hy

theorem law_loop {d : Nat} {y : List Int} (hy : Bytes y) {n : Int} : iterP (l4_0 (d + 15) n (foV n) (j4_3 (d + 15) y n (foV n) (foV n))) fuelN (false, 0) = some true := by
  have hlen : (foV n).1.length ≤ 3 := by
    unfold foV; split
    · exact fm_len _
    · simp
  refine (range_eq (fun (t : Bool) (i : Int) => (t, i)) (foV n).1 (fun x i t k => k t) (j4_3 (d + 15) y n (foV n) (foV n)) ?_ ?_ (by rw [fuelN_eq]; omega) false).trans ?_
  · intro ag t i s hs
    have hi := (List.getElem?_eq_some_iff.1 hs).1
    simp only [l4_0, l4_0_b, ltl hs, bltl hs, nn, ofNat_toNat, hs, ob_s, oif_t]
    unfold foV at hs
    cases hv : vlOk n with
    | false => rw [hv] at hs; simp at hs
    | true =>
      rw [hv, if_pos rfl] at hs
      unfold vlOk at hv
      have hv := of_decide_eq_true hv
      obtain ⟨m, rfl⟩ := Int.eq_ofNat_of_zero_le hv.1
      rw [Int.toNat_natCast] at hs
      obtain ⟨h1, h2, h3⟩ := fm_at (show m ≤ 1000000000 by omega) hs
      have hss : s.size < 4194304 := by omega
      rw [q_ReadNumber (d := d + 13) hss, ob_s, h1]
      unfold toR
      rw [if_neg (by omega)]
      simp only [Bool.not_true, oif_f, bne_self_eq_false]
      rw [q_IsCanonical (d := d + 12) hss, ob_s]
      unfold icV
      rw [h1, Int.toNat_natCast, h3, decide_eq_true (show (0 : Int) ≤ (m : Int) by omega), Bool.true_and, beq_nat, beq_self_eq_true, Bool.not_true, oif_f, wr1 (by omega)]
  · intro ag t
    simp only [l4_0, l4_0_b, ltn, oif_f]
  · rw [rangeR_fold (f := fun _ _ t => t)]; exact law_3 hy

theorem law_main {d : Nat} {x y : List Int} (hx : Bytes x) (hy : Bytes y) : g4 (d + 16) x y = some true := by
  rw [e4]
  obtain ⟨b, hb⟩ := q_big (d := d + 14) (x := x) (y := y)
  rw [hb, ob_s]
  cases b with
  | true => rfl
  | false =>
    obtain ⟨n, h1, _⟩ := p_DrawFormsOf (d := d + 9) hx
    have hlen : (foV n).1.length ≤ 3 := by
      unfold foV; split
      · exact fm_len _
      · simp
    rw [oif_f, h1, ob_s, q_FormsOf (d := d + 13), ob_s, q_sFormsOf (d := d + 2), ob_s, beq_self_eq_true, Bool.not_true, oif_f, q_pSameTexts (d := d + 14) (by omega), ob_s, Bool.not_true]
    unfold j4_4
    rw [oif_f]
    exact law_loop hy

def tysLaw : List Ty := [.sl (.int .u8), .sl (.int .u8)]

theorem bytes_of {x : List Int} (h : Wf (.sl (.int .u8)) x) : Bytes x := by
  intro n hn
  have h' : IntKind.u8.min ≤ n ∧ n ≤ IntKind.u8.max := h.2 n hn
  have e1 : IntKind.u8.min = 0 := by decide
  have e2 : IntKind.u8.max = 255 := by decide
  rw [e1, e2] at h'
  omega

theorem lawAny : LawAny Tryd.prog pvAnn (16) 4 tysLaw :=
  ⟨rfl, rfl, rfl, fun a h => ⟨true, law_main (d := 0) (bytes_of (h ⟨.sl (.int .u8), a.1⟩ (List.Mem.head _))) (bytes_of (h ⟨.sl (.int .u8), a.2⟩ (List.Mem.tail _ (List.Mem.head _)))), rfl⟩⟩

end Go.Proofs.YtbciiigglpmlmaaDoor
