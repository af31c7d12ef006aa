/-
  The law FnData by value.
  Conditions: bytes.
-/
import Derived.Test.YtaggjheabeoohaaFnDataK
set_option linter.all false
namespace Go.Proofs.Ytaggjheabeoohaa
open Go.Ev Go.Pv

theorem ex_take {a : ByteArray} {k : Nat} : bl (a.extract 0 k) = (bl a).take k := by rw [bl_ext]; simp

theorem law_0 {d : Nat} {r : ByteArray × ByteArray} {q : Int × Bool} (h : apOk r.1 r.2 q) : j6_0 d r q q false = some true := by
  unfold j6_0
  rw [oif_f]
  cases hq : q.2 with
  | false => rfl
  | true =>
    obtain ⟨k, hk, k1, k2, k3, k4⟩ := h hq
    have e : (((r.1.extract 0 k).toList == (r.2.extract 0 k).toList)) = true := by
      rw [bl_eq, ex_take, ex_take]; exact decide_eq_true k3
    rw [oif_t, hk, decide_eq_true (show (k : Int) ≤ (r.1.size : Int) by omega), oif_t, decide_eq_true (show (k : Int) ≤ (r.2.size : Int) by omega), oif_t]
    simp only [nn, ofNat_toNat, oif_t]
    rw [slice_t (by omega) k1, slice_t (by omega) k2, e, oif_t]
    by_cases h1 : k = r.1.size
    · rw [show (((k : Nat) : Int) == ((r.1.size : Nat) : Int)) = true by simp [h1], oif_t]
    · rw [show (((k : Nat) : Int) == ((r.1.size : Nat) : Int)) = false by simp; omega, oif_f]
      by_cases h2 : k = r.2.size
      · rw [show (((k : Nat) : Int) == ((r.2.size : Nat) : Int)) = true by simp [h2], oif_t]
      · rw [show (((k : Nat) : Int) == ((r.2.size : Nat) : Int)) = false by simp; omega, oif_f]
        rcases k4 with k4 | k4 | ⟨q1, q2, q3⟩
        · exact absurd k4 h1
        · exact absurd k4 h2
        · simp only [bl_def]
          have ka : k < (bl r.1).length := by rw [← bl_len]; exact q1
          have kb : k < (bl r.2).length := by rw [← bl_len]; exact q2
          rw [List.getElem?_eq_getElem ka, List.getElem?_eq_getElem kb] at q3
          rw [List.getElem?_eq_getElem ka, List.getElem?_eq_getElem kb, ob_s, ob_s]
          congr 1
          simp only [bne_iff_ne, ne_eq]
          intro he
          exact q3 (by congr 1; apply UInt8.toNat_inj.1; omega)

theorem law_1 {d : Nat} {y : List Int} (hy : Bytes y) : j6_1 (d + 10) y false = some true := by
  unfold j6_1
  rw [oif_f]
  obtain ⟨r, h1, h2⟩ := p_DrawApart (d := d) hy
  obtain ⟨q, h3, h4⟩ := p_Apart (d := d + 9) (a := r.1) (b := r.2)
  rw [h1, ob_s, h3, ob_s, q_ApartSame, h3, ob_s, beq_self_eq_true, Bool.not_true, oif_f, bne_self_eq_false]
  exact law_0 h4

theorem ca_len {k : Int} {l : List Int} (h : (caV k l).2 = true) : (caV k l).1.length = l.length + 1 := by
  unfold caV at h ⊢
  split
  · simp [itL_len]
  · rename_i hn; rw [if_neg hn] at h; simp at h

theorem ca_lt {k : Int} {l : List Int} (hl : l.length ≤ 100) : (caV k l).1.length < 4194304 := by
  unfold caV; split
  · simp [itL_len]; omega
  · simp

theorem law_2 {d : Nat} {y : List Int} (hy : Bytes y) {x : Cl} : j6_2 (d + 10) y (caV 4 (clN x)) (caV 4 (clN x)) false = some true := by
  unfold j6_2
  rw [oif_f]
  refine (?_ : oif (caV 4 (clN x)).2 (j6_1 (d + 10) y ((((caV 4 (clN x)).1.length : Nat) : Int) != 9)) (j6_1 (d + 10) y false) = some true)
  cases h : (caV 4 (clN x)).2 with
  | false => rw [oif_f]; exact law_1 hy
  | true =>
    rw [oif_t, ca_len h]
    rw [show ((((clN x).length + 1 : Nat) : Int) != 9) = false from rfl]
    exact law_1 hy

theorem law_3 {d : Nat} {y : List Int} (hy : Bytes y) : j6_3 (d + 10) y = some true := by
  unfold j6_3
  obtain ⟨s, h1, _⟩ := p_DrawReadData (d := d + 5) hy
  obtain ⟨x, h2, _⟩ := p_DrawClassAttrs (d := d + 4) hy
  obtain ⟨f, h3, _⟩ := p_DrawFilterAttrs (d := d + 5) hy
  rw [h1, ob_s, q_ReadData, ob_s, q_sReadData, ob_s, h2, ob_s, q_ClassAttrs, ob_s, q_sClassAttrs, ob_s, h3, ob_s, q_FilterAttrs, ob_s, q_sFilterAttrs, ob_s]
  simp only [beq_self_eq_true, Bool.not_true, oif_f, bne_self_eq_false]
  rw [q_pSameAttrsD (ca_lt (by simp [clN])), ob_s, Bool.not_true, oif_f, q_pSameAttrsD (ca_lt (by simp [flN])), ob_s, Bool.not_true]
  exact law_2 hy

theorem law_4 {d : Nat} {y : List Int} (hy : Bytes y) {n : Int} : j6_4 (d + 10) y n (ndV n) (ndV n) false = some true := by
  unfold j6_4
  rw [oif_f]
  cases h : vOk n with
  | false =>
    have : (ndV n).2 = false := by unfold ndV; rw [h]; rfl
    rw [this, oif_f]; exact law_3 hy
  | true =>
    have : ndV n = (enD n, true) := by unfold ndV; rw [h]; rfl
    rw [this]
    simp only [oif_t]
    rw [q_ReadData, ob_s, rdV_enD h]
    simp only [Bool.not_true, oif_f, bne_self_eq_false]
    rw [enD_size, show ((((4 : Nat) : Int) : Int) != 4) = false from rfl, oif_f]
    exact law_3 hy

theorem law_main {d : Nat} {x y : List Int} (hx : Bytes x) (hy : Bytes y) : g6 (d + 11) x y = some true := by
  rw [e6]
  obtain ⟨b, hb⟩ := q_big (d := d + 9) (x := x) (y := y)
  rw [hb, ob_s]
  cases b with
  | true => rfl
  | false =>
    rw [oif_f, e54]
    obtain ⟨r, h1, _⟩ := p_value (d := d + 5) (CurOk.new hx) (by omega)
    rw [h1, ob_s, ob_s, q_NumberData, ob_s, q_sNumberData, ob_s, beq_self_eq_true, Bool.not_true, oif_f, beq_self_eq_true, Bool.not_true]
    exact law_4 hy

theorem lawOk : LawOk Try.prog pvAnn (11) 6 :=
  ⟨rfl, rfl, rfl, fun x y hx hy _ _ => ⟨(x, y), true, law_main (d := 0) hx hy, rfl, rfl⟩⟩

end Go.Proofs.Ytaggjheabeoohaa
