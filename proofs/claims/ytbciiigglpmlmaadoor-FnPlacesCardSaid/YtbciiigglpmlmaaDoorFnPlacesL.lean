/-
  The law FnPlaces by value.
  Conditions: bytes.
-/
import Derived.Test.YtbciiigglpmlmaaDoorFnPlacesK
import Derived.Test.YtbciiigglpmlmaaDoorVAny
set_option linter.all false
namespace Go.Proofs.YtbciiigglpmlmaaDoor
open Go.Ev Go.Pv

theorem law_0 {d : Nat} {y : List Int} (hy : Bytes y) : j5_0 (d + 5) y = some true := by
  unfold j5_0
  obtain ⟨r, h1, _⟩ := p_DrawPlaceOf (d := d) hy
  obtain ⟨u, h2, _⟩ := p_DrawLineText (d := d) hy
  rw [h1, ob_s, q_PlaceOf (d := d), ob_s, q_sPlaceOf (d := d + 2), ob_s, h2, ob_s, q_LineText (d := d), ob_s, q_sLineText (d := d + 2), ob_s]
  simp only [beq_self_eq_true, oif_t]

theorem lof_ok {s : ByteArray} {n : Nat} (hs : s.size ≤ 6000) (hn : n ≤ s.size) : lofV s (n : Int) = ((loV s n).1, (loV s n).2, true) := by
  unfold lofV; rw [if_pos ⟨hs, by omega, by omega⟩, Int.toNat_natCast]

theorem law_1 {d : Nat} {y : List Int} (hy : Bytes y) {s : ByteArray} {a b : Int} : j5_1 (d + 5) y (s, a, b) (mkV s (a, b)) (mkV s (a, b)) false = some true := by
  unfold j5_1
  rw [oif_f]
  by_cases h : fgV (a, b) = true ∧ s.size ≤ 6000 ∧ b ≤ (s.size : Int)
  · have e : mkV s (a, b) = (ofL (mkL s b.toNat), true) := by unfold mkV; rw [if_pos h]
    obtain ⟨hf, h1, h2⟩ := h
    unfold fgV at hf
    simp only [Bool.and_eq_true, decide_eq_true_eq] at hf
    obtain ⟨n, rfl⟩ := Int.eq_ofNat_of_zero_le hf.2.1
    have hns : n ≤ s.size := by omega
    obtain ⟨k1, k2, k3, k4, k5⟩ := back h1 hns
    obtain ⟨b1, b2, b3, b4, b5⟩ := st_bound h1 k1
    have hl : ltV s (loV s n).1 = (lnAt s ((loV s n).1.toNat - 1), true) := by unfold ltV; rw [if_pos ⟨h1, k1⟩]
    rw [e]
    simp only [oif_t]
    rw [q_LineOf (d := d + 2), ob_s, lof_ok h1 hns, q_LineText (d := d), ob_s, hl]
    simp only [Bool.not_true, oif_f, Int.toNat_natCast]
    have hz : (ofL (mkL s n)).size = (lnAt s ((loV s n).1.toNat - 1)).size + 1 + ((loV s n).2.toNat - 1) + 2 := by
      rw [bl_len, bl_ofL]; unfold mkL
      simp only [List.length_append, List.length_cons, List.length_replicate, List.length_nil]
      rw [← bl_len]; omega
    rw [hz, wr (n := ((lnAt s ((loV s n).1.toNat - 1)).size : Int) + 1) (by omega) (by omega), wr (n := ((lnAt s ((loV s n).1.toNat - 1)).size : Int) + 1 + (loV s n).2) (by omega) (by omega), wr (by omega) (by omega)]
    have hq : ((((lnAt s ((loV s n).1.toNat - 1)).size + 1 + ((loV s n).2.toNat - 1) + 2 : Nat) : Int) != ((lnAt s ((loV s n).1.toNat - 1)).size : Int) + 1 + (loV s n).2 + 1) = false := by
      rw [bne_eq_false_iff_eq]; omega
    rw [hq, oif_f]
    exact law_0 hy
  · have e : mkV s (a, b) = (⟨#[]⟩, false) := by unfold mkV; rw [if_neg h]
    rw [e]
    simp only [oif_f]
    exact law_0 hy

theorem law_2 {d : Nat} {y : List Int} (hy : Bytes y) : j5_2 (d + 5) y = some true := by
  unfold j5_2
  obtain ⟨⟨s, a, b⟩, h1, _⟩ := p_DrawMarkedLine (d := d) hy
  rw [h1, ob_s, q_MarkedLine (d := d), ob_s, q_sMarkedLine (d := d + 2), ob_s]
  simp only [beq_self_eq_true, Bool.not_true, oif_f]
  exact law_1 hy

theorem law_3 {d : Nat} {y : List Int} (hy : Bytes y) {s : ByteArray} {n : Int} : j5_3 (d + 5) y (s, n) (lofV s n) false = some true := by
  unfold j5_3
  rw [oif_f]
  by_cases h : s.size ≤ 6000 ∧ 0 ≤ n ∧ n ≤ (s.size : Int)
  · obtain ⟨h1, h2, h3⟩ := h
    obtain ⟨n, rfl⟩ := Int.eq_ofNat_of_zero_le h2
    have hns : n ≤ s.size := by omega
    obtain ⟨k1, k2, k3, k4, k5⟩ := back h1 hns
    obtain ⟨b1, b2, b3, b4, b5⟩ := st_bound h1 k1
    have hl : ltV s (loV s n).1 = (lnAt s ((loV s n).1.toNat - 1), true) := by unfold ltV; rw [if_pos ⟨h1, k1⟩]
    have hp : plV s (loV s n).1 (loV s n).2 = ((n : Int), true) := by unfold plV; rw [if_pos ⟨h1, k1, k2, k4⟩, k5]
    rw [lof_ok h1 hns]
    simp only [oif_t]
    rw [q_PlaceOf (d := d), ob_s, hp, q_LineText (d := d), ob_s, hl]
    simp only [Bool.not_true, oif_f, bne_self_eq_false]
    rw [wr (n := ((lnAt s ((loV s n).1.toNat - 1)).size : Int) + 1) (by omega) (by omega), decide_eq_false (by omega), oif_f]
    exact law_2 hy
  · have e : lofV s n = (0, 0, false) := by unfold lofV; rw [if_neg h]
    rw [e]
    simp only [oif_f]
    exact law_2 hy

theorem law_main {d : Nat} {x y : List Int} (hx : Bytes x) (hy : Bytes y) : g5 (d + 6) x y = some true := by
  rw [e5]
  obtain ⟨b, hb⟩ := q_big (d := d + 4) (x := x) (y := y)
  rw [hb, ob_s]
  cases b with
  | true => rfl
  | false =>
    obtain ⟨⟨s, n⟩, h1, _⟩ := p_DrawLineOf (d := d) hx
    rw [oif_f, h1, ob_s, q_LineOf (d := d + 2), ob_s, q_sLineOf (d := d + 2), ob_s]
    simp only [beq_self_eq_true, Bool.not_true, oif_f, bne_self_eq_false]
    exact law_3 hy

def tysLaw : List Ty := [.sl (.int .u8), .sl (.int .u8)]

theorem bytes_of {x : List Int} (h : Wf (.sl (.int .u8)) x) : Bytes x := by
  intro n hn
  have h' : IntKind.u8.min ≤ n ∧ n ≤ IntKind.u8.max := h.2 n hn
  have e1 : IntKind.u8.min = 0 := by decide
  have e2 : IntKind.u8.max = 255 := by decide
  rw [e1, e2] at h'
  omega

theorem lawAny : LawAny Tryd.prog pvAnn (6) 5 tysLaw :=
  ⟨rfl, rfl, rfl, fun a h => ⟨true, law_main (d := 0) (bytes_of (h ⟨.sl (.int .u8), a.1⟩ (List.Mem.head _))) (bytes_of (h ⟨.sl (.int .u8), a.2⟩ (List.Mem.tail _ (List.Mem.head _)))), rfl⟩⟩

end Go.Proofs.YtbciiigglpmlmaaDoor
