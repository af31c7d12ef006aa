/-
  The law FnWritten by value.
  Conditions: bytes.
-/
import Derived.Test.YtmjhgkmiafemfaaFnWrittenK
set_option linter.all false
namespace Go.Proofs.Ytmjhgkmiafemfaa
open Go.Ev Go.Pv

theorem dcV_law {s : ByteArray} {a : Int} : oif (!(dcV s a).2.2) (some true) (oif (decide ((dcV s a).2.1 > a)) (some (decide ((dcV s a).1 ≥ 0))) (some false)) = some true := by
  cases h : (dcV s a).2.2 with
  | false => rfl
  | true =>
    obtain ⟨h1, h2⟩ := dcV_in h
    rw [Bool.not_true, oif_f, decide_eq_true h1, oif_t, decide_eq_true h2]

theorem law_0 {d : Nat} {y : List Int} (hy : Bytes y) {s : ByteArray} {a : Int} : j9_0 (d + 5) y (s, a) (dcV s a) (dcV s a) = some true := by
  unfold j9_0
  obtain ⟨l, h1, h2⟩ := p_DrawChecksumOf (d := d) hy
  simp only [h1, ob_s, q_ChecksumOf2 h2, q_sChecksumOf h2, beq_self_eq_true, oif_t]
  exact dcV_law

theorem law_2 {d : Nat} {y : List Int} (hy : Bytes y) {s v : ByteArray} {a : Int} : j9_2 (d + 5) y (s, a) (dcV s a) (dcV s a) v (fbV v) (fbV v) = some true := by
  unfold j9_2
  have no : j9_1 (d + 5) y (s, a) (dcV s a) (dcV s a) v (fbV v) false = some true := by
    unfold j9_1; rw [oif_f]; exact law_0 hy
  unfold fbV at no ⊢
  by_cases h : v.size ≤ 4000
  · rw [if_pos h] at no ⊢
    simp only [oif_t]
    have hle : fbN v ≤ v.size := by unfold fbN; rw [bl_len]; exact tw_le _
    by_cases h2 : (fbN v : Int) < ((v.size : Nat) : Int)
    · rw [decide_eq_true h2]
      unfold j9_1
      simp only [oif_t, nn, ofNat_toNat]
      rw [slice_t (by omega) (by omega), q_FirstBad, ob_s]
      have hsz : (v.extract 0 (fbN v)).size = fbN v := by rw [ByteArray.size_extract]; omega
      have hfb : fbN (v.extract 0 (fbN v)) = fbN v := by
        unfold fbN
        rw [bl_ext, List.drop_zero, Nat.sub_zero, tw_take]
      unfold fbV
      rw [hsz, if_pos (by omega), hfb]
      simp only [Bool.not_true, oif_f, bne_self_eq_false]
      have hlt : fbN v < (bl v).length := by rw [← bl_len]; omega
      rw [bl_def, List.getElem?_eq_getElem hlt, ob_s]
      have hb := tw_next (p := pl) (bl v) (List.getElem?_eq_getElem hlt)
      have hne : (((bl v)[fbN v].toNat : Int) == 10) = false := by
        change pl (bl v)[fbN v] = false at hb
        unfold pl at hb
        rw [decide_eq_false_iff_not] at hb
        simp only [beq_eq_false_iff_ne]
        omega
      rw [hne, oif_f]
      exact law_0 hy
    · rw [decide_eq_false h2]; exact no
  · rw [if_neg h] at no ⊢
    rw [oif_f]; exact no

theorem law_3 {d : Nat} {y : List Int} (hy : Bytes y) {s v : ByteArray} {a n : Int} : j9_3 (d + 5) y (s, a) (dcV s a) (dcV s a) v (fbV v) (fbV v) n (hoV n) (hoV n) = some true := by
  unfold j9_3
  unfold hoV
  by_cases h : 0 ≤ n ∧ n ≤ 4294967295
  · obtain ⟨m, rfl⟩ := Int.eq_ofNat_of_zero_le h.1
    rw [if_pos h]
    simp only [oif_t, ofNat_toNat]
    rw [q_HexAt, ob_s, ho_back (by omega)]
    simp only [Bool.not_true, oif_f, bne_self_eq_false]
    exact law_2 hy
  · rw [if_neg h, oif_f]; exact law_2 hy

theorem law_4 {d : Nat} {y : List Int} (hy : Bytes y) {t s v : ByteArray} {a n : Int} : j9_4 (d + 5) y t (pbV t) (s, a) (dcV s a) (dcV s a) v (fbV v) (fbV v) n (hoV n) (hoV n) false = some true := by
  unfold j9_4
  rw [oif_f]
  unfold pbV
  by_cases h : t.size ≤ 8000 ∧ t.size % 2 = 0
  · rw [if_pos h]
    cases hp : pbL (bl t) with
    | none => simp only [pbR, oif_f]; exact law_3 hy
    | some b =>
      obtain ⟨k1, k2, k3⟩ := pbL_in (bl t) hp
      rw [← bl_len] at k2
      simp only [pbR, oif_t, List.nil_append]
      rw [q_BytesText k1 (by omega), ob_s]
      simp only [Bool.not_true, oif_f]
      rw [bl_eq, bl_ofL, k3, decide_eq_true rfl, Bool.not_true, oif_f]
      exact law_3 hy
  · rw [if_neg h, oif_f]; exact law_3 hy

theorem law_main {d : Nat} {x y : List Int} (hx : Bytes x) (hy : Bytes y) : g9 (d + 7) x y = some true := by
  rw [e9]
  cases decide ((IntKind.i64.wrap (((x.length : Nat) : Int) + ((y.length : Nat) : Int)) : Int) > 1048576) with
  | true => rfl
  | false =>
  obtain ⟨t, h1, h1s⟩ := p_DrawParseBytes (d := d + 1) hx
  obtain ⟨⟨s, a⟩, h2, _⟩ := p_DrawDecimalAt (d := d + 1) hy
  obtain ⟨⟨u, b⟩, h3, _⟩ := p_DrawHexAt (d := d + 1) hy
  obtain ⟨v, h4, _⟩ := p_DrawFirstBad (d := d + 1) hy
  obtain ⟨n, h5, _⟩ := p_DrawHexOf (d := d + 2) hy
  obtain ⟨⟨l, lo, hi⟩, h6, _⟩ := p_DrawIsPadded (d := d + 1) hy
  have s1 : (pbV t).1.length < 4194304 := by
    unfold pbV
    split
    · next hh =>
      cases hp : pbL (bl t) with
      | none => simp [pbR]
      | some b =>
        have := (pbL_in (bl t) hp).2.1
        rw [← bl_len] at this
        simp only [pbR, List.nil_append]; omega
    · simp
  simp only [oif_f, h1, h2, h3, h4, h5, h6, ob_s, q_ParseBytes, q_sParseBytes (show t.size < 1000000 by omega), q_DecimalAt, q_sDecimalAt, q_HexAt, q_sHexAt, q_FirstBad, q_sFirstBad, q_HexOf, q_sHexOf, q_IsPadded2, q_sIsPadded, q_qBytes s1, beq_self_eq_true, Bool.not_true, bne_self_eq_false]
  exact law_4 (d := d + 1) hy

theorem lawOk : LawOk Try.prog pvAnn (7) 9 :=
  ⟨rfl, rfl, rfl, fun x y hx hy _ _ => ⟨(x, y), true, law_main (d := 0) hx hy, rfl, rfl⟩⟩

end Go.Proofs.Ytmjhgkmiafemfaa
