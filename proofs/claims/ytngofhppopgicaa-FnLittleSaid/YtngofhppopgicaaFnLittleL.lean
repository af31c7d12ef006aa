/-
  The law FnLittle by value.
  Conditions: bytes.
-/
import Derived.Test.YtngofhppopgicaaFnLittleK
set_option linter.all false
namespace Go.Proofs.Ytngofhppopgicaa
open Go.Ev Go.Pv

theorem digs_len : ∀ (k : Nat) (n : Int), (digs n k).length = k
  | 0, n => rfl
  | k + 1, n => by simp [digs, digs_len k]
theorem digs_bytes : ∀ (k : Nat) (n : Int), Bytes (digs n k)
  | 0, n => by simp [digs, Bytes]
  | k + 1, n => by
    intro z hz
    simp only [digs, List.mem_cons] at hz
    rcases hz with rfl | hz
    · omega
    · exact digs_bytes k _ z hz

theorem law_0 {d : Nat} {n w : Int} : j6_0 (d + 2) (n, w) (wlV n w) (wlV n w) = some true := by
  unfold j6_0
  cases h : (wlV n w).2 with
  | false => rfl
  | true =>
    have hw : wdOk w = true := by cases hw : wdOk w <;> simp_all [wlV]
    have hn : 0 ≤ n ∧ n < topV w := by
      by_cases hn : 0 ≤ n ∧ n < topV w
      · exact hn
      · have e : decide (0 ≤ n ∧ n < topV w) = false := by simpa using hn
        simp [wlV, e] at h
    have e0 : wlV n w = (digs n w.toNat, true) := by simp [wlV, hw, hn]
    have hl := digs_len w.toNat n
    have hw' := wdOk_in hw
    rw [e0]
    simp only [Bool.not_true, oif_f]
    rw [q_ReadLittle (digs_bytes _ _) (by rw [hl]; omega), ob_s]
    have e1 : rlV (digs n w.toNat) 0 w = (n, true) := by
      unfold rlV
      rw [hl, if_pos]
      · congr 1
        rcases hw' with rfl | rfl | rfl
        · rw [show topV 1 = 256 from rfl] at hn; simp [rdV, digs]; omega
        · rw [show topV 2 = 65536 from rfl] at hn; simp [rdV, digs]; omega
        · rw [show topV 4 = 4294967296 from rfl] at hn; simp [rdV, digs]; omega
      · simp [hw]; omega
    rw [e1, hl]
    simp only [oif_t, beq_self_eq_true]
    congr 1
    rw [beq_iff_eq]; omega

theorem pad_bytes {l : List Int} {b : Int} (h : Bytes l) : Bytes (padL l b) := by
  intro z hz
  rcases List.mem_append.1 hz with hz | hz
  · exact h z hz
  · rw [(List.mem_replicate.1 hz).2]; omega
theorem pad_len {l : List Int} {b : Int} (h : 1 ≤ b) : (((padL l b).length : Nat) : Int) = alV ((l.length : Nat) : Int) b := by
  obtain ⟨a1, a2, a3, a4⟩ := alV_in (n := ((l.length : Nat) : Int)) (by omega) h
  simp [padL]; omega

theorem law_1 {d : Nat} {n w b : Int} {l : List Int} (hl : Bytes l) : j6_1 (d + 2) (n, w) (wlV n w) (wlV n w) (l, b) (pdV l b) (pdV l b) false = some true := by
  unfold j6_1
  rw [oif_f]
  by_cases hc : decide (((l.length : Nat) : Int) ≤ 4000) && (decide (1 ≤ b ∧ b ≤ 16) && decide (alV ((l.length : Nat) : Int) b ≤ 4000))
  case neg =>
    have e0 : pdV l b = ([], false) := by unfold pdV; rw [if_neg hc]
    rw [e0]; simp only [oif_f]; exact law_0
  have e0 : pdV l b = (padL l b, true) := by unfold pdV; rw [if_pos hc]
  simp only [Bool.and_eq_true, decide_eq_true_eq] at hc
  obtain ⟨h1, h2, h3⟩ := hc
  obtain ⟨a1, a2, a3, a4⟩ := alV_in (n := ((l.length : Nat) : Int)) (by omega) h2.1
  have hp := pad_len (l := l) h2.1
  rw [e0]
  simp only [oif_t]
  rw [q_IsPadded h1 (by omega), ob_s, q_ChecksumOf hl h1, ob_s, q_ChecksumOf (pad_bytes hl) (by omega), ob_s]
  have e1 : csV 0 (padL l b) = csV 0 l := csV_pad l _ hl (by omega) (by omega)
  have e2 : (b == 0) = false := by simp; omega
  have e3 : ((((padL l b).length : Nat) : Int).tmod b != 0) = false := by
    rw [hp, Int.tmod_eq_emod_of_nonneg a4, a3]; rfl
  simp only [Bool.not_true, oif_f, e1, e2, e3, bne_self_eq_false]
  exact law_0

theorem law_6 {d : Nat} {x y : List Int} (hx : Bytes x) (hy : Bytes y) : g6 (d + 8) x y = some true := by
  rw [e6]
  refine (show ∀ b : Bool, oif b (some true) _ = some true from fun b => ?_) _
  cases b with
  | true => rfl
  | false =>
  obtain ⟨⟨n, w⟩, h1, _⟩ := p_DrawWriteLittle (d := d + 3) hx
  obtain ⟨⟨l, a, c⟩, h2, b1, b2⟩ := p_DrawReadLittle (d := d + 2) hy
  obtain ⟨⟨m, b⟩, h3, c1, c2⟩ := p_DrawPadTo (d := d + 2) hy
  obtain ⟨⟨u, v⟩, h4, _⟩ := p_DrawAlignUp (d := d + 3) hy
  simp only at b1 b2 c1 c2
  have s1 : (wlV n w).1.length < 4194304 := by
    unfold wlV; split
    · rename_i h
      simp only [Bool.and_eq_true] at h
      have := wdOk_in h.1
      rw [digs_len]; omega
    · simp
  have s2 : (pdV m b).1.length < 4194304 := by
    unfold pdV; split
    · rename_i h
      simp only [Bool.and_eq_true, decide_eq_true_eq] at h
      have := pad_len (l := m) h.2.1.1
      simp only; omega
    · simp
  simp only [oif_f, h1, h2, h3, h4, ob_s, q_WriteLittle, q_sWriteLittle, q_ReadLittle b2 (show l.length < 4194304 by omega), q_sReadLittle b2 (show l.length < 4194304 by omega), q_PadTo, q_sPadTo, q_AlignUp, q_sAlignUp, beq_self_eq_true, bne_self_eq_false, Bool.not_true, q_qBytes s1, q_qBytes s2]
  unfold auV
  by_cases hc : decide (0 ≤ u ∧ u ≤ 1000000) && decide (1 ≤ v ∧ v ≤ 16)
  case neg => rw [if_neg hc]; simp only [oif_f]; exact law_1 c2
  rw [if_pos hc]
  simp only [Bool.and_eq_true, decide_eq_true_eq] at hc
  obtain ⟨a1, a2, a3, a4⟩ := alV_in (n := u) (by omega) hc.2.1
  have e3 : ((alV u v).tmod v != 0) = false := by rw [Int.tmod_eq_emod_of_nonneg a4, a3]; rfl
  simp only [oif_t, e3]
  rw [decide_eq_false (show ¬ alV u v < u by omega), oif_f, wr (by omega) (by omega), decide_eq_false (show ¬ alV u v ≥ u + v by omega), oif_f, show (v == 0) = false by simp; omega, oif_f]
  exact law_1 c2

theorem lawOk : LawOk Try.prog pvAnn (8) 6 :=
  ⟨rfl, rfl, rfl, fun x y hx hy _ _ => ⟨(x, y), true, law_6 (d := 0) hx hy, rfl, rfl⟩⟩

end Go.Proofs.Ytngofhppopgicaa
