/-
  The law FnBands by value.
  Conditions: bytes.
-/
import Derived.Test.YtngofhppopgicaaFnBandsK
set_option linter.all false
namespace Go.Proofs.Ytngofhppopgicaa
open Go.Ev Go.Pv

theorem selI_pw {α : Type} {c : α → Nat → Bool} : ∀ (l : List α) (i : Nat), (selI c (fun _ i => (i : Int)) l i).Pairwise (· < ·) ∧ ∀ y ∈ selI c (fun _ i => (i : Int)) l i, (i : Int) ≤ y
  | [], i => by simp [selI]
  | x :: r, i => by
    obtain ⟨h1, h2⟩ := selI_pw (c := c) r (i + 1)
    unfold selI
    split
    · refine ⟨List.pairwise_cons.2 ⟨fun y hy => ?_, h1⟩, fun y hy => ?_⟩
      · have := h2 y hy; omega
      · rcases List.mem_cons.1 hy with rfl | hy
        · omega
        · have := h2 y hy; omega
    · exact ⟨h1, fun y hy => by have := h2 y hy; omega⟩

def bd (l ms : List Int) (y : Int) : Int := bandAt l (ms.getD y.toNat 0)
def lexLt (l ms : List Int) (y z : Int) : Prop := bd l ms y < bd l ms z ∨ (bd l ms y = bd l ms z ∧ y < z)

theorem ofBand_mem {l ms : List Int} {b y : Int} (h : y ∈ ofBand l ms b) : 0 ≤ y ∧ y.toNat < ms.length ∧ bd l ms y = b := by
  obtain ⟨j, x, h1, h2, rfl⟩ := selI_mem ms 0 h
  simp only [Nat.zero_add, beq_iff_eq] at h2 ⊢
  have := (List.getElem?_eq_some_iff.1 h1)
  obtain ⟨hj, rfl⟩ := this
  refine ⟨by omega, by omega, ?_⟩
  unfold bd; rw [Int.toNat_natCast]; simp [List.getD, List.getElem?_eq_getElem hj, h2]

theorem sendV_mem {l ms : List Int} {y : Int} (h : y ∈ sendV l ms) : 0 ≤ y ∧ y.toNat < ms.length ∧ 0 ≤ bd l ms y := by
  obtain ⟨b, _, h⟩ := List.mem_flatMap.1 h
  obtain ⟨h1, h2, h3⟩ := ofBand_mem h
  exact ⟨h1, h2, by omega⟩
theorem sendV_pw {l ms : List Int} : (sendV l ms).Pairwise (lexLt l ms) := by
  unfold sendV
  rw [List.pairwise_flatMap]
  refine ⟨fun b _ => ?_, ?_⟩
  · refine List.Pairwise.imp_of_mem (fun {y z} hy hz h => .inr ⟨?_, h⟩) (selI_pw ms 0).1
    rw [(ofBand_mem hy).2.2, (ofBand_mem hz).2.2]
  · refine List.Pairwise.imp (fun {a b} h y hy z hz => .inl ?_) List.pairwise_lt_range
    rw [(ofBand_mem hy).2.2, (ofBand_mem hz).2.2]; omega

theorem sendV_len {l ms : List Int} (hl : bmOk l = true) (hm : ∀ x ∈ ms, mkOk x = true) : (sendV l ms).length = ms.length := by
  unfold sendV ofBand
  rw [List.length_flatMap]
  suffices h : ∀ (ms : List Int) (i : Nat), (∀ x ∈ ms, mkOk x = true) → ((List.range 8).map fun b : Nat => (selI (fun x _ => bandAt l x == (b : Int)) (fun _ i => (i : Int)) ms i).length).sum = ms.length from h ms 0 hm
  intro ms
  induction ms with
  | nil => intro i _; simp [selI, List.range, List.range.loop]
  | cons x r ih =>
    intro i hm
    have := ih (i + 1) (fun y hy => hm y (by simp [hy]))
    obtain ⟨_, _, h1, h2⟩ := bandAt_in hl (hm x (by simp))
    simp only [List.range, List.range.loop, List.map_cons, List.map_nil, List.sum_cons, List.sum_nil, List.length_cons] at this ⊢
    rcases (show bandAt l x = 0 ∨ bandAt l x = 1 ∨ bandAt l x = 2 ∨ bandAt l x = 3 ∨ bandAt l x = 4 ∨ bandAt l x = 5 ∨ bandAt l x = 6 ∨ bandAt l x = 7 by omega) with hv | hv | hv | hv | hv | hv | hv | hv <;> simp [selI, hv] at this ⊢ <;> omega

theorem law_loop {d : Nat} {l ms : List Int} (hl : bmOk l = true) (hm : mksOk ms = true) : iterP (l4_0 (d + 4) (l, ms) (sendV l ms, true) (j4_0 (d + 4) (l, ms) (sendV l ms, true))) fuelN (false, 0, (-1), 0) = some true := by
  have hk : ms.length ≤ 40 := by simp only [mksOk, Bool.and_eq_true, decide_eq_true_eq] at hm; omega
  have hmk : ∀ x ∈ ms, mkOk x = true := by simp only [mksOk, Bool.and_eq_true, List.all_eq_true] at hm; exact hm.1
  have hlen := sendV_len hl hmk
  have hl16 := bmOk_len hl
  refine (range_eq (fun (t : Int × Int) (i : Int) => (false, t.1, t.2, i)) (sendV l ms) (fun y i t k => oif (decide (bd l ms y < t.1) || (bd l ms y == t.1 && decide (y < t.2))) (some false) (k (bd l ms y, y))) (fun _ => some true) ?_ ?_ (by rw [fuelN_eq, hlen]; omega) (0, -1)).trans ?_
  · intro ag t i y hy
    have hi := (List.getElem?_eq_some_iff.1 hy).1
    obtain ⟨h1, h2, h3⟩ := sendV_mem (List.mem_of_getElem? hy)
    have e1 : decide (0 ≤ y) = true := by simpa using h1
    have e2 : ms[y.toNat]? = some (ms.getD y.toNat 0) := by simp [List.getD, List.getElem?_eq_getElem h2]
    have e3 : mkOk (ms.getD y.toNat 0) = true := hmk _ (List.mem_of_getElem? e2)
    have e4 : boV l (ms.getD y.toNat 0) = (bd l ms y, true) := by simp only [boV, hl, e3, Bool.and_self, if_true]; rfl
    simp only [l4_0, l4_0_b, ltl hy, bltl hy, nn, ofNat_toNat, hy, ob_s, oif_t, e1, e2, blt_of h2, q_BandOf (show l.length < 4194304 by omega), q_sBandOf (show l.length < 4194304 by omega), e4, bne_self_eq_false, oif_f, Bool.not_true, j4_1, wr1 (show i < 9223372036854775807 by omega)]
    cases decide (bd l ms y < t.1) <;> cases (bd l ms y == t.1) <;> cases decide (y < t.2) <;> rfl
  · intro ag t
    simp only [l4_0, l4_0_b, ltn, oif_f, j4_0, hlen, beq_self_eq_true]
  · have gen : ∀ (out : List Int) (i : Nat) (t : Int × Int), (∀ y ∈ out, 0 ≤ y) → (∀ y ∈ out, t.1 < bd l ms y ∨ (bd l ms y = t.1 ∧ t.2 < y)) → out.Pairwise (lexLt l ms) → rangeR (fun y i t k => oif (decide (bd l ms y < t.1) || (bd l ms y == t.1 && decide (y < t.2))) (some false) (k (bd l ms y, y))) (fun _ => some true) out i t = some true := by
      intro out
      induction out with
      | nil => intro i t _ _ _; rfl
      | cons y r ih =>
        intro i t h0 h1 h2
        have h3 := h1 y (by simp)
        obtain ⟨h4, h5⟩ := List.pairwise_cons.1 h2
        simp only [rangeR]
        have e : (decide (bd l ms y < t.1) || (bd l ms y == t.1 && decide (y < t.2))) = false := by
          rw [Bool.or_eq_false_iff, Bool.and_eq_false_iff]
          simp only [decide_eq_false_iff_not, beq_eq_false_iff_ne, ne_eq]
          omega
        rw [e, oif_f]
        refine ih (i + 1) _ (fun z hz => h0 z (by simp [hz])) (fun z hz => ?_) h5
        rcases h4 z hz with h | h
        · exact .inl h
        · exact .inr ⟨h.1.symm, h.2⟩
    refine gen _ 0 _ (fun y hy => (sendV_mem hy).1) (fun y hy => ?_) sendV_pw
    obtain ⟨h1, h2, h3⟩ := sendV_mem hy
    simp only
    omega

theorem law_4 {d : Nat} {x y : List Int} (hx : Bytes x) (hy : Bytes y) : g4 (d + 10) x y = some true := by
  rw [e4]
  refine (show ∀ b : Bool, oif b (some true) _ = some true from fun b => ?_) _
  cases b with
  | true => rfl
  | false =>
    obtain ⟨⟨l, ms⟩, h1, a1, a2⟩ := p_DrawSendOrder (d := d + 4) hx
    obtain ⟨⟨l', ms'⟩, h2, b1, b2⟩ := p_DrawBandCounts (d := d + 3) hy
    obtain ⟨⟨l2, m2⟩, h3, c1⟩ := p_DrawBandOf (d := d + 4) hy
    simp only at a1 a2 b1 b2 c1
    obtain ⟨r, h4, h5, h6, h7, h8⟩ := q_BandCounts (d := d + 4) (show l'.length < 4194304 by omega) (show ms'.length < 4194304 by omega)
    have s1 : (soV l ms).1.length ≤ 400 := by
      unfold soV
      split
      · rename_i h
        simp only [Bool.and_eq_true] at h
        have hmk : ∀ x ∈ ms, mkOk x = true := by have := h.2; simp only [mksOk, Bool.and_eq_true, List.all_eq_true] at this; exact this.1
        rw [sendV_len h.1 hmk]; omega
      · simp
    simp only [oif_f, h1, h2, h3, ob_s, q_SendOrder (show l.length < 4194304 by omega) (show ms.length < 4194304 by omega), q_sSendOrder (show l.length < 4194304 by omega) (show ms.length < 4194304 by omega), h4, h5, q_BandOf (show l2.length < 4194304 by omega), q_sBandOf (show l2.length < 4194304 by omega), beq_self_eq_true, Bool.not_true, q_qInts (show (soV l ms).1.length < 4194304 by omega), q_qInts (show r.1.length < 4194304 by omega), bne_self_eq_false, q_IsBandMap (show l2.length < 4194304 by omega), q_sIsBandMap (show l2.length < 4194304 by omega)]
    have fin : j4_2 (d + 9) (l, ms) (soV l ms) (soV l ms) false = some true := by
      unfold j4_2
      simp only [oif_f]
      unfold soV
      cases hl : bmOk l with
      | false => rfl
      | true =>
        cases hm : mksOk ms with
        | false => rfl
        | true => simp only [Bool.and_self, if_true, Bool.not_true, oif_f]; exact law_loop (d := d + 5) hl hm
    cases h9 : r.2 with
    | false => simp only [oif_f]; exact fin
    | true =>
      obtain ⟨g1, g2⟩ := h8 h9
      rw [oif_t, q_qSum (by omega) h7 (by omega), ob_s, g1, bne_self_eq_false, oif_f]
      exact fin

theorem lawOk : LawOk Try.prog pvAnn (10) 4 :=
  ⟨rfl, rfl, rfl, fun x y hx hy _ _ => ⟨(x, y), true, law_4 (d := 0) hx hy, rfl, rfl⟩⟩

end Go.Proofs.Ytngofhppopgicaa
