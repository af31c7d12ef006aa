/-
  The law FnExactRunFair by value.
  Conditions: lengths fit an int.
-/
import Derived.Test.YtdogommoghjncaaFnExactRunFairK
import Derived.Test.YtdogommoghjncaaVAny
set_option linter.all false
namespace Go.Proofs.Ytdogommoghjncaa
open Go.Ev Go.Pv

theorem mark_x {d : Nat} {KX : Int → List (List Pk) → Option Bool} {rows : List (List Pk)} {k : Int} (h0 : 0 ≤ k) (hk : k ≤ 1000000) (hl : rows.length ≤ 1048576) (hq : ∀ q ∈ rows, q.length ≤ 1048576) : iterP (l7i32i82_0x (d + 1) KX) fuelN (k, 0, rows) = KX (k + cntL rows) (mkLL rows k) := by
  refine markSS_of (fun ag n i l q h1 h2 hx h3 h4 => ?_) (fun ag n l => ?_) h0 hk hl hq
  · have hi := (List.getElem?_eq_some_iff.1 hx).1
    simp only [l7i32i82_0x, l7i32i82_0x_b, ltl hx, oif_t, nn, ofNat_toNat, blt_of hi, hx, ob_s, beqT]
    rw [q_markPacketS h1 h2 h3, ob_s, wr1 (by omega)]
  · simp only [l7i32i82_0x, l7i32i82_0x_b, ltn, oif_f]

theorem mark_y {d : Nat} {KX : Int → List (List Pk) → Option Bool} {rows : List (List Pk)} {k : Int} (h0 : 0 ≤ k) (hk : k ≤ 1000000) (hl : rows.length ≤ 1048576) (hq : ∀ q ∈ rows, q.length ≤ 1048576) : iterP (l7i32i82_0 (d + 1) KX) fuelN (k, 0, rows) = KX (k + cntL rows) (mkLL rows k) := by
  refine markSS_of (fun ag n i l q h1 h2 hx h3 h4 => ?_) (fun ag n l => ?_) h0 hk hl hq
  · have hi := (List.getElem?_eq_some_iff.1 hx).1
    simp only [l7i32i82_0, l7i32i82_0_b, ltl hx, oif_t, nn, ofNat_toNat, blt_of hi, hx, ob_s, beqT]
    rw [q_markPacketS h1 h2 h3, ob_s, wr1 (by omega)]
  · simp only [l7i32i82_0, l7i32i82_0_b, ltn, oif_f]

theorem run_B {f : Fa} {l : List Pk} {n : Int} : faB (runV f l n).1 ∧ (runV f l n).2.1.length ≤ 1048576 := by
  unfold runV
  cases h : faV f with
  | false => exact ⟨zero_B, by simp⟩
  | true =>
    rw [Bool.true_and]
    cases h0 : decide (l.length ≤ 60 ∧ 0 ≤ n ∧ n ≤ 5) with
    | false => exact ⟨zero_B, by simp⟩
    | true =>
      rw [Bool.true_and]
      cases ha : arV f l with
      | false => exact ⟨zero_B, by simp⟩
      | true =>
        rw [decide_eq_true_eq] at h0
        obtain ⟨a1, a2⟩ := rn_ok (t := n.toNat) l (f := f) (ids := []) (RI_of h) (ar_ok ha)
        rw [if_pos rfl]
        refine ⟨(TI_B a1.1.1).b, ?_⟩
        have := Nat.mul_le_mul (show n.toNat ≤ 5 by omega) h0.1
        simp only [List.length_nil, Nat.zero_add] at a2
        simp only; omega

theorem law_1 {d : Nat} {f : Fa} {l : List Pk} {n : Int} (hB : faB f) (hl : l.length ≤ 1048576) : j7_1 (d + 9) f l n (runV f l n) (runV f l n) false = some true := by
  unfold j7_1
  obtain ⟨hT, hI⟩ := run_B (f := f) (l := l) (n := n)
  have hH := q_heldFair (d := d + 8) hT
  have hE := q_eqFair (d := d + 7) hT
  have hEI := q_eqIntS (d := d + 10) hI
  obtain ⟨t1, t2, t3⟩ := id hT
  have hc := cntL_in _ t3
  have hHI := q_heldIntS (d := d + 10) (l := (runV f l n).2.1) (k := 1 + cntL (runV f l n).1.2.2.1 + (((runV f l n).1.2.2.2.1.length : Nat) : Int)) (by omega) (by omega) hI
  rw [oif_f, mark_y (by omega) (by omega) t1 t3]
  unfold j7i32i82_0
  rw [q_markIntS (by omega) (by omega) t2, ob_s]
  simp only
  rw [q_markIntS (by omega) (by omega) hI, ob_s]
  simp only
  rw [hH, ob_s, decide_eq_false (by omega), oif_f, hHI, ob_s, decide_eq_false (by omega), oif_f, bne_self_eq_false, oif_f, q_toFair hB, ob_s, q_toPacketS hl, ob_s, q_RunFair hB hl, ob_s, hE, ob_s, Bool.not_true, oif_f, hEI, ob_s, Bool.not_true, oif_f, beq_self_eq_true, Bool.not_true]
  unfold j7_0
  simp only [oif_f]
  rw [hH, ob_s, decide_eq_false (by omega), oif_f, hHI, ob_s, decide_eq_false (by omega), oif_f, bne_self_eq_false, oif_f]

theorem law_main {d : Nat} {f : Fa} {l : List Pk} {n : Int} (h1 : f.2.2.1.length ≤ 9223372036854775807) (h2 : ∀ q ∈ f.2.2.1, q.length ≤ 9223372036854775807) (h3 : f.2.2.2.1.length ≤ 9223372036854775807) (h4 : l.length ≤ 9223372036854775807) : g7 (d + 12) f l n = some true := by
  rw [e7]
  obtain ⟨r, hr, hB⟩ := p_szFairN (d := d + 8) h1 h2 h3
  rw [hr, ob_s]
  by_cases h : r < 0
  · rw [decide_eq_true h, oif_t]
  · rw [decide_eq_false h, oif_f]
    obtain ⟨hr1, hB⟩ : r ≤ 1048576 ∧ faB f := by rcases hB with hB | hB; exact absurd hB h; exact hB
    rw [q_szPacketS (by omega) hr1 h4, ob_s]
    by_cases h5 : r - ((l.length : Nat) : Int) < 0
    · rw [if_pos h5, decide_eq_true (by omega), oif_t]
    · rw [if_neg h5, decide_eq_false h5, oif_f]
      have hl : l.length ≤ 1048576 := by omega
      obtain ⟨hT, hI⟩ := run_B (f := f) (l := l) (n := n)
      have hE := q_eqFair (d := d + 7) hT
      have hEI := q_eqIntS (d := d + 10) hI
      obtain ⟨b1, b2, b3⟩ := id hB
      have hc := cntL_in _ b3
      have hP := q_toPacketS (d := d + 9) hl
      rw [q_toFair hB, ob_s, hP, ob_s, q_sRunFair hB hl, ob_s, ob_s, ob_s, q_RunFair hB hl, ob_s, hE, ob_s, Bool.not_true, oif_f, hEI, ob_s, Bool.not_true, oif_f, beq_self_eq_true, Bool.not_true]
      unfold j7_2
      rw [oif_f, q_toFair hB, ob_s, q_eqFair hB, ob_s, Bool.not_true, oif_f, hP, ob_s, q_eqPacketS hl, ob_s, Bool.not_true, oif_f, mark_x (by omega) (by omega) b1 b3]
      unfold j7i32i82_1
      rw [q_markIntS (by omega) (by omega) b2, ob_s, q_markPacketS (by simp only; omega) (by simp only; omega) hl, ob_s, decide_eq_false (by simp only; omega), oif_f, hE, ob_s, Bool.not_true, oif_f, hEI, ob_s, Bool.not_true, oif_f, beq_self_eq_true, Bool.not_true]
      exact law_1 hB hl

def tysLaw : List Ty := [(.pair (.int .i64) (.pair (.int .i64) (.pair (.sl (.sl (.pair (.int .i64) (.pair (.int .i64) (.pair (.int .i64) (.pair (.int .i64) (.pair (.int .i64) (.int .i64)))))))) (.pair (.sl (.int .i64)) (.pair (.int .i64) .bool))))), .sl (.pair (.int .i64) (.pair (.int .i64) (.pair (.int .i64) (.pair (.int .i64) (.pair (.int .i64) (.int .i64)))))), .int .i64]

theorem lawAny : LawAny Try.prog pvAnn (12) 7 tysLaw :=
  ⟨rfl, rfl, rfl, fun a h => by
    obtain ⟨f, l, n⟩ := a
    have hf := h ⟨(.pair (.int .i64) (.pair (.int .i64) (.pair (.sl (.sl (.pair (.int .i64) (.pair (.int .i64) (.pair (.int .i64) (.pair (.int .i64) (.pair (.int .i64) (.int .i64)))))))) (.pair (.sl (.int .i64)) (.pair (.int .i64) .bool))))), f⟩ (List.Mem.head _)
    have hl := h ⟨.sl (.pair (.int .i64) (.pair (.int .i64) (.pair (.int .i64) (.pair (.int .i64) (.pair (.int .i64) (.int .i64)))))), l⟩ (List.Mem.tail _ (List.Mem.head _))
    exact ⟨true, law_main (d := 0) hf.2.2.1.1 (fun q hq => (hf.2.2.1.2 q hq).1) hf.2.2.2.1.1 hl.1, rfl⟩⟩

end Go.Proofs.Ytdogommoghjncaa
