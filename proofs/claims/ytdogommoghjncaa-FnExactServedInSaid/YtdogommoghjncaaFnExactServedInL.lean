/-
  The law FnExactServedIn by value.
  Conditions: lengths fit an int.
-/
import Derived.Test.YtdogommoghjncaaFnExactServedInK
import Derived.Test.YtdogommoghjncaaVAny
set_option linter.all false
namespace Go.Proofs.Ytdogommoghjncaa
open Go.Ev Go.Pv

theorem mark_y {d : Nat} {KX : Int → List (List Pk) → Option Bool} {rows : List (List Pk)} {k : Int} (h0 : 0 ≤ k) (hk : k ≤ 1000000) (hl : rows.length ≤ 1048576) (hq : ∀ q ∈ rows, q.length ≤ 1048576) : iterP (l6i32i82_0 (d + 1) KX) fuelN (k, 0, rows) = KX (k + cntL rows) (mkLL rows k) := by
  refine markSS_of (fun ag n i l q h1 h2 hx h3 h4 => ?_) (fun ag n l => ?_) h0 hk hl hq
  · have hi := (List.getElem?_eq_some_iff.1 hx).1
    simp only [l6i32i82_0, l6i32i82_0_b, ltl hx, oif_t, nn, ofNat_toNat, blt_of hi, hx, ob_s, beqT]
    rw [q_markPacketS h1 h2 h3, ob_s, wr1 (by omega)]
  · simp only [l6i32i82_0, l6i32i82_0_b, ltn, oif_f]

theorem res_B {f : Fa} {n : Int} : (serV f n).1.length ≤ 1048576 := by
  unfold serV
  cases h : faV f with
  | false => simp
  | true =>
    cases h0 : decide (0 ≤ n ∧ n ≤ 160) with
    | false => simp
    | true =>
      have hu := (faV_S h).1
      rw [Bool.and_self, if_pos rfl]
      simp only [srv_len, List.length_replicate]; omega

theorem law_1 {d : Nat} {f : Fa} {n : Int} (hB : faB f) : j6_1 (d + 9) f n (serV f n) (serV f n) false = some true := by
  unfold j6_1
  have hT := res_B (f := f) (n := n)
  have hH := q_heldIntS (d := d + 10) (k := 1) (by omega) (by omega) hT
  have hE := q_eqIntS (d := d + 10) hT
  rw [oif_f, q_markIntS (by omega) (by omega) hT, ob_s]
  simp only
  rw [hH, ob_s, decide_eq_false (by omega), oif_f, bne_self_eq_false, oif_f, q_toFair hB, ob_s, q_ServedIn hB, ob_s, hE, ob_s, Bool.not_true, oif_f, beq_self_eq_true, Bool.not_true]
  unfold j6_0
  rw [oif_f, hH, ob_s, decide_eq_false (by omega), oif_f, bne_self_eq_false, oif_f]

theorem law_main {d : Nat} {f : Fa} {n : Int} (h1 : f.2.2.1.length ≤ 9223372036854775807) (h2 : ∀ q ∈ f.2.2.1, q.length ≤ 9223372036854775807) (h3 : f.2.2.2.1.length ≤ 9223372036854775807) : g6 (d + 12) f n = some true := by
  rw [e6]
  obtain ⟨r, hr, hB⟩ := p_szFair (d := d + 8) h1 h2 h3
  rw [hr, ob_s]
  by_cases h : r < 0
  · rw [decide_eq_true h, oif_t]
  · rw [decide_eq_false h, oif_f]
    have hB : faB f := by rcases hB with hB | hB; exact absurd hB h; exact hB
    have hE := q_eqIntS (d := d + 10) (res_B (f := f) (n := n))
    obtain ⟨b1, b2, b3⟩ := id hB
    have hc := cntL_in _ b3
    rw [q_toFair hB, ob_s, q_sServedIn hB, ob_s, ob_s, q_ServedIn hB, ob_s, hE, ob_s, Bool.not_true, oif_f, beq_self_eq_true, Bool.not_true]
    unfold j6_2
    rw [oif_f, q_toFair hB, ob_s, q_eqFair hB, ob_s, Bool.not_true, oif_f, mark_y (by omega) (by omega) b1 b3]
    unfold j6i32i82_0
    rw [q_markIntS (by omega) (by omega) b2, ob_s, decide_eq_false (by simp only; omega), oif_f, hE, ob_s, Bool.not_true, oif_f, beq_self_eq_true, Bool.not_true]
    exact law_1 hB

def tysLaw : List Ty := [(.pair (.int .i64) (.pair (.int .i64) (.pair (.sl (.sl (.pair (.int .i64) (.pair (.int .i64) (.pair (.int .i64) (.pair (.int .i64) (.pair (.int .i64) (.int .i64)))))))) (.pair (.sl (.int .i64)) (.pair (.int .i64) .bool))))), .int .i64]

theorem lawAny : LawAny Try.prog pvAnn (12) 6 tysLaw :=
  ⟨rfl, rfl, rfl, fun a h => by
    obtain ⟨f, n⟩ := a
    have hf := h ⟨(.pair (.int .i64) (.pair (.int .i64) (.pair (.sl (.sl (.pair (.int .i64) (.pair (.int .i64) (.pair (.int .i64) (.pair (.int .i64) (.pair (.int .i64) (.int .i64)))))))) (.pair (.sl (.int .i64)) (.pair (.int .i64) .bool))))), f⟩ (List.Mem.head _)
    exact ⟨true, law_main (d := 0) hf.2.2.1.1 (fun q hq => (hf.2.2.1.2 q hq).1) hf.2.2.2.1.1, rfl⟩⟩

end Go.Proofs.Ytdogommoghjncaa
