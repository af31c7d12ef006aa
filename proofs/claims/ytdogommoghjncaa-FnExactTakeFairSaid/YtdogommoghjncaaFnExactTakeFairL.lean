/-
  The law FnExactTakeFair by value.
  Conditions: lengths fit an int.
-/
import Derived.Test.YtdogommoghjncaaFnExactTakeFairK
import Derived.Test.YtdogommoghjncaaVAny
set_option linter.all false
namespace Go.Proofs.Ytdogommoghjncaa
open Go.Ev Go.Pv

theorem mark_x {d : Nat} {KX : Int → List (List Pk) → Option Bool} {rows : List (List Pk)} {k : Int} (h0 : 0 ≤ k) (hk : k ≤ 1000000) (hl : rows.length ≤ 1048576) (hq : ∀ q ∈ rows, q.length ≤ 1048576) : iterP (l4i32i82_0x (d + 1) KX) fuelN (k, 0, rows) = KX (k + cntL rows) (mkLL rows k) := by
  refine markSS_of (fun ag n i l q h1 h2 hx h3 h4 => ?_) (fun ag n l => ?_) h0 hk hl hq
  · have hi := (List.getElem?_eq_some_iff.1 hx).1
    simp only [l4i32i82_0x, l4i32i82_0x_b, ltl hx, oif_t, nn, ofNat_toNat, blt_of hi, hx, ob_s, beqT]
    rw [q_markPacketS h1 h2 h3, ob_s, wr1 (by omega)]
  · simp only [l4i32i82_0x, l4i32i82_0x_b, ltn, oif_f]

theorem mark_y {d : Nat} {KX : Int → List (List Pk) → Option Bool} {rows : List (List Pk)} {k : Int} (h0 : 0 ≤ k) (hk : k ≤ 1000000) (hl : rows.length ≤ 1048576) (hq : ∀ q ∈ rows, q.length ≤ 1048576) : iterP (l4i32i82_0 (d + 1) KX) fuelN (k, 0, rows) = KX (k + cntL rows) (mkLL rows k) := by
  refine markSS_of (fun ag n i l q h1 h2 hx h3 h4 => ?_) (fun ag n l => ?_) h0 hk hl hq
  · have hi := (List.getElem?_eq_some_iff.1 hx).1
    simp only [l4i32i82_0, l4i32i82_0_b, ltl hx, oif_t, nn, ofNat_toNat, blt_of hi, hx, ob_s, beqT]
    rw [q_markPacketS h1 h2 h3, ob_s, wr1 (by omega)]
  · simp only [l4i32i82_0, l4i32i82_0_b, ltn, oif_f]

theorem law_1 {d : Nat} {f : Fa} (hB : faB f) : j4_1 (d + 9) f (tkV f) (tkV f) false = some true := by
  unfold j4_1
  have hT := tk_B (f := f)
  have hH := q_heldFair (d := d + 8) hT
  have hE := q_eqFair (d := d + 7) hT
  obtain ⟨t1, t2, t3⟩ := id hT
  have hc := cntL_in _ t3
  rw [oif_f, mark_y (by omega) (by omega) t1 t3]
  unfold j4i32i82_0
  rw [q_markIntS (by omega) (by omega) t2, ob_s]
  simp only
  rw [hH, ob_s, decide_eq_false (by omega), oif_f, bne_self_eq_false, oif_f, q_toFair hB, ob_s, q_TakeFair hB, ob_s, hE, ob_s, Bool.not_true, oif_f, q_eqPacket, ob_s, Bool.not_true, oif_f, beq_self_eq_true, Bool.not_true]
  unfold j4_0
  simp only [oif_f]
  rw [hH, ob_s, decide_eq_false (by omega), oif_f, bne_self_eq_false, oif_f]

theorem law_main {d : Nat} {f : Fa} (h1 : f.2.2.1.length ≤ 9223372036854775807) (h2 : ∀ q ∈ f.2.2.1, q.length ≤ 9223372036854775807) (h3 : f.2.2.2.1.length ≤ 9223372036854775807) : g4 (d + 12) f = some true := by
  rw [e4]
  obtain ⟨r, hr, hB⟩ := p_szFair (d := d + 8) h1 h2 h3
  rw [hr, ob_s]
  by_cases h : r < 0
  · rw [decide_eq_true h, oif_t]
  · rw [decide_eq_false h, oif_f]
    have hB : faB f := by rcases hB with hB | hB; exact absurd hB h; exact hB
    have hE := q_eqFair (d := d + 7) (tk_B (f := f))
    obtain ⟨b1, b2, b3⟩ := id hB
    have hc := cntL_in _ b3
    rw [q_toFair hB, ob_s, q_sTakeFair hB, ob_s, ob_s, q_TakeFair hB, ob_s, hE, ob_s, Bool.not_true, oif_f, q_eqPacket, ob_s, Bool.not_true, oif_f, beq_self_eq_true, Bool.not_true]
    unfold j4_2
    rw [oif_f, q_toFair hB, ob_s, q_eqFair hB, ob_s, Bool.not_true, oif_f, mark_x (by omega) (by omega) b1 b3]
    unfold j4i32i82_1
    rw [q_markIntS (by omega) (by omega) b2, ob_s, decide_eq_false (by simp only; omega), oif_f, hE, ob_s, Bool.not_true, oif_f, q_eqPacket, ob_s, Bool.not_true, oif_f, beq_self_eq_true, Bool.not_true]
    exact law_1 hB

def tysLaw : List Ty := [(.pair (.int .i64) (.pair (.int .i64) (.pair (.sl (.sl (.pair (.int .i64) (.pair (.int .i64) (.pair (.int .i64) (.pair (.int .i64) (.pair (.int .i64) (.int .i64)))))))) (.pair (.sl (.int .i64)) (.pair (.int .i64) .bool)))))]

theorem lawAny : LawAny Try.prog pvAnn (12) 4 tysLaw :=
  ⟨rfl, rfl, rfl, fun f h => by
    have hf := h ⟨(.pair (.int .i64) (.pair (.int .i64) (.pair (.sl (.sl (.pair (.int .i64) (.pair (.int .i64) (.pair (.int .i64) (.pair (.int .i64) (.pair (.int .i64) (.int .i64)))))))) (.pair (.sl (.int .i64)) (.pair (.int .i64) .bool))))), f⟩ (List.Mem.head _)
    exact ⟨true, law_main (d := 0) hf.2.2.1.1 (fun q hq => (hf.2.2.1.2 q hq).1) hf.2.2.2.1.1, rfl⟩⟩

end Go.Proofs.Ytdogommoghjncaa
