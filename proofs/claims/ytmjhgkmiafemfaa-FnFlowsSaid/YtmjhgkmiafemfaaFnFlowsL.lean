/-
  The law FnFlows by value.
  Conditions: bytes.
-/
import Derived.Test.YtmjhgkmiafemfaaFnFlowsK
set_option linter.all false
namespace Go.Proofs.Ytmjhgkmiafemfaa
open Go.Ev Go.Pv

theorem law_0 {d : Nat} {y : List Int} (hy : Bytes y) : j3_0 (d + 8) y false = some true := by
  unfold j3_0
  obtain ⟨⟨p, k⟩, h1, _⟩ := p_DrawFlowOf (d := d + 2) hy
  obtain ⟨l, h2, h3⟩ := p_DrawTotalSize (d := d) hy
  simp only [oif_f, h1, h2, ob_s, q_FlowOf, q_sFlowOf, q_TotalSize (show l.length < 4194304 by omega), q_sTotalSize (show l.length < 4194304 by omega), beq_self_eq_true, oif_t]
  cases h : (foV p k).2 with
  | false => rfl
  | true =>
    unfold foV at h ⊢
    split at h
    · rename_i hc
      rw [if_pos hc]
      simp only [Bool.and_eq_true] at hc
      obtain ⟨f1, f2⟩ := flV_in (p := p) hc.2
      simp only [Bool.not_true, oif_f]
      rw [decide_eq_true (show flV p k ≥ 0 from f1), oif_t, decide_eq_true f2, oif_t]
    · simp at h

theorem law_2 {d : Nat} {y : List Int} (hy : Bytes y) : j3_2 (d + 8) y = some true := by
  unfold j3_2
  obtain ⟨⟨p, m, v⟩, h1, _⟩ := p_DrawMarkedPacket (d := d + 2) hy
  simp only [h1, ob_s, q_MarkedPacket, q_sMarkedPacket, beq_self_eq_true, Bool.not_true, oif_f, Bool.and_self]
  unfold j3_1
  rw [oif_f]
  cases h : (mkV p m v).2 with
  | false => rw [oif_f]; exact law_0 (d := d) hy
  | true =>
    rw [oif_t]
    unfold mkV at h ⊢
    split at h
    · rename_i hc
      rw [if_pos hc]
      simp only [Bool.and_eq_true] at hc
      have hw : wordOk p.2.2.2.2.1 = true := by have := pkOk_in hc.1; simp only [wordOk, decide_eq_true_eq]; omega
      obtain ⟨l1, l2⟩ := mkE_laws hw hc.2.1 hc.2.2
      simp only [l1, l2, bne_self_eq_false, oif_f]
      exact law_0 (d := d) hy
    · simp at h

theorem law_main {d : Nat} {x y : List Int} (hx : Bytes x) (hy : Bytes y) : g3 (d + 9) x y = some true := by
  rw [e3]
  obtain ⟨b, hb⟩ := q_big (d := d + 7) (x := x) (y := y)
  rw [hb, ob_s]
  cases b with
  | true => rfl
  | false =>
  obtain ⟨⟨l, k⟩, h1, h2⟩ := p_DrawFlowSizes (d := d + 1) hx
  simp only at h2
  have hl : l.length < 4194304 := by omega
  have hs : (fsV l k).1.length ≤ 64 := by
    unfold fsV; split
    · rename_i hc
      simp only [Bool.and_eq_true, flOk, decide_eq_true_eq] at hc
      rw [fsL_len, List.length_replicate]; omega
    · simp
  simp only [oif_f, h1, ob_s, q_FlowSizes hl, q_sFlowSizes hl, beq_self_eq_true, Bool.not_true, q_sameInts (show (fsV l k).1.length < 4194304 by omega), q_ArePackets hl, q_sArePackets hl]
  unfold j3_3
  rw [oif_f]
  cases h : (fsV l k).2 with
  | false => rw [oif_f]; exact law_2 (d := d) hy
  | true =>
    rw [oif_t]
    unfold fsV at h hs ⊢
    split at h
    · rename_i hc
      rw [if_pos hc] at hs ⊢
      simp only [Bool.and_eq_true] at hc
      obtain ⟨hp, hk⟩ := hc
      obtain ⟨a1, a2⟩ := pksOk_in hp
      have hsum := fsL_sum (k := k) hk (l := l) (t := List.replicate k.toNat 0) (by simp)
      have hz : (List.replicate k.toNat (0 : Int)).sum = 0 := by simp
      have hb : szs l ≤ 90000 := by
        have := szs_le l a1; omega
      have hq := q_pSum (d := d + 7) (l := fsL k (List.replicate k.toNat 0) l) (by simp only at hs; omega) (fsL_nonneg a1 (fun e he => by rw [(List.mem_replicate.1 he).2]; omega)) (by rw [hsum, hz]; omega)
      have hts : tsV l = (szs l, true) := by unfold tsV; rw [if_pos hp]
      simp only [q_TotalSize hl, ob_s, hts, Bool.not_true, oif_f, hq, hsum, hz, Int.zero_add, bne_self_eq_false]
      have hlen : (((fsL k (List.replicate k.toNat 0) l).length : Nat) : Int) = k := by
        simp only [flOk, decide_eq_true_eq] at hk
        rw [fsL_len, List.length_replicate]; omega
      rw [hlen, bne_self_eq_false, oif_f]
      exact law_2 (d := d) hy
    · simp at h

theorem lawOk : LawOk Try.prog pvAnn (9) 3 :=
  ⟨rfl, rfl, rfl, fun x y hx hy _ _ => ⟨(x, y), true, law_main (d := 0) hx hy, rfl, rfl⟩⟩

end Go.Proofs.Ytmjhgkmiafemfaa
