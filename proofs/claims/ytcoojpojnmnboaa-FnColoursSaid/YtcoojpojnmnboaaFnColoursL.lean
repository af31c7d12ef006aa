/-
  The law FnColours by value.
  Conditions: bytes.
-/
import Derived.Test.YtcoojpojnmnboaaFnColoursK
set_option linter.all false
namespace Go.Proofs.Ytcoojpojnmnboaa
open Go.Ev Go.Pv

theorem law_1 {d : Nat} {p : (Int × Int × Int) × Int × Int × Int} {l : List (Int × Int)} {g : List Int} (hc : rpOk p l g = true) : j7_1 (d + 5) (p, l, g) (rpV p l g) (rpV p l g) (lastT 0 l) = some true := by
  unfold j7_1
  have e0 : rpV p l g = ((rpF p 0 l (glV l g)).1, (rpF p 0 l (glV l g)).2, true) := by unfold rpV; rw [if_pos hc]
  simp only [rpOk, Bool.and_eq_true, decide_eq_true_eq] at hc
  obtain ⟨hp, hs, hco, hgl⟩ := hc
  have hk := sd_len hs
  have hs' := hs
  simp only [sdOk, Bool.and_eq_true] at hs'
  obtain ⟨b1, b2, h1, h2, h3⟩ := po_in hp
  obtain ⟨i1, i2, i3, i4, i5⟩ := rp_bytes l (glV l g) p 0 hp hs'.1 (by omega) (gl_len hgl)
  obtain ⟨t1, t2⟩ := lastT_le hs'.1
  have t2 := t2 (by omega)
  have hin := sd_in hs
  have hb1 := byF_in (k := 1) (cs := (rpF p 0 l (glV l g)).2) hin
  have hb2 := byF_in (k := 2) (cs := (rpF p 0 l (glV l g)).2) hin
  have eb : byV l (rpF p 0 l (glV l g)).2 = ([byF 0 l (rpF p 0 l (glV l g)).2, byF 1 l (rpF p 0 l (glV l g)).2, byF 2 l (rpF p 0 l (glV l g)).2], true) := by
    unfold byV; rw [if_pos]
    simp only [hs, Bool.true_and, Bool.and_eq_true, List.all_eq_true, decide_eq_true_eq]
    exact ⟨i4, i3⟩
  have ht : tkOk (lastT 0 l) = true := by simp [tkOk]; omega
  have eg : grnV p (lastT 0 l) = (bnV p.1 (lastT 0 l), true) := by simp [grnV, hp, ht]
  have en : nrdV p (lastT 0 l) = (bnV p.2 (lastT 0 l), true) := by simp [nrdV, hp, ht]
  rw [e0]
  simp only [q_BytesOfColours (show l.length < 4194304 by omega) (show (rpF p 0 l (glV l g)).2.length < 4194304 by omega), q_sBytesOfColours (show l.length < 4194304 by omega) (show (rpF p 0 l (glV l g)).2.length < 4194304 by omega), ob_s, q_GreenBound, q_NotRedBound, eb, eg, en, Bool.not_true, oif_f, q_IsPolicer, i5]
  rw [q_qInts (by simp), ob_s, Bool.not_true, oif_f]
  simp only [List.length_cons, List.length_nil, show ((((0 + 1 + 1 + 1 : Nat)) : Int) != 3) = false from rfl, oif_f]
  unfold j7_0
  rw [Int.sub_zero] at i1 i2
  simp only [oif_f, List.length_cons, List.length_nil, show Nat.blt 2 (0 + 1 + 1 + 1) = true from rfl, show Nat.blt 1 (0 + 1 + 1 + 1) = true from rfl, oif_t, List.getElem?_cons_succ, List.getElem?_cons_zero, ob_s]
  rw [wr (n := byF 2 l (rpF p 0 l (glV l g)).2 + byF 1 l (rpF p 0 l (glV l g)).2) (by omega) (by omega)]
  unfold bnV
  rw [decide_eq_true (by omega), oif_t, decide_eq_true (by omega)]

theorem law_2 {d : Nat} {p : (Int × Int × Int) × Int × Int × Int} {l : List (Int × Int)} {g : List Int} (hl : l.length < 4194304) : j7_2 (d + 5) (p, l, g) (rpV p l g) (rpV p l g) false = some true := by
  unfold j7_2
  rw [oif_f]
  by_cases hc : rpOk p l g = true
  case neg =>
    have e0 : rpV p l g = (((0, 0, 0), 0, 0, 0), [], false) := by unfold rpV; rw [if_neg hc]
    rw [e0]; rfl
  have e0 : (rpV p l g).2.2 = true := by unfold rpV; rw [if_pos hc]
  have fin := law_1 (d := d) hc
  simp only [e0, Bool.not_true, oif_f]
  by_cases h0 : ((l.length : Nat) : Int) > 0
  · have hlt : l.length - 1 < l.length := by omega
    rw [decide_eq_true h0, oif_t, show IntKind.i64.wrap (((l.length : Nat) : Int) - 1) = ((l.length - 1 : Nat) : Int) by rw [wr (by omega) (by omega)]; omega, nn, oif_t, ofNat_toNat, blt_of hlt, oif_t, List.getElem?_eq_getElem hlt, ob_s, ← lastT_get l 0 (by omega)]
    exact fin
  · have : l = [] := List.length_eq_zero_iff.1 (by omega)
    subst this
    rw [decide_eq_false h0, oif_f]; exact fin

theorem law_main {d : Nat} {x y : List Int} (hx : Bytes x) (hy : Bytes y) : g7 (d + 8) x y = some true := by
  rw [e7]
  refine (show ∀ b : Bool, oif b (some true) _ = some true from fun b => ?_) _
  cases b with
  | true => rfl
  | false =>
  obtain ⟨⟨p, l, g⟩, h1, a1, a2⟩ := p_DrawRunPolicer (d := d + 1) hx
  obtain ⟨m, h2, b1⟩ := p_DrawCountColours (d := d + 2) hy
  obtain ⟨⟨s, k⟩, h3, c1, c2⟩ := p_DrawBytesOfColours (d := d + 2) hy
  obtain ⟨⟨q, t⟩, h4, _⟩ := p_DrawGreenBound (d := d + 1) hy
  simp only at a1 a2 c1 c2
  have s1 : (rpV p l g).2.1.length < 4194304 := by
    unfold rpV; split
    · rename_i hc
      simp only [rpOk, Bool.and_eq_true, decide_eq_true_eq] at hc
      obtain ⟨hp, hs, hco, hgl⟩ := hc
      have hs' := hs
      simp only [sdOk, Bool.and_eq_true] at hs'
      have := (rp_bytes l (glV l g) p 0 hp hs'.1 (by omega) (gl_len hgl)).2.2.1
      simp only; omega
    · simp
  have s2 : (ccV m).1.length < 4194304 := by unfold ccV; split <;> simp
  have s3 : (byV s k).1.length < 4194304 := by unfold byV; split <;> simp
  simp only [oif_f, h1, h2, h3, h4, ob_s, q_RunPolicer (show l.length < 4194304 by omega) (show g.length < 4194304 by omega), q_sRunPolicer (show l.length < 4194304 by omega) (show g.length < 4194304 by omega), q_CountColours (show m.length < 4194304 by omega), q_sCountColours (show m.length < 4194304 by omega), q_BytesOfColours (show s.length < 4194304 by omega) (show k.length < 4194304 by omega), q_sBytesOfColours (show s.length < 4194304 by omega) (show k.length < 4194304 by omega), q_GreenBound, q_sGreenBound, q_NotRedBound, q_sNotRedBound, beq_self_eq_true, Bool.not_true, bne_self_eq_false, Bool.and_self, q_qInts s1, q_qInts s2, q_qInts s3]
  have fin := law_2 (d := d + 2) (p := p) (g := g) (show l.length < 4194304 by omega)
  cases h9 : (ccV m).2 with
  | false => rw [oif_f]; exact fin
  | true =>
    have hc : cosOk m = true := by cases hc : cosOk m <;> simp_all [ccV]
    have e0 : ccV m = ([cnF 0 m, cnF 1 m, cnF 2 m], true) := by unfold ccV; rw [if_pos hc]
    simp only [cosOk, Bool.and_eq_true, List.all_eq_true, decide_eq_true_eq] at hc
    have hsum := cnF_sum hc.1
    have n0 := cnF_in (k := 0) (cs := m)
    have n1 := cnF_in (k := 1) (cs := m)
    have n2 := cnF_in (k := 2) (cs := m)
    rw [oif_t, e0]
    simp only
    rw [q_qSum (by simp) (by intro z hz; simp at hz; omega) (by simp; omega), ob_s]
    have e1 : ([cnF 0 m, cnF 1 m, cnF 2 m].sum != ((m.length : Nat) : Int)) = false := by
      simp only [List.sum_cons, List.sum_nil]
      rw [show cnF 0 m + (cnF 1 m + (cnF 2 m + 0)) = ((m.length : Nat) : Int) by omega]
      exact bne_self_eq_false _
    rw [e1, oif_f]
    exact fin

theorem lawOk : LawOk Try.prog pvAnn (8) 7 :=
  ⟨rfl, rfl, rfl, fun x y hx hy _ _ => ⟨(x, y), true, law_main (d := 0) hx hy, rfl, rfl⟩⟩

end Go.Proofs.Ytcoojpojnmnboaa
