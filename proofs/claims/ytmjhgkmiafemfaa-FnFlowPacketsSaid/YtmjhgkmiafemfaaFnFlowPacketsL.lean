/-
  The law FnFlowPackets by value.
  Conditions: bytes.
-/
import Derived.Test.YtmjhgkmiafemfaaFnFlowPacketsK
set_option linter.all false
namespace Go.Proofs.Ytmjhgkmiafemfaa
open Go.Ev Go.Pv

theorem q_qTimed {d : Nat} {l : List Tm} (hl : l.length < 4194304) : g46 (d + 1) l l = some true := by
  rw [e46, bne_self_eq_false, oif_f]
  refine (range_eq (fun (t : Bool) (i : Int) => (t, i)) l (fun x i t k => k t) (j46_0 d) ?_ ?_ (by rw [fuelN_eq]; exact hl) false).trans ?_
  · intro ag t i x hx
    have hi := (List.getElem?_eq_some_iff.1 hx).1
    simp only [l46_0, l46_0_b, ltl hx, bltl hx, nn, ofNat_toNat, hx, ob_s, oif_t, beq_self_eq_true, Bool.and_self, Bool.not_true, oif_f]
    rw [wr1 (by omega)]
  · intro ag t; simp only [l46_0, l46_0_b, ltn, oif_f]
  · rw [rangeR_fold (f := fun _ _ t => t)]; rfl

theorem bur_step {f : Fl} (h : flowOk f = true) (k : Nat) : (burN f (k + 1) = burN f k ∧ ((k + 1 : Nat) : Int).tmod f.2.2.2.2.2.2.2.1 ≠ 0) ∨ (burN f (k + 1) = burN f k + 1 ∧ ((k + 1 : Nat) : Int).tmod f.2.2.2.2.2.2.2.1 = 0) := by
  have hf := flowOk_in h
  obtain ⟨b, hb⟩ := Int.eq_ofNat_of_zero_le (show 0 ≤ f.2.2.2.2.2.2.2.1 by omega)
  unfold burN
  rw [hb] at hf ⊢
  rw [Int.toNat_natCast]
  have e1 : ((k + 1 : Nat) : Int).tmod (b : Int) = (((k + 1) % b : Nat) : Int) := rfl
  rw [e1]
  have hc : b = 1 ∨ b = 2 ∨ b = 3 ∨ b = 4 ∨ b = 5 ∨ b = 6 ∨ b = 7 ∨ b = 8 ∨ b = 9 ∨ b = 10 := by omega
  rcases hc with rfl | rfl | rfl | rfl | rfl | rfl | rfl | rfl | rfl | rfl <;> omega

theorem sh_tick {f : Fl} {t : Int} : ∀ k : Nat, tickA (shF f t) k = tickA f k + t
  | 0 => rfl
  | k + 1 => by
    simp only [tickA]
    rw [sh_tick k, show gapV (shF f t) ((k + 1 : Nat) : Int) = gapV f ((k + 1 : Nat) : Int) from rfl]; omega

theorem sh_pt {f : Fl} {t : Int} {k : Nat} : ptV (shF f t) k = ((ptV f k).1 + t, (ptV f k).2) := by
  unfold ptV
  rw [sh_tick]; rfl

def lastT (f : Fl) : Nat → Int
  | 0 => 0
  | k + 1 => (ptV f k).1

theorem law_2 {d : Nat} {f : Fl} {t : Int} {b : Bool} : j4_2 (d + 5) (f, t) (fuV f t) b = some true := by
  unfold j4_2
  unfold fuV
  cases hc : (flowOk f && tkOk t) with
  | false => rw [fuelN_eq]; rfl
  | true =>
    simp only [Bool.and_eq_true] at hc
    obtain ⟨h, ht⟩ := hc
    have hf := flowOk_in h
    simp only [tkOk, decide_eq_true_eq] at ht
    obtain ⟨h1, h2, h3, h4⟩ := untN_in (c := fun k => decide ((ptV f k).1 > t)) 60 0
    simp only [if_true]
    refine count_eq (F := l4_1 (d + 5) (f, t) (ptL f (untK f t), true) (j4_0 (d + 5))) (fun k => (b, lastT f k, (k : Int))) (untK f t) ?_ ?_ (by rw [fuelN_eq]; unfold untK; omega)
    · intro ag k hk
      have hk2 := h3 k (by omega) hk
      change decide ((ptV f k).1 > t) = false at hk2
      have hg : (ptL f (untK f t))[k]? = some (ptV f k) := ptL_get hk
      unfold untK at hk
      have hp : paV f (k : Int) = (ptV f k, true) := by
        unfold paV
        rw [h, decide_eq_true (by omega), ofNat_toNat]; rfl
      have hb0 : (f.2.2.2.2.2.2.2.1 == 0) = false := by simp; omega
      have hid : ((ptV f k).2.1 != ((k + 1 : Nat) : Int)) = false := by simp [ptV]
      simp only [l4_1, l4_1_b, ltl hg, bltl hg, nn, ofNat_toNat, hg, ob_s, oif_t, q_PacketAt, hp, Bool.not_true, oif_f, beq_self_eq_true, Bool.and_self, hk2, hb0, j4_1]
      rw [wr1 (by omega)]
      simp only [hid, oif_f]
      cases k with
      | zero =>
        have ht0 := (tickA_in h (burN f 0)).1
        have e1 : decide ((ptV f 0).1 < lastT f 0) = false := decide_eq_false (by show ¬ tickA f (burN f 0) < 0; omega)
        have e2 : (((0 : Nat) : Int).tmod f.2.2.2.2.2.2.2.1 != 0) = false := by simp
        have e3 : decide (((0 : Nat) : Int) > 0) = false := by simp
        simp only [e1, e2, e3, oif_f]
        rfl
      | succ k =>
        have e3 : decide (((k + 1 : Nat) : Int) > 0) = true := by rw [decide_eq_true_eq]; omega
        have hg := gapV_in h ((burN f k + 1 : Nat) : Int)
        have el : lastT f (k + 1) = tickA f (burN f k) := rfl
        have ep : (ptV f (k + 1)).1 = tickA f (burN f (k + 1)) := rfl
        rcases bur_step h k with ⟨s1, s2⟩ | ⟨s1, s2⟩
        · have e1 : decide ((ptV f (k + 1)).1 < lastT f (k + 1)) = false := decide_eq_false (by rw [el, ep, s1]; omega)
          have e2 : (((k + 1 : Nat) : Int).tmod f.2.2.2.2.2.2.2.1 != 0) = true := by simpa using s2
          have e4 : (((k + 1 : Nat) : Int).tmod f.2.2.2.2.2.2.2.1 == 0) = false := by simpa using s2
          have e5 : ((ptV f (k + 1)).1 != lastT f (k + 1)) = false := by rw [el, ep, s1]; simp
          simp only [e1, e2, e3, e4, e5, oif_f, oif_t]
          rfl
        · have ea : tickA f (burN f (k + 1)) = tickA f (burN f k) + gapV f ((burN f k + 1 : Nat) : Int) := by rw [s1]; rfl
          have e1 : decide ((ptV f (k + 1)).1 < lastT f (k + 1)) = false := decide_eq_false (by rw [el, ep, ea]; omega)
          have e2 : (((k + 1 : Nat) : Int).tmod f.2.2.2.2.2.2.2.1 != 0) = false := by rw [s2]; rfl
          have e4 : (((k + 1 : Nat) : Int).tmod f.2.2.2.2.2.2.2.1 == 0) = true := by rw [s2]; rfl
          have e5 : ((ptV f (k + 1)).1 == lastT f (k + 1)) = false := by rw [el, ep, ea, beq_eq_false_iff_ne]; omega
          simp only [e1, e2, e3, e4, e5, oif_f, oif_t]
          rfl
    · intro ag
      have hlen : (ptL f (untK f t)).length = untK f t := ptL_len
      simp only [l4_1, l4_1_b, hlen, ltn, oif_f]
      rfl

theorem law_3 {d : Nat} {f k : Fl} {t ticks : Int} {b : Bool} : j4_3 (d + 5) (f, t) (fuV f t) (k, ticks) (sfV k ticks) b = some true := by
  unfold j4_3
  cases hc : (flowOk k && (tkOk ticks && decide (k.2.2.2.2.2.1 + ticks ≤ 10000))) with
  | false =>
    have : (sfV k ticks).2 = false := by unfold sfV; rw [hc]; rfl
    rw [this, oif_f]; exact law_2
  | true =>
    have e1 : sfV k ticks = (shF k ticks, true) := by unfold sfV; rw [hc]; rfl
    simp only [Bool.and_eq_true] at hc
    obtain ⟨h, ht, hs⟩ := hc
    have h2 : flowOk (shF k ticks) = true := by rw [shF_ok h ht, hs]
    have ha : paV k 5 = (ptV k 5, true) := by unfold paV; rw [h]; rfl
    have hb : paV (shF k ticks) 5 = (ptV (shF k ticks) 5, true) := by unfold paV; rw [h2]; rfl
    rw [e1]
    simp only [oif_t, q_PacketAt, ob_s, ha, hb, Bool.not_true, oif_f]
    rw [sh_pt]
    have hp := tickA_in h (burN k 5)
    have hbn := burN_le (f := k) (n := 5)
    simp only [tkOk, decide_eq_true_eq] at ht
    have hpt : (ptV k 5).1 = tickA k (burN k 5) := rfl
    rw [wr (n := (ptV k 5).1 + ticks) (by omega) (by omega)]
    simp only [bne_self_eq_false, oif_f, beq_self_eq_true, Bool.and_self, Bool.not_true]
    exact law_2

theorem law_4 {d : Nat} {f h k : Fl} {t many ticks : Int} : j4_4 (d + 5) (f, t) (fuV f t) (h, many) (goV h many) (k, ticks) (sfV k ticks) false = some true := by
  unfold j4_4
  rw [oif_f]
  have hall : ∀ x ∈ (goV h many).1, 1 ≤ x ∧ x ≤ h.2.2.2.2.2.2.1 := by
    unfold goV
    cases hc : (flowOk h && decide (0 ≤ many ∧ many ≤ 40)) with
    | false => intro x hx; simp at hx
    | true =>
      simp only [Bool.and_eq_true] at hc
      intro x hx
      simp only [if_true, gapL, List.mem_map] at hx
      obtain ⟨b, _, rfl⟩ := hx
      have := gapV_in hc.1 ((b + 1 : Nat) : Int)
      omega
  have hlen : (goV h many).1.length < 4194304 := by
    unfold goV; split
    · next hc =>
      simp only [Bool.and_eq_true, decide_eq_true_eq] at hc
      rw [gapL_len]; omega
    · simp
  refine (range_eq (fun (t : Bool) (i : Int) => (t, i)) (goV h many).1 (fun x _ t kk => oif (decide (1 ≤ x ∧ x ≤ h.2.2.2.2.2.2.1)) (kk t) (some false)) (j4_3 (d + 5) (f, t) (fuV f t) (k, ticks) (sfV k ticks)) ?_ ?_ (by rw [fuelN_eq]; exact hlen) false).trans ?_
  · intro ag t i x hx
    have hi := (List.getElem?_eq_some_iff.1 hx).1
    simp only [l4_0, l4_0_b, ltl hx, bltl hx, nn, ofNat_toNat, hx, ob_s, oif_t]
    rw [wr1 (by omega)]
    by_cases h1 : x < 1
    · rw [decide_eq_true h1, oif_t, decide_eq_false (by omega), oif_f]
    · rw [decide_eq_false h1, oif_f]
      by_cases h2 : x > h.2.2.2.2.2.2.1
      · rw [decide_eq_true h2, oif_t, decide_eq_false (by omega), oif_f]
      · rw [decide_eq_false h2, oif_f, decide_eq_true (by omega), oif_t]
  · intro ag t; simp only [l4_0, l4_0_b, ltn, oif_f]
  · rw [rangeR_all (p := fun x => decide (1 ≤ x ∧ x ≤ h.2.2.2.2.2.2.1))]
    have : (goV h many).1.all (fun x => decide (1 ≤ x ∧ x ≤ h.2.2.2.2.2.2.1)) = true := by
      simp only [List.all_eq_true, decide_eq_true_eq]; exact hall
    rw [this, oif_t]
    exact law_3

theorem law_main {d : Nat} {x y : List Int} (hx : Bytes x) (hy : Bytes y) : g4 (d + 8) x y = some true := by
  rw [e4]
  cases decide ((IntKind.i64.wrap (((x.length : Nat) : Int) + ((y.length : Nat) : Int)) : Int) > 1048576) with
  | true => rfl
  | false =>
  obtain ⟨⟨f, t⟩, h1, _⟩ := p_DrawFlowUntil (d := d + 2) hx
  obtain ⟨⟨g, n⟩, h2, _⟩ := p_DrawPacketAt (d := d + 2) hy
  obtain ⟨⟨h, many⟩, h3, _⟩ := p_DrawGapsOf (d := d + 2) hy
  obtain ⟨⟨k, ticks⟩, h4, _⟩ := p_DrawShiftFlow (d := d + 2) hy
  obtain ⟨⟨keys, m⟩, h5, h6⟩ := p_DrawNumberFor (d := d + 1) hy
  simp only at h6
  have hk : keys.length < 4194304 := by omega
  have s1 : (fuV f t).1.length < 4194304 := by
    unfold fuV; split
    · rw [ptL_len]; have := (untN_in (c := fun k => decide ((ptV f k).1 > t)) 60 0).2.1; unfold untK; omega
    · simp
  have s2 : (goV h many).1.length < 4194304 := by
    unfold goV; split
    · next hc =>
      simp only [Bool.and_eq_true, decide_eq_true_eq] at hc
      rw [gapL_len]; omega
    · simp
  simp only [oif_f, h1, h2, h3, h4, h5, ob_s, q_FlowUntil, q_sFlowUntil, q_PacketAt, q_sPacketAt, q_GapsOf, q_sGapsOf, q_ShiftFlow, q_sShiftFlow, q_NumberFor hk, q_sNumberFor hk, q_MixOf hk, q_sMixOf hk, q_qTimed s1, q_qInts s2, q_IsFlow, q_sIsFlow, beq_self_eq_true, Bool.not_true, bne_self_eq_false, Bool.and_self, q_IsPacket]
  have fin : ∀ e, e = j4_4 (d + 7) (f, t) (fuV f t) (h, many) (goV h many) (k, ticks) (sfV k ticks) false → oif (paV g n).2 e (j4_4 (d + 7) (f, t) (fuV f t) (h, many) (goV h many) (k, ticks) (sfV k ticks) false) = some true := fun e he => by
    rw [he, oif_same]; exact law_4 (d := d + 2)
  have hpk : (paV g n).2 = true → pkOk (paV g n).1.2 = true := fun hh => by
    unfold paV at hh ⊢
    cases hc : (flowOk g && decide (0 ≤ n ∧ n ≤ 59)) with
    | false => rw [hc] at hh; simp at hh
    | true =>
      simp only [Bool.and_eq_true, decide_eq_true_eq] at hc
      simp only [if_true]
      exact pt_ok hc.1 (by omega)
  have fin2 : oif (paV g n).2 (j4_4 (d + 7) (f, t) (fuV f t) (h, many) (goV h many) (k, ticks) (sfV k ticks) (!pkOk (paV g n).1.2)) (j4_4 (d + 7) (f, t) (fuV f t) (h, many) (goV h many) (k, ticks) (sfV k ticks) false) = some true := by
    cases hh : (paV g n).2 with
    | true => rw [hpk hh]; exact law_4 (d := d + 2)
    | false => exact law_4 (d := d + 2)
  cases hn : (nfV keys m).2 with
  | false => rw [oif_f]; exact fin2
  | true =>
    obtain ⟨n1, n2⟩ := nfV_in hn
    rw [oif_t, decide_eq_false (by omega), oif_f, decide_eq_false (by omega), oif_f]
    exact fin2

theorem lawOk : LawOk Try.prog pvAnn (8) 4 :=
  ⟨rfl, rfl, rfl, fun x y hx hy _ _ => ⟨(x, y), true, law_main (d := 0) hx hy, rfl, rfl⟩⟩

end Go.Proofs.Ytmjhgkmiafemfaa
