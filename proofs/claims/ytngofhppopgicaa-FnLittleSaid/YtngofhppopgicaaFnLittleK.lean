/-
  What the cursor's functions and the small ones give by value.
  Conditions: the cursor has not been moved 2^62 times.
  Comparing and adding up lists of numbers; ranges.
  Conditions: the lists are shorter than the fuel.
  Numbers in bytes, padding and checksums, in both packages; the draws.
  Conditions: bytes.
-/
import Derived.Test.YtngofhppopgicaaFnLittleRes
import Derived.Test.YtngofhppopgicaaPKit2
set_option linter.all false
namespace Go.Proofs.Ytngofhppopgicaa
open Go.Ev Go.Pv

theorem p_next {d m : Nat} {c : List Int × Int × Int} (hc : CurOk m c) (hm : m < 4611686018427387904) : Ok (g173 (d + 1) c) fun r => 0 ≤ r.1 ∧ r.1 < 256 ∧ CurOk (m + 1) r.2 := by
  obtain ⟨hb, h0, h1⟩ := hc
  obtain ⟨code, at', seed⟩ := c
  simp only at hb h0 h1
  have hw : IntKind.i64.wrap (at' + 1) = at' + 1 := wr (by omega) (by omega)
  rw [e173]
  have fin : ∀ n : Int, (at' < code.length → 0 ≤ n ∧ n < 256) → Ok (j173_0 d (code, at', seed) n) fun r => 0 ≤ r.1 ∧ r.1 < 256 ∧ CurOk (m + 1) r.2 := by
    intro n hn
    unfold j173_0
    simp only [hw]
    refine Ok.oif (fun h => ?_) (fun h => ?_)
    · simp only [decide_eq_true_eq] at h
      obtain ⟨a, b⟩ := hn (by omega)
      exact Ok.some ⟨a, b, hb, by simp only; omega, by simp only; omega⟩
    · exact Ok.some ⟨(seedByte _).1, (seedByte _).2, hb, by simp only; omega, by simp only; omega⟩
  refine Ok.oif (fun h => ?_) (fun h => ?_)
  · simp only [decide_eq_true_eq] at h
    refine Ok.oif (fun _ => ?_) (fun h2 => by simp only [decide_eq_false_iff_not] at h2; omega)
    have hlt : at'.toNat < code.length := by omega
    simp only
    rw [List.getElem?_eq_getElem hlt]
    have hx := hb _ (List.getElem_mem hlt)
    refine Ok.bind (Ok.some rfl) (fun a ha => ?_)
    subst ha
    exact fin _ (fun _ => by rw [wr (by omega) (by omega)]; exact hx)
  · simp only [decide_eq_false_iff_not] at h
    exact fin 0 (fun h' => absurd h' h)

theorem p_pick {d m : Nat} {c : List Int × Int × Int} {n : Int} (hc : CurOk m c) (hm : m + 1 < 4611686018427387904) : Ok (g120 (d + 2) c n) fun r => 0 ≤ r.1 ∧ (r.1 < n ∨ r.1 = 0) ∧ CurOk (m + 2) r.2 := by
  rw [e120]
  refine Ok.oif (fun h => ?_) (fun h => ?_)
  · exact Ok.some ⟨by simp, .inr rfl, hc.mono (by omega)⟩
  · simp only [decide_eq_false_iff_not] at h
    refine Ok.bind (p_next hc (by omega)) (fun r hr => ?_)
    obtain ⟨h1, h2, h3⟩ := hr
    have hn : (n == 0) = false := by simp; omega
    refine Ok.oif (fun h4 => ?_) (fun h4 => ?_)
    · refine Ok.bind (p_next h3 (by omega)) (fun q hq => ?_)
      obtain ⟨h5, h6, h7⟩ := hq
      rw [hn]
      rw [wr (n := r.1 * 256) (by omega) (by omega), wr (by omega) (by omega)]
      exact Ok.some ⟨Int.tmod_nonneg _ (by omega), .inl (Int.tmod_lt_of_pos _ (by omega)), h7.mono (by omega)⟩
    · rw [hn]
      exact Ok.some ⟨Int.tmod_nonneg _ (by omega), .inl (Int.tmod_lt_of_pos _ (by omega)), h3.mono (by omega)⟩

theorem p_among {d m : Nat} {c : List Int × Int × Int} {l : List Int} (hc : CurOk m c) (hm : m + 1 < 4611686018427387904) (hl : 0 < l.length) : Ok (g115 (d + 3) c l) fun r => r.1 ∈ l ∧ CurOk (m + 2) r.2 := by
  rw [e115]
  refine Ok.bind (p_pick hc hm) (fun r hr => ?_)
  obtain ⟨h1, h2, h3⟩ := hr
  refine Ok.oif (fun _ => ?_) (fun h => by simp only [decide_eq_false_iff_not] at h; omega)
  have hlt : r.1.toNat < l.length := by omega
  rw [List.getElem?_eq_getElem hlt]
  exact Ok.bind (Ok.some rfl) (fun a ha => by subst ha; exact Ok.some ⟨List.getElem_mem hlt, h3⟩)

theorem p_one {d m : Nat} {c : List Int × Int × Int} {n : Int} (hc : CurOk m c) (hm : m + 1 < 4611686018427387904) : Ok (g141 (d + 3) c n) fun r => CurOk (m + 2) r.2 := by
  rw [e141]
  exact Ok.bind (p_pick hc hm) (fun r hr => Ok.some hr.2.2)

theorem q_l1In {d : Nat} {x y z : Int} : g131 (d + 1) x y z = some (decide (y ≤ x ∧ x ≤ z)) := by
  rw [e131]; simp only [oif_ss]; congr 1; rw [Bool.eq_iff_iff]; simp

theorem q_qBytes {d : Nat} {l : List Int} (hl : l.length < 4194304) : g64 (d + 1) l l = some true := by
  rw [e64, bne_self_eq_false, oif_f]
  refine (range_eq (fun (t : Bool) (i : Int) => (t, i)) l (fun x i t k => k t) (j64_0 d) ?_ ?_ (by rw [fuelN_eq]; exact hl) false).trans ?_
  · intro ag t i x hx; have hi := (List.getElem?_eq_some_iff.1 hx).1; simp only [l64_0, l64_0_b, ltl hx, bltl hx, nn, ofNat_toNat, hx, ob_s, oif_t]; rw [wr1 (by omega)]
    simp only [bne_self_eq_false, oif_f]
  · intro ag t; simp only [l64_0, l64_0_b, ltn, oif_f]
  · rw [rangeR_fold (f := fun _ _ t => t)]; rfl

theorem orI {a b : Int} (h1 : 0 ≤ a) (h2 : a < 1099511627776) (h3 : 0 ≤ b) (h4 : b < 256) : IntKind.i64.wrap ((BitVec.ofInt IntKind.i64.bits (IntKind.i64.wrap (a * 2 ^ (min (8 : Int).toNat IntKind.i64.bits))) ||| BitVec.ofInt IntKind.i64.bits (IntKind.i64.wrap b)).toNat : Int) = a * 256 + b := by
  have e0 : ((2 : Int) ^ (min (8 : Int).toNat IntKind.i64.bits)) = 256 := by decide
  rw [e0, wr (n := a * 256) (by omega) (by omega), wr (n := b) (by omega) (by omega)]
  obtain ⟨x, rfl⟩ := Int.eq_ofNat_of_zero_le h1
  obtain ⟨y, rfl⟩ := Int.eq_ofNat_of_zero_le h3
  have hb : IntKind.i64.bits = 64 := rfl
  have e1 : (BitVec.ofInt IntKind.i64.bits ((x : Int) * 256)).toNat = 2 ^ 8 * x := by
    rw [hb, BitVec.toNat_ofInt]; omega
  have e2 : (BitVec.ofInt IntKind.i64.bits (y : Int)).toNat = y := by
    rw [hb, BitVec.toNat_ofInt]; omega
  rw [BitVec.toNat_or, e1, e2, ← Nat.two_pow_add_eq_or_of_lt (show y < 2 ^ 8 by omega) x]
  rw [wr (by omega) (by omega)]; omega
theorem shl8 {a : Int} (h1 : 0 ≤ a) (h2 : a < 256) : IntKind.i64.wrap (IntKind.i64.wrap a * 2 ^ (min (8 : Int).toNat IntKind.i64.bits)) = a * 256 := by
  have e0 : ((2 : Int) ^ (min (8 : Int).toNat IntKind.i64.bits)) = 256 := by decide
  rw [e0, wr (n := a) (by omega) (by omega), wr (by omega) (by omega)]

def wdOk (w : Int) : Bool := (w == 1) || ((w == 2) || (w == 4))
theorem wdOk_in {w : Int} (h : wdOk w = true) : w = 1 ∨ w = 2 ∨ w = 4 := by simpa [wdOk] using h
theorem q_isWidth {d : Nat} {w : Int} : g134 (d + 1) w = some (wdOk w) := by
  rw [e134]; unfold wdOk; cases w == 1 <;> cases w == 2 <;> rfl
theorem q_scWidth {d : Nat} {w : Int} : g135 (d + 1) w = some (wdOk w) := by
  rw [e135]; unfold wdOk; cases w == 1 <;> cases w == 2 <;> rfl

/-- The lowest bytes of a number. -/
def digs : Int → Nat → List Int
  | _, 0 => []
  | n, k + 1 => n % 256 :: digs (n / 256) k
def topV (w : Int) : Int := if w = 1 then 256 else if w = 2 then 65536 else 4294967296
def wlV (n w : Int) : List Int × Bool := if wdOk w && decide (0 ≤ n ∧ n < topV w) then (digs n w.toNat, true) else ([], false)

theorem byteAt {n : Int} {i : Nat} (h : i < 4) : IntKind.u8.wrap (n.fdiv (2 ^ (min (IntKind.i64.wrap ((8 : Int) * (i : Int))).toNat IntKind.i64.bits))) = n / (256 ^ i) % 256 := by
  have hb : IntKind.i64.bits = 64 := rfl
  rw [wr (by omega) (by omega), hb, Int.fdiv_eq_ediv_of_nonneg _ (Int.le_of_lt (Int.pow_pos (by omega))), IntKind.wrap_u8]
  rcases (show i = 0 ∨ i = 1 ∨ i = 2 ∨ i = 3 by omega) with rfl | rfl | rfl | rfl <;> rfl

theorem q_WriteLittle {d : Nat} {n w : Int} : g53 (d + 2) n w = some (wlV n w) := by
  rw [e53, q_isWidth, ob_s]; unfold j53_1
  cases hw : wdOk w with
  | false => simp [wlV, hw, oif]
  | true =>
  have hw' := wdOk_in hw
  have e0 : IntKind.i64.wrap ((8 : Int) * w) = 8 * w := wr (by omega) (by omega)
  have e1 : decide ((8 : Int) * w < 0) = false := by simp; omega
  have e2 : IntKind.i64.wrap ((1 : Int) * 2 ^ (min (8 * w).toNat IntKind.i64.bits)) = topV w := by
    rcases hw' with rfl | rfl | rfl <;> decide
  simp only [Bool.not_true, oif_f, e0, e1, e2]
  by_cases h0 : n < 0
  · rw [decide_eq_true h0, oif_t, oif_t]
    have : decide (0 ≤ n ∧ n < topV w) = false := by simp; omega
    simp [wlV, this]
  · rw [decide_eq_false h0, oif_f]
    by_cases h1 : n ≥ topV w
    · rw [decide_eq_true h1, oif_t]
      have : decide (0 ≤ n ∧ n < topV w) = false := by simp; omega
      simp [wlV, this]
    · rw [decide_eq_false h1, oif_f]
      have hin : decide (0 ≤ n ∧ n < topV w) = true := by simp; omega
      have e3 : decide (0 ≤ w) = true := by simp; omega
      have e4 : (Nat.ble w.toNat w.toNat && Nat.ble (w.toNat * 1) roomMax) = true := by
        rw [Bool.and_eq_true, Nat.ble_eq, Nat.ble_eq]; unfold roomMax; omega
      simp only [e3, oif_t, e4]
      refine (range_eq (fun (t : List Int) (i : Int) => (i, t)) (List.replicate w.toNat (0 : Int)) (fun _ i t k => oif (Nat.blt i t.length) (obind t[i]? fun _ => k (t.set i (n / (256 ^ i) % 256))) none) (j53_0 (d + 1)) ?_ ?_ (by rw [fuelN_eq]; simp; omega) (List.replicate w.toNat (0 : Int))).trans ?_
      · intro ag t i x hx
        have hi := (List.getElem?_eq_some_iff.1 hx).1
        rw [List.length_replicate] at hi
        simp only [l53_0, l53_0_b, ltl hx, nn, ofNat_toNat, hx, ob_s, oif_t]
        rw [wr1 (by omega)]
        have e5 : decide (IntKind.i64.wrap ((8 : Int) * (i : Int)) < 0) = false := by rw [wr (by omega) (by omega)]; simp; omega
        rw [e5, oif_f, byteAt (by omega)]
      · intro ag t; simp only [l53_0, l53_0_b, ltn, oif_f]
      · simp only [wlV, hw, hin, Bool.and_self, if_true]
        rcases hw' with rfl | rfl | rfl
        · simp [rangeR, digs, oif, obind, j53_0, Nat.blt]
        · simp [rangeR, digs, oif, obind, j53_0, Nat.blt, List.replicate]
        · simp [rangeR, digs, oif, obind, j53_0, Nat.blt, List.replicate]; omega

theorem q_scTop {d : Nat} {w : Int} (hw : wdOk w = true) : g136 (d + 1) w = some (topV w) := by
  rw [e136]
  have gen : ∀ (k fuel : Nat) (a : Int), k < fuel → 0 ≤ a → k ≤ 4 → a * 256 ^ k ≤ 4294967296 → iterP (l136_0 d (j136_0 d)) fuel ((k : Int), a) = some (a * 256 ^ k) := by
    intro k
    induction k with
    | zero => intro fuel a h1 h2 _ h3; cases fuel with | zero => omega | succ f => simp [iterP, l136_0, l136_0_b, j136_0, oif]
    | succ k ih =>
      intro fuel a h1 h2 h4 h3
      cases fuel with
      | zero => omega
      | succ f =>
        have e1 : decide (((k + 1 : Nat) : Int) > 0) = true := decide_eq_true (by omega)
        have e2 : ((k + 1 : Nat) : Int) - 1 = (k : Int) := by omega
        have e3 : a * 256 ^ (k + 1) = a * 256 * 256 ^ k := by rw [Int.pow_succ, Int.mul_comm (256 ^ k), ← Int.mul_assoc]
        have hp : (1 : Int) ≤ 256 ^ k := by have := Int.pow_pos (n := 256) (m := k) (by omega); omega
        have e4 : a * 256 * 1 ≤ a * 256 * 256 ^ k := Int.mul_le_mul_of_nonneg_left hp (by omega)
        simp only [iterP, l136_0, l136_0_b, e1, oif_t]
        rw [wr (by omega) (by omega), wr (by omega) (by omega), e2, e3]
        exact ih f (a * 256) (by omega) (by omega) (by omega) (by omega)
  rcases wdOk_in hw with rfl | rfl | rfl
  · exact gen 1 fuelN 1 (by rw [fuelN_eq]; omega) (by omega) (by omega) (by decide)
  · exact gen 2 fuelN 1 (by rw [fuelN_eq]; omega) (by omega) (by omega) (by decide)
  · exact gen 4 fuelN 1 (by rw [fuelN_eq]; omega) (by omega) (by omega) (by decide)

theorem q_scWrite {d : Nat} {n w : Int} (hw : wdOk w = true) (h0 : 0 ≤ n) (h1 : n < 4294967296) : g137 (d + 1) n w = some (digs n w.toNat) := by
  rw [e137]
  have gen : ∀ (k fuel : Nat) (n : Int) (out : List Int), k < fuel → k ≤ 4 → 0 ≤ n → n < 4294967296 → out.length + k ≤ 10 → iterP (l137_0 d (j137_0 d)) fuel (n, (k : Int), out) = some (out ++ digs n k) := by
    intro k
    induction k with
    | zero => intro fuel n out h1 _ _ _ _; cases fuel with | zero => omega | succ f => simp [iterP, l137_0, l137_0_b, j137_0, oif, digs]
    | succ k ih =>
      intro fuel n out h1 h4 h2 h3 h5
      cases fuel with
      | zero => omega
      | succ f =>
        have e1 : decide (((k + 1 : Nat) : Int) > 0) = true := decide_eq_true (by omega)
        have e2 : ((k + 1 : Nat) : Int) - 1 = (k : Int) := by omega
        simp only [iterP, l137_0, l137_0_b, e1, oif_t]
        rw [room (by simp; omega), oif_t, wr (n := ((k + 1 : Nat) : Int) - 1) (by omega) (by omega), e2, Int.tdiv_eq_ediv_of_nonneg h2, Int.tmod_eq_emod_of_nonneg h2, wr (n := n / 256) (by omega) (by omega), IntWalk.u8_in _ (by omega)]
        rw [ih f (n / 256) (out ++ [n % 256]) (by omega) (by omega) (by omega) (by omega) (by simp; omega)]
        simp [digs]
  rcases wdOk_in hw with rfl | rfl | rfl
  · exact (gen 1 fuelN n [] (by rw [fuelN_eq]; omega) (by omega) h0 h1 (by simp))
  · exact (gen 2 fuelN n [] (by rw [fuelN_eq]; omega) (by omega) h0 h1 (by simp))
  · exact (gen 4 fuelN n [] (by rw [fuelN_eq]; omega) (by omega) h0 h1 (by simp))

theorem q_sWriteLittle {d : Nat} {n w : Int} : g54 (d + 2) n w = some (wlV n w) := by
  rw [e54, q_scWidth, ob_s]
  cases hw : wdOk w with
  | false => simp [wlV, hw, oif]
  | true =>
  have ht : topV w ≤ 4294967296 ∧ 256 ≤ topV w := by rcases wdOk_in hw with rfl | rfl | rfl <;> decide
  rw [Bool.not_true, oif_f, q_scTop hw, ob_s, q_l1In, ob_s, wr (by omega) (by omega)]
  by_cases h : 0 ≤ n ∧ n < topV w
  · have e1 : decide (0 ≤ n ∧ n ≤ topV w - 1) = true := by simp; omega
    rw [e1, Bool.not_true, oif_f, q_scWrite hw h.1 (by omega), ob_s]
    simp [wlV, hw, h]
  · have e1 : decide (0 ≤ n ∧ n ≤ topV w - 1) = false := by simp; omega
    have e2 : decide (0 ≤ n ∧ n < topV w) = false := by simpa using h
    rw [e1]; simp [wlV, e2, oif]

/-- The number that lies in so many bytes, the highest one first, behind what is known. -/
def rdV (l : List Int) (at' : Nat) : Nat → Int → Int
  | 0, a => a
  | k + 1, a => rdV l at' k (a * 256 + l.getD (at' + k) 0)
def rlV (l : List Int) (n w : Int) : Int × Bool := if decide (((l.length : Nat) : Int) ≤ 4000) && (wdOk w && decide (0 ≤ n ∧ n ≤ ((l.length : Nat) : Int) - w)) then (rdV l n.toNat w.toNat 0, true) else (0, false)
def bnd : Nat → Int
  | 0 => 4294967296
  | 1 => 16777216
  | 2 => 65536
  | 3 => 256
  | _ => 1
theorem bnd_step {k : Nat} {a b : Int} (hk : k < 4) (h : a < bnd (k + 1)) (h0 : 0 ≤ a) (h1 : b < 256) : a * 256 + b < bnd k ∧ a < 1099511627776 := by
  rcases (show k = 0 ∨ k = 1 ∨ k = 2 ∨ k = 3 by omega) with rfl | rfl | rfl | rfl <;> simp only [bnd] at h ⊢ <;> omega
theorem byte_get {l : List Int} (h : Bytes l) {i : Nat} (hi : i < l.length) : l[i]? = some (l.getD i 0) ∧ 0 ≤ l.getD i 0 ∧ l.getD i 0 < 256 := by
  have e : l.getD i 0 = l[i] := by simp [List.getD, List.getElem?_eq_getElem hi]
  rw [e]; exact ⟨List.getElem?_eq_getElem hi, h _ (List.getElem_mem hi)⟩

theorem q_ReadLittle {d : Nat} {l : List Int} (hb : Bytes l) {n w : Int} (hl : l.length < 4194304) : g56 (d + 2) l n w = some (rlV l n w) := by
  rw [e56, q_isWidth, ob_s]; unfold j56_1
  by_cases h1 : ((l.length : Nat) : Int) ≤ 4000
  case neg =>
    have e1 : decide (((l.length : Nat) : Int) > 4000) = true := by simp; omega
    rw [e1, oif_t, oif_t]; simp [rlV, h1]
  have e1 : decide (((l.length : Nat) : Int) > 4000) = false := by simp; omega
  rw [e1, oif_f]
  cases hw : wdOk w with
  | false => simp [rlV, hw, oif]
  | true =>
  have hw' := wdOk_in hw
  rw [Bool.not_true, oif_f, wr (n := ((l.length : Nat) : Int) - w) (by omega) (by omega)]
  by_cases h2 : 0 ≤ n ∧ n ≤ ((l.length : Nat) : Int) - w
  case neg =>
    have e2 : decide (0 ≤ n ∧ n ≤ ((l.length : Nat) : Int) - w) = false := by simpa using h2
    by_cases h3 : n < 0
    · rw [decide_eq_true h3, oif_t, oif_t]; simp [rlV, e2]
    · have h4 : n > ((l.length : Nat) : Int) - w := by omega
      rw [decide_eq_false h3, oif_f, decide_eq_true h4, oif_t]; simp [rlV, e2]
  rw [decide_eq_false (show ¬ n < 0 by omega), oif_f, decide_eq_false (show ¬ n > ((l.length : Nat) : Int) - w by omega), oif_f]
  have gen : ∀ (k fuel : Nat) (a : Int), k < fuel → k ≤ 4 → 0 ≤ a → a < bnd k → n.toNat + k ≤ l.length → iterP (l56_0 (d + 1) l n (j56_0 (d + 1))) fuel (a, (k : Int) - 1) = some (rdV l n.toNat k a, true) := by
    intro k
    induction k with
    | zero => intro fuel a h1 _ _ _ _; cases fuel with | zero => omega | succ f => simp [iterP, l56_0, l56_0_b, j56_0, oif, rdV]
    | succ k ih =>
      intro fuel a g1 g2 g3 g4 g5
      cases fuel with
      | zero => omega
      | succ f =>
        obtain ⟨b1, b2, b3⟩ := byte_get hb (i := n.toNat + k) (by omega)
        obtain ⟨c1, c2⟩ := bnd_step (by omega) g4 g3 b3
        have e2 : ((k + 1 : Nat) : Int) - 1 = (k : Int) := by omega
        have e3 : decide ((k : Int) ≥ 0) = true := by simp
        have e4 : decide (0 ≤ n + (k : Int)) = true := by simp; omega
        have e5 : (n + (k : Int)).toNat = n.toNat + k := by omega
        simp only [iterP, l56_0, l56_0_b, e2, e3, oif_t]
        rw [wr (n := n + (k : Int)) (by omega) (by omega), e4, oif_t, e5, b1, ob_s, orI g3 c2 b2 b3, wr (n := (k : Int) - 1) (by omega) (by omega)]
        exact ih f _ (by omega) (by omega) (by omega) c1 (by omega)
  rw [wr (n := w - 1) (by omega) (by omega)]
  simp only [rlV, h1, hw, h2, and_self, decide_true, Bool.and_self, if_true]
  rcases hw' with rfl | rfl | rfl
  · exact gen 1 fuelN 0 (by rw [fuelN_eq]; omega) (by omega) (by omega) (by decide) (by omega)
  · exact gen 2 fuelN 0 (by rw [fuelN_eq]; omega) (by omega) (by omega) (by decide) (by omega)
  · exact gen 4 fuelN 0 (by rw [fuelN_eq]; omega) (by omega) (by omega) (by decide) (by omega)

theorem q_sReadLittle {d : Nat} {l : List Int} (hb : Bytes l) {n w : Int} (hl : l.length < 4194304) : g57 (d + 2) l n w = some (rlV l n w) := by
  rw [e57, e139, ob_s]
  by_cases h1 : ((l.length : Nat) : Int) ≤ 4000
  case neg => rw [decide_eq_false h1]; simp [rlV, h1, oif]
  rw [decide_eq_true h1, Bool.not_true, oif_f, q_scWidth, ob_s]
  cases hw : wdOk w with
  | false => simp [rlV, hw, oif]
  | true =>
  have hw' := wdOk_in hw
  rw [Bool.not_true, oif_f, wr (n := ((l.length : Nat) : Int) - w) (by omega) (by omega), q_l1In, ob_s]
  by_cases h2 : 0 ≤ n ∧ n ≤ ((l.length : Nat) : Int) - w
  case neg =>
    have e2 : decide (0 ≤ n ∧ n ≤ ((l.length : Nat) : Int) - w) = false := by simpa using h2
    rw [e2]; simp [rlV, e2, oif]
  rw [decide_eq_true h2, Bool.not_true, oif_f, e140]
  have gen : ∀ (k fuel : Nat) (a : Int), k < fuel → k ≤ 4 → 0 ≤ a → a < bnd k → n.toNat + k ≤ l.length → iterP (l140_0 d l n (j140_0 d)) fuel (a, (k : Int) - 1) = some (rdV l n.toNat k a) := by
    intro k
    induction k with
    | zero => intro fuel a h1 _ _ _ _; cases fuel with | zero => omega | succ f => simp [iterP, l140_0, l140_0_b, j140_0, oif, rdV]
    | succ k ih =>
      intro fuel a g1 g2 g3 g4 g5
      cases fuel with
      | zero => omega
      | succ f =>
        obtain ⟨b1, b2, b3⟩ := byte_get hb (i := n.toNat + k) (by omega)
        obtain ⟨c1, c2⟩ := bnd_step (by omega) g4 g3 b3
        have e2 : ((k + 1 : Nat) : Int) - 1 = (k : Int) := by omega
        have e3 : decide ((k : Int) ≥ 0) = true := by simp
        have e4 : decide (0 ≤ n + (k : Int)) = true := by simp; omega
        have e5 : (n + (k : Int)).toNat = n.toNat + k := by omega
        simp only [iterP, l140_0, l140_0_b, e2, e3, oif_t]
        rw [wr (n := n + (k : Int)) (by omega) (by omega), e4, oif_t, e5, b1, ob_s, wr (n := (256 : Int) * a) (by omega) (by omega), wr (n := l.getD (n.toNat + k) 0) (by omega) (by omega), wr (by omega) (by omega), wr (n := (k : Int) - 1) (by omega) (by omega), Int.mul_comm 256 a]
        exact ih f _ (by omega) (by omega) (by omega) c1 (by omega)
  rw [wr (n := w - 1) (by omega) (by omega)]
  simp only [rlV, h1, hw, h2, and_self, decide_true, Bool.and_self, if_true]
  rcases hw' with rfl | rfl | rfl
  · rw [show ((1 : Int) - 1) = ((1 : Nat) : Int) - 1 by rfl, gen 1 fuelN 0 (by rw [fuelN_eq]; omega) (by omega) (by omega) (by decide) (by omega)]; rfl
  · rw [show ((2 : Int) - 1) = ((2 : Nat) : Int) - 1 by rfl, gen 2 fuelN 0 (by rw [fuelN_eq]; omega) (by omega) (by omega) (by decide) (by omega)]; rfl
  · rw [show ((4 : Int) - 1) = ((4 : Nat) : Int) - 1 by rfl, gen 4 fuelN 0 (by rw [fuelN_eq]; omega) (by omega) (by omega) (by decide) (by omega)]; rfl

/-- The least multiple. -/
def alV (n b : Int) : Int := (n + b - 1) / b * b
theorem alV_in {n b : Int} (h0 : 0 ≤ n) (h1 : 1 ≤ b) : n ≤ alV n b ∧ alV n b < n + b ∧ alV n b % b = 0 ∧ 0 ≤ alV n b := by
  unfold alV
  have e1 := Int.mul_ediv_add_emod (n + b - 1) b
  have e2 := Int.emod_nonneg (n + b - 1) (by omega : b ≠ 0)
  have e3 := Int.emod_lt_of_pos (n + b - 1) (by omega : 0 < b)
  have e4 : (n + b - 1) / b * b = b * ((n + b - 1) / b) := Int.mul_comm _ _
  refine ⟨by omega, by omega, Int.mul_emod_left _ _, ?_⟩
  omega
theorem alV_wr {n b : Int} (h0 : 0 ≤ n) (h9 : n ≤ 1000000) (h1 : 1 ≤ b) (h2 : b ≤ 16) : IntKind.i64.wrap ((IntKind.i64.wrap ((IntKind.i64.wrap ((IntKind.i64.wrap (n + b)) - 1)).tdiv b)) * b) = alV n b ∧ (b == 0) = false := by
  obtain ⟨a1, a2, a3, a4⟩ := alV_in h0 h1
  have e1 : 0 ≤ (n + b - 1) / b := Int.ediv_nonneg (by omega) (by omega)
  have e2 : (n + b - 1) / b ≤ n + b - 1 := Int.ediv_le_self _ (by omega)
  refine ⟨?_, by simp; omega⟩
  rw [wr (n := n + b) (by omega) (by omega), wr (n := n + b - 1) (by omega) (by omega), Int.tdiv_eq_ediv_of_nonneg (by omega), wr (n := (n + b - 1) / b) (by omega) (by omega)]
  exact wr (n := alV n b) (by omega) (by omega)
def auV (n b : Int) : Int × Bool := if decide (0 ≤ n ∧ n ≤ 1000000) && decide (1 ≤ b ∧ b ≤ 16) then (alV n b, true) else (0, false)
theorem q_AlignUp {d : Nat} {n b : Int} : g62 (d + 1) n b = some (auV n b) := by
  rw [e62]; unfold j62_0
  by_cases h : (0 ≤ n ∧ n ≤ 1000000) ∧ (1 ≤ b ∧ b ≤ 16)
  · obtain ⟨w1, w2⟩ := alV_wr h.1.1 h.1.2 h.2.1 h.2.2
    rw [decide_eq_false (show ¬ n < 0 by omega), oif_f, decide_eq_false (show ¬ n > 1000000 by omega), oif_f, decide_eq_false (show ¬ b < 1 by omega), oif_f, decide_eq_false (show ¬ b > 16 by omega), oif_f, w1, w2, oif_f]
    simp [auV, h]
  · have e0 : auV n b = (0, false) := by
      unfold auV; rw [if_neg]; simpa using h
    rw [e0]
    by_cases h1 : n < 0
    · simp [h1, oif]
    · by_cases h2 : n > 1000000
      · simp [h1, h2, oif]
      · by_cases h3 : b < 1
        · simp [h1, h2, h3, oif]
        · have h4 : b > 16 := by omega
          simp [h1, h2, h3, h4, oif]
theorem q_scAlign {d : Nat} {n b : Int} (h0 : 0 ≤ n) (h9 : n ≤ 1000000) (h1 : 1 ≤ b) (h2 : b ≤ 16) : g142 (d + 1) n b = some (alV n b) := by
  obtain ⟨w1, w2⟩ := alV_wr h0 h9 h1 h2
  rw [e142, w1, w2, oif_f]
theorem q_sAlignUp {d : Nat} {n b : Int} : g63 (d + 2) n b = some (auV n b) := by
  rw [e63]; simp only [q_l1In, ob_s, auV]
  by_cases h1 : 0 ≤ n ∧ n ≤ 1000000
  case neg => rw [decide_eq_false h1]; rfl
  by_cases h2 : 1 ≤ b ∧ b ≤ 16
  case neg => rw [decide_eq_false h2, decide_eq_true h1]; rfl
  rw [decide_eq_true h1, decide_eq_true h2, q_scAlign h1.1 h1.2 h2.1 h2.2]; rfl

def padL (l : List Int) (b : Int) : List Int := l ++ List.replicate ((alV ((l.length : Nat) : Int) b).toNat - l.length) 0
def pdV (l : List Int) (b : Int) : List Int × Bool := if decide (((l.length : Nat) : Int) ≤ 4000) && (decide (1 ≤ b ∧ b ≤ 16) && decide (alV ((l.length : Nat) : Int) b ≤ 4000)) then (padL l b, true) else ([], false)
theorem q_PadTo {d : Nat} {l : List Int} {b : Int} : g59 (d + 2) l b = some (pdV l b) := by
  rw [e59]; unfold j59_0
  by_cases h1 : ((l.length : Nat) : Int) ≤ 4000
  case neg =>
    have h1' : ((l.length : Nat) : Int) > 4000 := by omega
    rw [decide_eq_true h1', oif_t, oif_t]; simp [pdV, h1]
  rw [decide_eq_false (show ¬ ((l.length : Nat) : Int) > 4000 by omega), oif_f]
  by_cases h2 : 1 ≤ b ∧ b ≤ 16
  case neg =>
    have e0 : pdV l b = ([], false) := by unfold pdV; rw [decide_eq_false h2]; simp
    rw [e0]
    by_cases h3 : b < 1
    · rw [decide_eq_true h3, oif_t, oif_t]
    · rw [decide_eq_false h3, oif_f, decide_eq_true (show b > 16 by omega), oif_t]
  rw [decide_eq_false (show ¬ b < 1 by omega), oif_f, decide_eq_false (show ¬ b > 16 by omega), oif_f, q_AlignUp, ob_s]
  obtain ⟨a1, a2, a3, a4⟩ := alV_in (n := ((l.length : Nat) : Int)) (by omega) h2.1
  have e0 : auV ((l.length : Nat) : Int) b = (alV ((l.length : Nat) : Int) b, true) := by unfold auV; rw [if_pos]; simp; omega
  rw [e0]
  by_cases h3 : alV ((l.length : Nat) : Int) b ≤ 4000
  case neg =>
    have h3' : alV ((l.length : Nat) : Int) b > 4000 := by omega
    simp only
    rw [decide_eq_true h3', oif_t]; simp [pdV, h3]
  simp only [pdV, h1, h2, h3, and_self, decide_true, Bool.and_self, if_true]
  generalize hN : alV ((l.length : Nat) : Int) b = N at *
  have e4 : (Nat.ble N.toNat N.toNat && Nat.ble (N.toNat * 1) roomMax) = true := by
    rw [Bool.and_eq_true, Nat.ble_eq, Nat.ble_eq]; unfold roomMax; omega
  rw [decide_eq_false (show ¬ N > 4000 by omega), oif_f, decide_eq_true (show 0 ≤ N by omega), oif_t, oif_t, e4, oif_t]
  congr 2
  unfold cpy padL
  rw [hN, List.length_replicate, List.take_zero, List.nil_append, List.take_of_length_le (by omega), List.drop_replicate]
  congr 2; omega
theorem q_sPadTo {d : Nat} {l : List Int} {b : Int} : g60 (d + 3) l b = some (pdV l b) := by
  rw [e60, e139, ob_s]
  by_cases h1 : ((l.length : Nat) : Int) ≤ 4000
  case neg => rw [decide_eq_false h1]; simp [pdV, h1, oif]
  rw [decide_eq_true h1, Bool.not_true, oif_f, q_l1In, ob_s]
  by_cases h2 : 1 ≤ b ∧ b ≤ 16
  case neg => rw [decide_eq_false h2]; unfold pdV; rw [decide_eq_false h2]; simp [oif]
  obtain ⟨a1, a2, a3, a4⟩ := alV_in (n := ((l.length : Nat) : Int)) (by omega) h2.1
  rw [decide_eq_true h2, Bool.not_true, oif_f, q_scAlign (by omega) (by omega) h2.1 h2.2, ob_s, e139, ob_s]
  by_cases h3 : alV ((l.length : Nat) : Int) b ≤ 4000
  case neg => rw [decide_eq_false h3]; simp [pdV, h3, oif]
  rw [decide_eq_true h3, Bool.not_true, oif_f, e143]
  simp only [List.nil_append, List.length_nil]
  rw [room (by omega), oif_t, q_scAlign (by omega) (by omega) h2.1 h2.2, ob_s]
  simp only [pdV, h1, h2, h3, and_self, decide_true, Bool.and_self, if_true]
  generalize hN : alV ((l.length : Nat) : Int) b = N at *
  have ew : IntKind.i64.wrap (N - ((l.length : Nat) : Int)) = N - ((l.length : Nat) : Int) := wr (by omega) (by omega)
  simp only [ew]
  have e5 : (decide (0 ≤ N - ((l.length : Nat) : Int)) && decide ((N - ((l.length : Nat) : Int)) * ((1 : Nat) : Int) ≤ ((roomMax : Nat) : Int))) = true := by
    rw [Bool.and_eq_true, decide_eq_true_eq, decide_eq_true_eq]; unfold roomMax; omega
  rw [e5, oif_t, room (by simp; omega), oif_t, ob_s]
  unfold padL
  rw [hN]
  congr 4; omega

theorem q_IsPadded {d : Nat} {l : List Int} {b : Int} (h1 : ((l.length : Nat) : Int) ≤ 4000) (h2 : ((padL l b).length : Nat) ≤ 4000) : g65 (d + 1) (padL l b) ((l.length : Nat) : Int) (((padL l b).length : Nat) : Int) = some (true, true) := by
  rw [e65]; unfold j65_1
  have hle : l.length ≤ (padL l b).length := by simp [padL]
  rw [decide_eq_false (show ¬ (((padL l b).length : Nat) : Int) > 4000 by omega), oif_f, decide_eq_false (show ¬ ((l.length : Nat) : Int) < 0 by omega), oif_f, decide_eq_false (show ¬ ((l.length : Nat) : Int) > (((padL l b).length : Nat) : Int) by omega), oif_f, decide_eq_false (show ¬ (((padL l b).length : Nat) : Int) > (((padL l b).length : Nat) : Int) by omega), oif_f, decide_eq_true (show (0 : Int) ≤ (((padL l b).length : Nat) : Int) by omega), oif_t, decide_eq_true (show (0 : Int) ≤ ((l.length : Nat) : Int) by omega), oif_t]
  simp only [Int.toNat_natCast]
  have e4 : (Nat.ble l.length (padL l b).length && Nat.ble (padL l b).length (padL l b).length) = true := by
    rw [Bool.and_eq_true, Nat.ble_eq, Nat.ble_eq]; omega
  rw [e4, oif_t]
  have e5 : ((padL l b).take (padL l b).length).drop l.length = List.replicate ((alV ((l.length : Nat) : Int) b).toNat - l.length) 0 := by
    rw [List.take_length]; unfold padL; rw [List.drop_left]
  refine (range_eq (fun (t : Bool × Bool) (i : Int) => (t.1, t.2, i)) (((padL l b).take (padL l b).length).drop l.length) (fun x _ t k => oif (x == 0) (k t) (some (false, true))) (fun t => j65_0 d t.1 t.2) ?_ ?_ (by rw [fuelN_eq, e5]; simp [padL] at h2 ⊢; omega) (false, false)).trans ?_
  · intro ag t i x hx
    have hi := (List.getElem?_eq_some_iff.1 hx).1
    rw [e5, List.length_replicate] at hi
    have hi2 : i < 100000 := by simp [padL] at h2; omega
    simp only [l65_0, l65_0_b, Int.toNat_natCast, ltl hx, nn, hx, ob_s, oif_t]
    rw [wr1 (by omega)]
    cases hz : x == 0 with
    | true => simp only [bne, hz, Bool.not_true, oif_f, oif_t]
    | false => simp only [bne, hz, Bool.not_false, oif_t, oif_f]
  · intro ag t; simp only [l65_0, l65_0_b, Int.toNat_natCast, ltn, oif_f]
  · rw [rangeR_all (p := fun x => x == 0), e5]
    have : (List.replicate ((alV ((l.length : Nat) : Int) b).toNat - l.length) (0 : Int)).all (fun x => x == 0) = true := by
      rw [List.all_eq_true]; intro x hx; rw [(List.mem_replicate.1 hx).2]; rfl
    rw [this]; rfl

/-- One more word of a checksum. -/
def csAdd (a w : Int) : Int := if a + w > 65535 then a + w - 65535 else a + w
def csV : Int → List Int → Int
  | a, [] => a
  | a, [x] => csAdd a (x * 256)
  | a, x :: y :: r => csV (csAdd a (x * 256 + y)) r
theorem csAdd_in {a w : Int} (h0 : 0 ≤ a) (h1 : a ≤ 65535) (h2 : 0 ≤ w) (h3 : w ≤ 65535) : 0 ≤ csAdd a w ∧ csAdd a w ≤ 65535 := by
  unfold csAdd; split <;> omega
theorem csV_zeros : ∀ (k : Nat) {a : Int}, a ≤ 65535 → csV a (List.replicate k 0) = a
  | 0, a, _ => rfl
  | 1, a, h => by simp [csV, csAdd]; omega
  | k + 2, a, h => by
    have : csAdd a (0 * 256 + 0) = a := by unfold csAdd; split <;> omega
    simp only [List.replicate_succ, csV]
    rw [this]; exact csV_zeros k h
theorem csV_pad : ∀ (l : List Int) (k : Nat) {a : Int}, Bytes l → 0 ≤ a → a ≤ 65535 → csV a (l ++ List.replicate k 0) = csV a l
  | [], k, a, _, _, h => by simp [csV, csV_zeros k h]
  | [x], k, a, hb, h0, h1 => by
    have hx := hb x (by simp)
    cases k with
    | zero => simp
    | succ k =>
      simp only [List.replicate_succ, List.cons_append, List.nil_append, csV]
      rw [Int.add_zero]
      exact csV_zeros k (csAdd_in h0 h1 (by omega) (by omega)).2
  | x :: y :: r, k, a, hb, h0, h1 => by
    have hx := hb x (by simp); have hy := hb y (by simp)
    obtain ⟨c1, c2⟩ := csAdd_in h0 h1 (w := x * 256 + y) (by omega) (by omega)
    simp only [List.cons_append, csV]
    exact csV_pad r k (fun z hz => hb z (by simp [hz])) c1 c2

theorem q_ChecksumOf {d : Nat} {l : List Int} (hb : Bytes l) (hl : ((l.length : Nat) : Int) ≤ 4000) : g66 (d + 1) l = some (IntKind.i64.wrap (65535 - csV 0 l), true) := by
  rw [e66, decide_eq_false (show ¬ ((l.length : Nat) : Int) > 4000 by omega), oif_f]
  refine (iter_eq (fun s => some (IntKind.i64.wrap (65535 - csV s.1 (l.drop s.2.toNat)), true)) (fun s => l.length + 1 - s.2.toNat) (fun s => 0 ≤ s.1 ∧ s.1 ≤ 65535 ∧ 0 ≤ s.2 ∧ s.2 ≤ (l.length : Int) + 1) ?_ fuelN (0, 0) (by simp; omega) (by rw [fuelN_eq]; simp; omega)).trans ?_
  · rintro ⟨a, n⟩ ag ⟨h1, h2, h3, h4⟩ hag
    simp only at h1 h2 h3 h4
    obtain ⟨i, rfl⟩ := Int.eq_ofNat_of_zero_le h3
    simp only [l66_0, l66_0_b]
    rcases Nat.lt_or_ge i l.length with hlt | hge
    · obtain ⟨b1, b2, b3⟩ := byte_get hb hlt
      have hd := List.drop_eq_getElem_cons hlt
      have hx : l[i] = l.getD i 0 := by simp [List.getD, List.getElem?_eq_getElem hlt]
      rw [decide_eq_true (show ((i : Int)) < ((l.length : Nat) : Int) by omega), oif_t, nn, oif_t, ofNat_toNat, b1, ob_s, wr1 (by omega)]
      rcases Nat.lt_or_ge (i + 1) l.length with hlt2 | hge2
      · obtain ⟨c1, c2, c3⟩ := byte_get hb hlt2
        have hd2 := List.drop_eq_getElem_cons hlt2
        have hy : l[i + 1] = l.getD (i + 1) 0 := by simp [List.getD, List.getElem?_eq_getElem hlt2]
        obtain ⟨k1, k2⟩ := csAdd_in h1 h2 (w := l.getD i 0 * 256 + l.getD (i + 1) 0) (by omega) (by omega)
        rw [decide_eq_true (show ((i + 1 : Nat) : Int) < ((l.length : Nat) : Int) by omega), oif_t, nn, oif_t, ofNat_toNat, c1, ob_s]
        have eo : IntKind.i64.wrap ((BitVec.ofInt IntKind.i64.bits (IntKind.i64.wrap ((IntKind.i64.wrap (l.getD i 0)) * 2 ^ (min (8 : Int).toNat IntKind.i64.bits))) ||| BitVec.ofInt IntKind.i64.bits (IntKind.i64.wrap (l.getD (i + 1) 0))).toNat : Int) = l.getD i 0 * 256 + l.getD (i + 1) 0 := by
          rw [wr (n := l.getD i 0) (by omega) (by omega)]; exact orI b2 (by omega) c2 c3
        rw [eo]; unfold j66_1
        rw [hd, hd2, hx, hy]; simp only [csV]
        have := hag (csAdd a (l.getD i 0 * 256 + l.getD (i + 1) 0), ((i : Int) + 2)) ⟨k1, k2, by simp only; omega, by simp only; omega⟩ (by simp only; omega)
        simp only [show ((i : Int) + 2).toNat = i + 2 by omega] at this
        rw [← this]
        rw [wr (n := a + _) (by omega) (by omega), wr (n := (i : Int) + 2) (by omega) (by omega)]
        unfold csAdd
        by_cases hc : a + (l.getD i 0 * 256 + l.getD (i + 1) 0) > 65535
        · rw [decide_eq_true hc, oif_t, if_pos hc, wr (by omega) (by omega)]
        · rw [decide_eq_false hc, oif_f, if_neg hc]
      · have hn : List.drop (i + 1) l = [] := List.drop_eq_nil_of_le hge2
        obtain ⟨k1, k2⟩ := csAdd_in h1 h2 (w := l.getD i 0 * 256) (by omega) (by omega)
        rw [decide_eq_false (show ¬ ((i + 1 : Nat) : Int) < ((l.length : Nat) : Int) by omega), oif_f, shl8 b2 b3]
        unfold j66_1
        rw [hd, hn, hx]; simp only [csV]
        have := hag (csAdd a (l.getD i 0 * 256), ((i : Int) + 2)) ⟨k1, k2, by simp only; omega, by simp only; omega⟩ (by simp only; omega)
        simp only [show ((i : Int) + 2).toNat = i + 2 by omega] at this
        rw [List.drop_eq_nil_of_le (show l.length ≤ i + 2 by omega)] at this
        simp only [csV] at this
        rw [← this]
        rw [wr (n := a + _) (by omega) (by omega), wr (n := (i : Int) + 2) (by omega) (by omega)]
        unfold csAdd
        by_cases hc : a + l.getD i 0 * 256 > 65535
        · rw [decide_eq_true hc, oif_t, if_pos hc, wr (by omega) (by omega)]
        · rw [decide_eq_false hc, oif_f, if_neg hc]
    · rw [decide_eq_false (show ¬ ((i : Int)) < ((l.length : Nat) : Int) by omega), oif_f, ofNat_toNat, List.drop_eq_nil_of_le hge]
      rfl
  · simp

theorem p_bytes {d m : Nat} {c : List Int × Int × Int} (hc : CurOk m c) (hm : m < 100000) : Ok (g138 (d + 4) c) fun r => r.1.length ≤ 4010 ∧ Bytes r.1 ∧ CurOk (m + 200) r.2 := by
  rw [e138]
  refine Ok.bind (p_one hc (by omega)) fun r hr => ?_
  refine Ok.oif (fun _ => ?_) (fun _ => ?_)
  · refine Ok.bind (p_pick hr (by omega)) fun u hu => ?_
    obtain ⟨u1, u2, u3⟩ := hu
    rw [wr (n := 4000 + u.1) (by omega) (by omega)]
    have e1 : decide (0 ≤ 4000 + u.1) = true := by simp; omega
    have e2 : (Nat.ble (4000 + u.1).toNat (4000 + u.1).toNat && Nat.ble ((4000 + u.1).toNat * 1) roomMax) = true := by
      rw [Bool.and_eq_true, Nat.ble_eq, Nat.ble_eq]; unfold roomMax; omega
    rw [e1, oif_t, oif_t, e2, oif_t]
    exact Ok.some ⟨by simp; omega, fun z hz => by rw [(List.mem_replicate.1 hz).2]; omega, u3.mono (by omega)⟩
  · refine Ok.bind (p_pick hr (by omega)) fun u hu => ?_
    obtain ⟨u1, u2, u3⟩ := hu
    refine iter_ok (fun k s => s.2.1 ≤ (k : Int) ∧ s.1.length + k ≤ 20 ∧ Bytes s.1 ∧ CurOk (m + 4 + 4 * s.1.length) s.2.2) ?_ _ 20 _ (by rw [fuelN_eq]; omega) ⟨by simp only; omega, by simp, by simp [Bytes], by simpa using u3⟩
    rintro k ⟨l, n, x⟩ ag ⟨h1, h2, h3, h4⟩ hag
    simp only at h1 h2 h3 h4
    simp only [l138_0, l138_0_b]
    refine Ok.oif (fun h => ?_) (fun h => ?_)
    · simp at h
      refine Ok.bind (p_pick h4 (by omega)) fun v hv => ?_
      refine Ok.bind (p_among hv.2.2 (by omega) (by simp)) fun q hq => ?_
      rw [room (by simp; omega), oif_t]
      refine hag (k - 1) _ (by omega) ⟨by simp only; rw [wr (by omega) (by omega)]; omega, by simp; omega, ?_, by simpa [Nat.mul_add, Nat.add_assoc] using hq.2⟩
      intro z hz
      rcases List.mem_append.1 hz with hz | hz
      · exact h3 z hz
      · simp only [List.mem_singleton] at hz
        subst hz; rw [IntKind.wrap_u8]; omega
    · unfold j138_0
      exact Ok.some ⟨by simp only; omega, h3, CurOk.mono (c := (x.1, x.2.1, x.2.2)) h4 (by omega)⟩
theorem p_DrawWriteLittle {d : Nat} {x : List Int} (hx : Bytes x) : Ok (g52 (d + 4) x) fun _ => True := by
  rw [e52]
  refine Ok.bind (p_pick (CurOk.new hx) (by omega)) fun r hr => ?_
  refine Ok.bind (p_among hr.2.2 (by omega) (by simp)) fun q hq => ?_
  exact Ok.bind (p_among hq.2 (by omega) (by simp)) fun u hu => Ok.some trivial
theorem p_DrawReadLittle {d : Nat} {x : List Int} (hx : Bytes x) : Ok (g55 (d + 5) x) fun r => r.1.length ≤ 4010 ∧ Bytes r.1 := by
  rw [e55]
  refine Ok.bind (p_bytes (CurOk.new hx) (by omega)) fun r hr => ?_
  refine Ok.bind (p_among hr.2.2 (by omega) (by simp)) fun q hq => ?_
  exact Ok.bind (p_among hq.2 (by omega) (by simp)) fun u hu => Ok.some ⟨hr.1, hr.2.1⟩
theorem p_DrawPadTo {d : Nat} {x : List Int} (hx : Bytes x) : Ok (g58 (d + 5) x) fun r => r.1.length ≤ 4010 ∧ Bytes r.1 := by
  rw [e58]
  refine Ok.bind (p_bytes (CurOk.new hx) (by omega)) fun r hr => ?_
  refine Ok.bind (p_one hr.2.2 (by omega)) fun q hq => ?_
  refine Ok.oif (fun _ => ?_) (fun _ => ?_)
  · have e2 : (Nat.ble 3999 3999 && Nat.ble (3999 * 1) roomMax) = true := by simp [roomMax]
    rw [e2, oif_t]
    exact Ok.bind (p_among hq (by omega) (by simp)) fun u hu => Ok.some ⟨by rw [List.length_replicate]; omega, fun z hz => by rw [(List.mem_replicate.1 hz).2]; omega⟩
  · exact Ok.bind (p_among hq (by omega) (by simp)) fun u hu => Ok.some ⟨hr.1, hr.2.1⟩
theorem p_DrawAlignUp {d : Nat} {x : List Int} (hx : Bytes x) : Ok (g61 (d + 4) x) fun _ => True := by
  rw [e61]
  refine Ok.bind (p_pick (CurOk.new hx) (by omega)) fun r hr => ?_
  refine Ok.bind (p_among hr.2.2 (by omega) (by simp)) fun q hq => ?_
  exact Ok.bind (p_among hq.2 (by omega) (by simp)) fun u hu => Ok.some trivial

end Go.Proofs.Ytngofhppopgicaa
