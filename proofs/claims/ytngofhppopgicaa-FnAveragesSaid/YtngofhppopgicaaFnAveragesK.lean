/-
  What the cursor's functions and the small ones give by value.
  Conditions: the cursor has not been moved 2^62 times.
  Comparing and adding up lists of numbers; ranges.
  Conditions: the lists are shorter than the fuel.
  Droppers: averages, in both packages; the draws.
  Conditions: none, but those of the cursor for the draws.
-/
import Derived.Test.YtngofhppopgicaaFnAveragesRes
import Derived.Test.YtngofhppopgicaaPKit2
set_option linter.all false
namespace Go.Proofs.Ytngofhppopgicaa
open Go.Ev Go.Pv

theorem p_next {d m : Nat} {c : List Int × Int × Int} (hc : CurOk m c) (hm : m < 4611686018427387904) : Ok (g173 (d + 1) c) fun r => 0 ≤ r.1 ∧ r.1 < 256 ∧ CurOk (m + 1) r.2 := by
  obtain ⟨hb, h0, h1⟩ := hc
  obtain ⟨code, at', seed⟩ := c
  simp only at hb h0 h1
  have hw : IntKind.i64.wrap (at' + 1) = at' + 1 := wr (by omega) (by omega)
  rw [e173]
  have fin : ∀ n : Int, (at' < code.length → 0 ≤ n ∧ n < 256) → Ok (j173_0 d (code, at', seed) n) fun r => 0 ≤ r.1 ∧ r.1 < 256 ∧ CurOk (m + 1) r.2 := by
    intro n hn
    unfold j173_0
    simp only [hw]
    refine Ok.oif (fun h => ?_) (fun h => ?_)
    · simp only [decide_eq_true_eq] at h
      obtain ⟨a, b⟩ := hn (by omega)
      exact Ok.some ⟨a, b, hb, by simp only; omega, by simp only; omega⟩
    · exact Ok.some ⟨(seedByte _).1, (seedByte _).2, hb, by simp only; omega, by simp only; omega⟩
  refine Ok.oif (fun h => ?_) (fun h => ?_)
  · simp only [decide_eq_true_eq] at h
    refine Ok.oif (fun _ => ?_) (fun h2 => by simp only [decide_eq_false_iff_not] at h2; omega)
    have hlt : at'.toNat < code.length := by omega
    simp only
    rw [List.getElem?_eq_getElem hlt]
    have hx := hb _ (List.getElem_mem hlt)
    refine Ok.bind (Ok.some rfl) (fun a ha => ?_)
    subst ha
    exact fin _ (fun _ => by rw [wr (by omega) (by omega)]; exact hx)
  · simp only [decide_eq_false_iff_not] at h
    exact fin 0 (fun h' => absurd h' h)

theorem p_pick {d m : Nat} {c : List Int × Int × Int} {n : Int} (hc : CurOk m c) (hm : m + 1 < 4611686018427387904) : Ok (g120 (d + 2) c n) fun r => 0 ≤ r.1 ∧ (r.1 < n ∨ r.1 = 0) ∧ CurOk (m + 2) r.2 := by
  rw [e120]
  refine Ok.oif (fun h => ?_) (fun h => ?_)
  · exact Ok.some ⟨by simp, .inr rfl, hc.mono (by omega)⟩
  · simp only [decide_eq_false_iff_not] at h
    refine Ok.bind (p_next hc (by omega)) (fun r hr => ?_)
    obtain ⟨h1, h2, h3⟩ := hr
    have hn : (n == 0) = false := by simp; omega
    refine Ok.oif (fun h4 => ?_) (fun h4 => ?_)
    · refine Ok.bind (p_next h3 (by omega)) (fun q hq => ?_)
      obtain ⟨h5, h6, h7⟩ := hq
      rw [hn]
      rw [wr (n := r.1 * 256) (by omega) (by omega), wr (by omega) (by omega)]
      exact Ok.some ⟨Int.tmod_nonneg _ (by omega), .inl (Int.tmod_lt_of_pos _ (by omega)), h7.mono (by omega)⟩
    · rw [hn]
      exact Ok.some ⟨Int.tmod_nonneg _ (by omega), .inl (Int.tmod_lt_of_pos _ (by omega)), h3.mono (by omega)⟩

theorem p_among {d m : Nat} {c : List Int × Int × Int} {l : List Int} (hc : CurOk m c) (hm : m + 1 < 4611686018427387904) (hl : 0 < l.length) : Ok (g115 (d + 3) c l) fun r => r.1 ∈ l ∧ CurOk (m + 2) r.2 := by
  rw [e115]
  refine Ok.bind (p_pick hc hm) (fun r hr => ?_)
  obtain ⟨h1, h2, h3⟩ := hr
  refine Ok.oif (fun _ => ?_) (fun h => by simp only [decide_eq_false_iff_not] at h; omega)
  have hlt : r.1.toNat < l.length := by omega
  rw [List.getElem?_eq_getElem hlt]
  exact Ok.bind (Ok.some rfl) (fun a ha => by subst ha; exact Ok.some ⟨List.getElem_mem hlt, h3⟩)

theorem q_l1In {d : Nat} {x y z : Int} : g131 (d + 1) x y z = some (decide (y ≤ x ∧ x ≤ z)) := by
  rw [e131]; simp only [oif_ss]; congr 1; rw [Bool.eq_iff_iff]; simp

theorem q_l1All {d : Nat} {l : List Int} {a b : Int} (hl : l.length < 4194304) : g172 (d + 2) l a b = some (l.all fun x => decide (a ≤ x ∧ x ≤ b)) := by
  rw [e172]
  refine (range_eq (fun (t : Bool) (i : Int) => (t, i)) l (fun x _ t k => oif (decide (a ≤ x ∧ x ≤ b)) (k t) (some false)) (j172_0 (d + 1)) ?_ ?_ (by rw [fuelN_eq]; exact hl) false).trans ?_
  · intro ag t i x hx; have hi := (List.getElem?_eq_some_iff.1 hx).1; simp only [l172_0, l172_0_b, ltl hx, bltl hx, nn, ofNat_toNat, hx, ob_s, oif_t]; rw [wr1 (by omega)]
    rw [q_l1In, ob_s]; cases decide (a ≤ x ∧ x ≤ b) <;> rfl
  · intro ag t; simp only [l172_0, l172_0_b, ltn, oif_f]
  · rw [rangeR_all (p := fun x => decide (a ≤ x ∧ x ≤ b))]; cases l.all _ <;> rfl

theorem q_sameInts {d : Nat} {l : List Int} (hl : l.length < 4194304) : g76 (d + 1) l l = some true := by
  rw [e76, bne_self_eq_false, oif_f]
  refine (range_eq (fun (t : Bool) (i : Int) => (t, i)) l (fun x i t k => k t) (j76_0 d) ?_ ?_ (by rw [fuelN_eq]; exact hl) false).trans ?_
  · intro ag t i x hx; have hi := (List.getElem?_eq_some_iff.1 hx).1; simp only [l76_0, l76_0_b, ltl hx, bltl hx, nn, ofNat_toNat, hx, ob_s, oif_t]; rw [wr1 (by omega)]
    simp only [bne_self_eq_false, oif_f]
  · intro ag t; simp only [l76_0, l76_0_b, ltn, oif_f]
  · rw [rangeR_fold (f := fun _ _ t => t)]; rfl

theorem q_big {d : Nat} {x y : List Int} : ∃ b, g67 (d + 1) x y = some b := by
  rw [e67]; simp only [oif_ss]; exact ⟨_, rfl⟩

def elOk (e : Int × Int × Int × Int) : Bool := decide (0 ≤ e.1 ∧ e.1 < e.2.1 ∧ e.2.1 ≤ 60 ∧ 1 ≤ e.2.2.1 ∧ e.2.2.1 ≤ 256 ∧ 1 ≤ e.2.2.2 ∧ e.2.2.2 ≤ 1000)
def avOk (n : Int) : Bool := decide (0 ≤ n ∧ n ≤ 15360)
def lnOk (n : Int) : Bool := decide (0 ≤ n ∧ n ≤ 60)
def lnsOk (l : List Int) : Bool := l.all lnOk && decide (((l.length : Nat) : Int) ≤ 60)

theorem q_IsEarly {d : Nat} {e : Int × Int × Int × Int} : g71 (d + 1) e = some (elOk e) := by
  rw [e71]; simp only [oif_ss]; congr 1; rw [Bool.eq_iff_iff]; simp [elOk]
theorem q_isAverage {d : Nat} {n : Int} : g146 (d + 1) n = some (avOk n) := by
  rw [e146]; simp only [oif_ss]; congr 1; rw [Bool.eq_iff_iff]; simp [avOk]
theorem q_isLength {d : Nat} {n : Int} : g147 (d + 1) n = some (lnOk n) := by
  rw [e147]; simp only [oif_ss]; congr 1; rw [Bool.eq_iff_iff]; simp [lnOk]
theorem q_rdGood {d : Nat} {e : Int × Int × Int × Int} : g149 (d + 2) e = some (elOk e) := by
  rw [e149]; simp only [q_l1In, ob_s]
  by_cases h : 1 ≤ e.2.1 ∧ e.2.1 ≤ 60
  · rw [wr (n := e.2.1 - 1) (by omega) (by omega)]
    simp only [oif_ss]; congr 1; rw [Bool.eq_iff_iff]; simp [elOk]; omega
  · have : elOk e = false := by simp only [elOk, decide_eq_false_iff_not]; omega
    rw [decide_eq_false h, this]; rfl
theorem q_rdAverage {d : Nat} {n : Int} : g150 (d + 2) n = some (avOk n) := by
  rw [e150, q_l1In, ob_s]; rfl
theorem q_sIsEarly {d : Nat} {e : Int × Int × Int × Int} : g72 (d + 3) e = some (elOk e) := by
  rw [e72, q_rdGood, ob_s]

/-- The next average. -/
def nx (e : Int × Int × Int × Int) (a n : Int) : Int := a + (e.2.2.1 * (256 * n - a)) / 256
theorem nx_in {e : Int × Int × Int × Int} {a n : Int} (he : elOk e = true) (ha : avOk a = true) (hn : lnOk n = true) :
    0 ≤ nx e a n ∧ nx e a n ≤ 15360 ∧ -3932160 ≤ e.2.2.1 * (256 * n - a) ∧ e.2.2.1 * (256 * n - a) ≤ 3932160 ∧ (a ≤ 256 * n → a ≤ nx e a n ∧ nx e a n ≤ 256 * n) ∧ (256 * n ≤ a → nx e a n ≤ a ∧ 256 * n ≤ nx e a n) := by
  simp only [elOk, avOk, lnOk, decide_eq_true_eq] at he ha hn
  unfold nx
  generalize e.2.2.1 = w at he ⊢
  have key : 0 ≤ 256 * n - a → 256 * n - a ≤ w * (256 * n - a) * 1 ∧ w * (256 * n - a) ≤ 256 * (256 * n - a) := fun h => by
    have h1 : 1 * (256 * n - a) ≤ w * (256 * n - a) := Int.mul_le_mul_of_nonneg_right (by omega) h
    have h2 : w * (256 * n - a) ≤ 256 * (256 * n - a) := Int.mul_le_mul_of_nonneg_right (by omega) h
    omega
  have key2 : 0 ≤ a - 256 * n → a - 256 * n ≤ w * (a - 256 * n) ∧ w * (a - 256 * n) ≤ 256 * (a - 256 * n) := fun h => by
    have h1 : 1 * (a - 256 * n) ≤ w * (a - 256 * n) := Int.mul_le_mul_of_nonneg_right (by omega) h
    have h2 : w * (a - 256 * n) ≤ 256 * (a - 256 * n) := Int.mul_le_mul_of_nonneg_right (by omega) h
    omega
  have neg : w * (a - 256 * n) = -(w * (256 * n - a)) := by rw [← Int.mul_neg]; congr 1; omega
  rw [neg] at key2
  generalize w * (256 * n - a) = m at key key2 ⊢
  rcases Int.le_total 0 (256 * n - a) with h | h
  · have := key h; omega
  · have := key2 (by omega); omega

theorem floor256 {m : Int} : (if decide (m.tmod 256 < 0) then m.tdiv 256 - 1 else m.tdiv 256) = m / 256 := by
  rcases Int.le_total 0 m with h | h
  · rw [Int.tdiv_eq_ediv_of_nonneg h, Int.tmod_eq_emod_of_nonneg h]
    have := Int.emod_nonneg m (show (256 : Int) ≠ 0 by omega)
    have e : decide (m % 256 < 0) = false := by simp; omega
    simp only [e, Bool.false_eq_true, if_false]
  · have e1 : m.tdiv 256 = -((-m) / 256) := by
      have := Int.neg_tdiv m 256
      rw [← Int.tdiv_eq_ediv_of_nonneg (a := -m) (by omega), this]; omega
    have e2 : m.tmod 256 = -((-m) % 256) := by
      have := Int.neg_tmod m 256
      rw [← Int.tmod_eq_emod_of_nonneg (a := -m) (by omega), this]; omega
    rw [e1, e2]
    split <;> simp_all <;> omega

theorem q_nextAverage {d : Nat} {e : Int × Int × Int × Int} {a n : Int} (he : elOk e = true) (ha : avOk a = true) (hn : lnOk n = true) : g148 (d + 1) e a n = some (nx e a n) := by
  obtain ⟨h1, h2, h3, h4, _⟩ := nx_in he ha hn
  have ha' := ha; have hn' := hn
  simp only [avOk, lnOk, decide_eq_true_eq] at ha' hn'
  have e0 : ((2 : Int) ^ (min (8 : Int).toNat IntKind.i64.bits)) = 256 := by decide
  rw [e148, wr (n := (256 : Int) * n) (by omega) (by omega), wr (n := 256 * n - a) (by omega) (by omega), wr (n := e.2.2.1 * (256 * n - a)) (by omega) (by omega), e0, Int.fdiv_eq_ediv_of_nonneg _ (by omega)]
  exact congrArg some (wr (n := nx e a n) (by omega) (by omega))
theorem q_rdNext {d : Nat} {e : Int × Int × Int × Int} {a n : Int} (he : elOk e = true) (ha : avOk a = true) (hn : lnOk n = true) : g151 (d + 1) e a n = some (nx e a n) := by
  obtain ⟨h1, h2, h3, h4, _⟩ := nx_in he ha hn
  have ha' := ha; have hn' := hn
  simp only [avOk, lnOk, decide_eq_true_eq] at ha' hn'
  have fl := floor256 (m := e.2.2.1 * (256 * n - a))
  have hx : nx e a n = a + (e.2.2.1 * (256 * n - a)) / 256 := rfl
  rw [e151, wr (n := (256 : Int) * n) (by omega) (by omega), wr (n := 256 * n - a) (by omega) (by omega), wr (n := e.2.2.1 * (256 * n - a)) (by omega) (by omega)]
  generalize e.2.2.1 * (256 * n - a) = m at *
  cases hd : decide (m.tmod 256 < 0) with
  | true =>
    simp only [hd, if_true] at fl
    rw [oif_t, wr (n := m.tdiv 256) (by omega) (by omega), wr (n := m.tdiv 256 - 1) (by omega) (by omega), wr (by omega) (by omega), hx, fl]
  | false =>
    simp only [hd, Bool.false_eq_true, if_false] at fl
    rw [oif_f, wr (n := m.tdiv 256) (by omega) (by omega), wr (by omega) (by omega), hx, fl]

def naV (e : Int × Int × Int × Int) (a n : Int) : Int × Bool := if elOk e && (avOk a && lnOk n) then (nx e a n, true) else (0, false)
theorem q_NextAverage {d : Nat} {e : Int × Int × Int × Int} {a n : Int} : g69 (d + 2) e a n = some (naV e a n) := by
  rw [e69]; simp only [q_IsEarly, q_isAverage, q_isLength, ob_s, naV]
  cases he : elOk e <;> cases ha : avOk a <;> cases hn : lnOk n <;> first | (rw [q_nextAverage he ha hn]; rfl) | rfl
theorem q_sNextAverage {d : Nat} {e : Int × Int × Int × Int} {a n : Int} : g70 (d + 3) e a n = some (naV e a n) := by
  rw [e70]; simp only [q_rdGood, q_rdAverage, q_l1In, ob_s, naV]
  have e1 : decide (0 ≤ n ∧ n ≤ 60) = lnOk n := rfl
  rw [e1]
  cases he : elOk e <;> cases ha : avOk a <;> cases hn : lnOk n <;> first | (rw [q_rdNext he ha hn]; rfl) | rfl

theorem q_areLengths {d : Nat} {l : List Int} (hl : l.length < 4194304) : g153 (d + 2) l = some (lnsOk l) := by
  rw [e153]
  refine (range_eq (fun (t : Bool) (i : Int) => (t, i)) l (fun x _ t k => oif (lnOk x) (k t) (some false)) (j153_0 (d + 1) l) ?_ ?_ (by rw [fuelN_eq]; exact hl) false).trans ?_
  · intro ag t i x hx; have hi := (List.getElem?_eq_some_iff.1 hx).1; simp only [l153_0, l153_0_b, ltl hx, bltl hx, nn, ofNat_toNat, hx, ob_s, oif_t]; rw [wr1 (by omega)]
    rw [q_isLength, ob_s]; cases lnOk x <;> rfl
  · intro ag t; simp only [l153_0, l153_0_b, ltn, oif_f]
  · rw [rangeR_all (p := lnOk)]; unfold lnsOk j153_0; cases l.all _ <;> rfl
theorem q_rdLengths {d : Nat} {l : List Int} (hl : l.length < 4194304) : g154 (d + 3) l = some (lnsOk l) := by
  rw [e154]; simp only [q_l1All hl, ob_s]
  have e1 : l.all (fun x => decide (0 ≤ x ∧ x ≤ 60)) = l.all lnOk := rfl
  rw [e1]; unfold lnsOk
  cases l.all lnOk <;> cases decide (((l.length : Nat) : Int) ≤ 60) <;> rfl

/-- The averages after each length. -/
def avgL (e : Int × Int × Int × Int) : Int → List Int → List Int
  | _, [] => []
  | a, n :: r => nx e a n :: avgL e (nx e a n) r
theorem avgL_len {e : Int × Int × Int × Int} : ∀ {l : List Int} {a : Int}, (avgL e a l).length = l.length
  | [], _ => rfl
  | n :: r, a => by simp [avgL, avgL_len]
theorem avg_range {e : Int × Int × Int × Int} {G : Int → Int → Option Int} {β : Type} {fin : Int × List Int → Option β} (he : elOk e = true) (hG : ∀ a n, avOk a = true → lnOk n = true → G a n = some (nx e a n)) :
    ∀ (l : List Int) (i : Nat) (t : Int × List Int), avOk t.1 = true → (∀ x ∈ l, lnOk x = true) → t.2.length + l.length ≤ 100000 →
    ∃ a', rangeR (fun x i t k => obind (G t.1 x) fun r => oif (Nat.ble ((t.2.length + [r].length) * 8) roomMax) (k (r, t.2 ++ [r])) none) fin l i t = fin (a', t.2 ++ avgL e t.1 l)
  | [], i, t, _, _, _ => ⟨t.1, by simp [rangeR, avgL]⟩
  | x :: r, i, t, ha, hl, hs => by
    have hx := hl x (by simp)
    obtain ⟨h1, h2, _⟩ := nx_in he ha hx
    simp only [List.length_cons] at hs
    obtain ⟨a', ih⟩ := avg_range (fin := fin) he hG r (i + 1) (nx e t.1 x, t.2 ++ [nx e t.1 x]) (by simp [avOk, h1, h2]) (fun y hy => hl y (by simp [hy])) (by simp; omega)
    refine ⟨a', ?_⟩
    simp only [rangeR, hG _ _ ha hx, ob_s]
    rw [room (by simp; omega), oif_t, ih]
    simp [avgL]

def aoV (e : Int × Int × Int × Int) (a : Int) (l : List Int) : List Int × Bool := if elOk e && (avOk a && lnsOk l) then (avgL e a l, true) else ([], false)
theorem q_AverageOver {d : Nat} {e : Int × Int × Int × Int} {a : Int} {l : List Int} (hl : l.length < 4194304) : g74 (d + 3) e a l = some (aoV e a l) := by
  rw [e74]; unfold j74_1
  simp only [q_IsEarly, q_isAverage, q_areLengths hl, ob_s, aoV]
  cases he : elOk e with
  | false => rfl
  | true =>
  cases ha : avOk a with
  | false => rfl
  | true =>
  cases hn : lnsOk l with
  | false => rfl
  | true =>
  simp only [lnsOk, Bool.and_eq_true, List.all_eq_true, decide_eq_true_eq] at hn
  simp only [Bool.not_true, oif_f]
  refine (range_eq (fun (t : Int × List Int) (i : Int) => (t.1, t.2, i)) l (fun x i t k => obind (g148 (d + 2) e t.1 x) fun r => oif (Nat.ble ((t.2.length + [r].length) * 8) roomMax) (k (r, t.2 ++ [r])) none) (fun t => j74_0 (d + 2) t.2) ?_ ?_ (by rw [fuelN_eq]; exact hl) (a, [])).trans ?_
  · intro ag t i x hx; have hi := (List.getElem?_eq_some_iff.1 hx).1; simp only [l74_0, l74_0_b, ltl hx, bltl hx, nn, ofNat_toNat, hx, ob_s, oif_t]; rw [wr1 (by omega)]
  · intro ag t; simp only [l74_0, l74_0_b, ltn, oif_f]
  · obtain ⟨a', h⟩ := avg_range (fin := fun t => j74_0 (d + 2) t.2) he (fun a n ha hn => q_nextAverage (d := d + 1) he ha hn) l 0 (a, []) ha hn.1 (by simp; omega)
    rw [h]; rfl
theorem q_sAverageOver {d : Nat} {e : Int × Int × Int × Int} {a : Int} {l : List Int} (hl : l.length < 4194304) : g75 (d + 4) e a l = some (aoV e a l) := by
  rw [e75]; unfold j75_1
  simp only [q_rdGood, q_rdAverage, q_rdLengths hl, ob_s, aoV]
  cases he : elOk e with
  | false => rfl
  | true =>
  cases ha : avOk a with
  | false => rfl
  | true =>
  cases hn : lnsOk l with
  | false => rfl
  | true =>
  simp only [lnsOk, Bool.and_eq_true, List.all_eq_true, decide_eq_true_eq] at hn
  simp only [Bool.not_true, oif_f]
  refine (range_eq (fun (t : Int × List Int) (i : Int) => (t.1, t.2, i)) l (fun x i t k => obind (g151 (d + 3) e t.1 x) fun r => oif (Nat.ble ((t.2.length + [r].length) * 8) roomMax) (k (r, t.2 ++ [r])) none) (fun t => j75_0 (d + 3) t.2) ?_ ?_ (by rw [fuelN_eq]; exact hl) (a, [])).trans ?_
  · intro ag t i x hx; have hi := (List.getElem?_eq_some_iff.1 hx).1; simp only [l75_0, l75_0_b, ltl hx, bltl hx, nn, ofNat_toNat, hx, ob_s, oif_t]; rw [wr1 (by omega)]
  · intro ag t; simp only [l75_0, l75_0_b, ltn, oif_f]
  · obtain ⟨a', h⟩ := avg_range (fin := fun t => j75_0 (d + 3) t.2) he (fun a n ha hn => q_rdNext (d := d + 2) he ha hn) l 0 (a, []) ha hn.1 (by simp; omega)
    rw [h]; rfl

/-- The average after k equal lengths. -/
def itA (e : Int × Int × Int × Int) (a n : Int) : Nat → Int
  | 0 => a
  | k + 1 => nx e (itA e a n k) n
theorem itA_ok {e : Int × Int × Int × Int} {a n : Int} (he : elOk e = true) (ha : avOk a = true) (hn : lnOk n = true) : ∀ k, avOk (itA e a n k) = true
  | 0 => ha
  | k + 1 => by obtain ⟨h1, h2, _⟩ := nx_in he (itA_ok he ha hn k) hn; simp [avOk, itA, h1, h2]
theorem avgL_rep {e : Int × Int × Int × Int} {a n : Int} : ∀ (m s j : Nat), j < m → (avgL e (itA e a n s) (List.replicate m n))[j]? = some (itA e a n (s + j + 1))
  | 0, s, j, h => by omega
  | m + 1, s, 0, h => by simp [List.replicate_succ, avgL, itA]
  | m + 1, s, j + 1, h => by
    have := avgL_rep (e := e) (a := a) (n := n) m (s + 1) j (by omega)
    simp only [List.replicate_succ, avgL, List.getElem?_cons_succ]
    rw [show s + (j + 1) + 1 = s + 1 + j + 1 by omega]
    exact this

/-- The first of at most so many from n on. -/
def untilV (c : Nat → Bool) : Nat → Nat → Option Nat
  | 0, _ => none
  | k + 1, n => if c n then some n else untilV c k (n + 1)
theorem untilV_some {c : Nat → Bool} {m : Nat} : ∀ (k n : Nat), untilV c k n = some m → n ≤ m ∧ m < n + k ∧ c m = true ∧ ∀ j, n ≤ j → j < m → c j = false
  | 0, n, h => by simp [untilV] at h
  | k + 1, n, h => by
    unfold untilV at h
    split at h
    · rename_i hc; simp at h; subst h; exact ⟨by omega, by omega, hc, fun j h1 h2 => by omega⟩
    · rename_i hc
      obtain ⟨h1, h2, h3, h4⟩ := untilV_some k (n + 1) h
      refine ⟨by omega, by omega, h3, fun j h5 h6 => ?_⟩
      rcases Nat.eq_or_lt_of_le h5 with rfl | h7
      · simpa using hc
      · exact h4 j h7 h6

/-- What the search gives. -/
def unV (c : Nat → Bool) : Int × Bool := match untilV c 10001 0 with | some m => ((m : Int), true) | none => (0, false)
theorem until_ok {σ β : Type} {F : (σ → Option β) → σ → Option β} {c : Nat → Bool} {hit : Nat → β} {none' : β} (mk : Nat → σ)
    (h : ∀ ag n, F ag (mk n) = if n ≤ 10000 then (if c n then some (hit n) else ag (mk (n + 1))) else some none') :
    ∀ (k fuel n : Nat), n + k = 10001 → k < fuel → iterP F fuel (mk n) = some (match untilV c k n with | some m => hit m | none => none')
  | 0, fuel + 1, n, h1, _ => by
    simp only [iterP, h, show ¬ n ≤ 10000 by omega, if_false, untilV]
  | k + 1, fuel + 1, n, h1, h2 => by
    simp only [iterP, h, show n ≤ 10000 by omega, if_true, untilV]
    split
    · rfl
    · exact until_ok mk h k fuel (n + 1) (by omega) (by omega)

def idC (e : Int × Int × Int × Int) (a : Int) (k : Nat) : Bool := decide (itA e a 0 k < 256 * e.1)
def foC (e : Int × Int × Int × Int) (k : Nat) : Bool := decide (itA e 0 60 k ≥ 256 * e.2.1)
def idV (e : Int × Int × Int × Int) (a : Int) : Int × Bool := if elOk e && avOk a then unV (idC e a) else (0, false)
def foV (e : Int × Int × Int × Int) : Int × Bool := if elOk e then unV (foC e) else (0, false)

theorem q_IdleUntil {d : Nat} {e : Int × Int × Int × Int} {a : Int} : g78 (d + 3) e a = some (idV e a) := by
  rw [e78]; unfold j78_0
  simp only [q_IsEarly, q_isAverage, ob_s, idV]
  cases he : elOk e with
  | false => rfl
  | true =>
  cases ha : avOk a with
  | false => rfl
  | true =>
  simp only [Bool.not_true, oif_f, Bool.and_self, if_true]
  have he' := he
  simp only [elOk, decide_eq_true_eq] at he'
  have := until_ok (F := l78i155_0 d e (j78i155_0 d)) (c := idC e a) (hit := fun n => ((n : Int), true)) (none' := (0, false)) (fun n => (itA e a 0 n, 0, false, (n : Int))) (fun ag n => by
    have h1 := itA_ok he ha (n := 0) (by decide) n
    simp only [l78i155_0, l78i155_0_b]
    rw [wr (n := 256 * e.1) (by omega) (by omega), q_nextAverage he h1 (by decide)]
    by_cases h2 : n ≤ 10000
    · have e1 : decide ((n : Int) ≤ 10000) = true := by simp; omega
      rw [e1, oif_t, if_pos h2, ob_s, wr1 (by omega)]
      unfold idC
      cases decide (itA e a 0 n < 256 * e.1) <;> rfl
    · have e1 : decide ((n : Int) ≤ 10000) = false := by simp; omega
      rw [e1, oif_f, if_neg h2]; rfl) 10001 fuelN 0 (by omega) (by rw [fuelN_eq]; omega)
  refine Eq.trans this ?_
  unfold unV
  cases untilV (idC e a) 10001 0 <;> rfl
theorem q_rdSteps {d : Nat} {e : Int × Int × Int × Int} {a n v : Int} {b : Bool} (he : elOk e = true) (ha : avOk a = true) (hn : lnOk n = true) :
    g157 (d + 2) e a n v b = some (match untilV (fun k => decide (itA e a n k ≥ v) == b) 10001 0 with | some m => (m : Int) | none => -1) := by
  rw [e157]
  refine until_ok (F := l157_0 (d + 1) e n v b (j157_0 (d + 1))) (c := fun k => decide (itA e a n k ≥ v) == b) (hit := fun n => (n : Int)) (none' := -1) (fun k => (itA e a n k, 0, (k : Int))) (fun ag k => ?_) 10001 fuelN 0 (by omega) (by rw [fuelN_eq]; omega)
  have h1 := itA_ok he ha hn k
  simp only [l157_0, l157_0_b]
  rw [q_rdNext he h1 hn]
  by_cases h2 : k ≤ 10000
  · have e1 : decide ((k : Int) ≤ 10000) = true := by simp; omega
    rw [e1, oif_t, if_pos h2, ob_s, wr1 (by omega)]
    cases (decide (itA e a n k ≥ v) == b) <;> rfl
  · have e1 : decide ((k : Int) ≤ 10000) = false := by simp; omega
    rw [e1, oif_f, if_neg h2]; rfl

theorem q_sIdleUntil {d : Nat} {e : Int × Int × Int × Int} {a : Int} : g79 (d + 3) e a = some (idV e a) := by
  rw [e79]; unfold j79_0
  simp only [q_rdGood, q_rdAverage, ob_s, idV]
  cases he : elOk e with
  | false => rfl
  | true =>
  cases ha : avOk a with
  | false => rfl
  | true =>
  have he' := he
  simp only [elOk, decide_eq_true_eq] at he'
  simp only [Bool.not_true, oif_f, Bool.and_self, if_true]
  rw [wr (n := 256 * e.1) (by omega) (by omega), q_rdSteps he ha (by decide), ob_s]
  have ec : (fun k => decide (itA e a 0 k ≥ 256 * e.1) == false) = idC e a := by
    funext k
    unfold idC
    by_cases h : itA e a 0 k < 256 * e.1
    · rw [decide_eq_true h, decide_eq_false (by omega)]; rfl
    · rw [decide_eq_false h, decide_eq_true (by omega)]; rfl
  rw [ec]; unfold unV
  cases untilV (idC e a) 10001 0 with
  | none => rfl
  | some m => simp only; rw [decide_eq_false (by omega)]; rfl

theorem q_LeastForced {d : Nat} {e : Int × Int × Int × Int} : g81 (d + 3) e = some (foV e) := by
  rw [e81]
  simp only [q_IsEarly, ob_s, foV]
  cases he : elOk e with
  | false => rfl
  | true =>
  simp only [Bool.not_true, oif_f, if_true]
  have he' := he
  simp only [elOk, decide_eq_true_eq] at he'
  have := until_ok (F := l81i155_0 d e (j81i155_0 d)) (c := foC e) (hit := fun n => ((n : Int), true)) (none' := (0, false)) (fun n => (itA e 0 60 n, 0, false, (n : Int))) (fun ag n => by
    have h1 := itA_ok (a := 0) he (by decide) (n := 60) (by decide) n
    simp only [l81i155_0, l81i155_0_b]
    rw [wr (n := 256 * e.2.1) (by omega) (by omega), q_nextAverage he h1 (by decide)]
    by_cases h2 : n ≤ 10000
    · have e1 : decide ((n : Int) ≤ 10000) = true := by simp; omega
      rw [e1, oif_t, if_pos h2, ob_s, wr1 (by omega)]
      unfold foC
      cases decide (itA e 0 60 n ≥ 256 * e.2.1) <;> rfl
    · have e1 : decide ((n : Int) ≤ 10000) = false := by simp; omega
      rw [e1, oif_f, if_neg h2]; rfl) 10001 fuelN 0 (by omega) (by rw [fuelN_eq]; omega)
  refine Eq.trans this ?_
  unfold unV
  cases untilV (foC e) 10001 0 <;> rfl
theorem q_sLeastForced {d : Nat} {e : Int × Int × Int × Int} : g82 (d + 3) e = some (foV e) := by
  rw [e82]
  simp only [q_rdGood, ob_s, foV]
  cases he : elOk e with
  | false => rfl
  | true =>
  have he' := he
  simp only [elOk, decide_eq_true_eq] at he'
  simp only [Bool.not_true, oif_f, if_true]
  rw [wr (n := 256 * e.2.1) (by omega) (by omega), q_rdSteps he (by decide) (by decide), ob_s]
  have ec : (fun k => decide (itA e 0 60 k ≥ 256 * e.2.1) == true) = foC e := by
    funext k; unfold foC; cases decide (itA e 0 60 k ≥ 256 * e.2.1) <;> rfl
  rw [ec]; unfold unV
  cases untilV (foC e) 10001 0 with
  | none => rfl
  | some m => simp only; rw [decide_eq_false (by omega)]; rfl

theorem p_early {d m : Nat} {c : List Int × Int × Int} (hc : CurOk m c) (hm : m < 100000) : Ok (g144 (d + 4) c) fun r => CurOk (m + 20) r.2 := by
  rw [e144]; unfold j144_0
  (repeat' (first | (with_reducible refine Ok.some ?_; exact CurOk.mono (by assumption) (by omega)) | (with_reducible refine Ok.oif (fun _ => ?_) (fun _ => ?_)) | (with_reducible refine Ok.bind (p_pick (by assumption) (by omega)) (fun r hr => ?_); obtain ⟨_, _, _⟩ := hr) | (with_reducible refine Ok.bind (p_among (by assumption) (by omega) (by simp)) (fun r hr => ?_); obtain ⟨_, _⟩ := hr) | (with_reducible refine Ok.bind (p_one (by assumption) (by omega)) (fun r hr => ?_))))
theorem p_average {d m : Nat} {c : List Int × Int × Int} (hc : CurOk m c) (hm : m < 100000) : Ok (g145 (d + 4) c) fun r => CurOk (m + 20) r.2 := by
  rw [e145]
  (repeat' (first | (with_reducible refine Ok.some ?_; exact CurOk.mono (by assumption) (by omega)) | (with_reducible refine Ok.oif (fun _ => ?_) (fun _ => ?_)) | (with_reducible refine Ok.bind (p_pick (by assumption) (by omega)) (fun r hr => ?_); obtain ⟨_, _, _⟩ := hr) | (with_reducible refine Ok.bind (p_among (by assumption) (by omega) (by simp)) (fun r hr => ?_); obtain ⟨_, _⟩ := hr) | (with_reducible refine Ok.bind (p_one (by assumption) (by omega)) (fun r hr => ?_))))
theorem p_lengths {d m : Nat} {c : List Int × Int × Int} (hc : CurOk m c) (hm : m < 100000) : Ok (g152 (d + 4) c) fun r => r.1.length ≤ 100 ∧ CurOk (m + 100) r.2 := by
  rw [e152]
  refine Ok.bind (p_pick hc (by omega)) fun r hr => ?_
  obtain ⟨a1, a2, a3⟩ := hr
  refine iter_ok (fun k s => s.2.1 ≤ (k : Int) ∧ s.1.length + k ≤ 20 ∧ CurOk (m + 2 + 2 * s.1.length) s.2.2) ?_ _ 20 _ (by rw [fuelN_eq]; omega) ⟨by simp only; omega, by simp, by simpa using a3⟩
  rintro k ⟨l, n, x⟩ ag ⟨h1, h2, h3⟩ hag
  simp only at h1 h2 h3
  simp only [l152_0, l152_0_b]
  refine Ok.oif (fun h => ?_) (fun h => ?_)
  · simp at h
    refine Ok.bind (p_among h3 (by omega) (by simp)) fun u hu => ?_
    rw [room (by simp; omega), oif_t]
    exact hag (k - 1) _ (by omega) ⟨by simp only; rw [wr (by omega) (by omega)]; omega, by simp; omega, by simpa [Nat.mul_add, Nat.add_assoc] using hu.2⟩
  · unfold j152_0
    refine Ok.bind (p_pick (c := (x.1, x.2.1, x.2.2)) h3 (by omega)) fun q hq => ?_
    refine Ok.oif (fun _ => ?_) (fun _ => Ok.oif (fun _ => ?_) (fun _ => ?_))
    · refine Ok.bind (p_among hq.2.2 (by omega) (by simp)) fun u hu => ?_
      rw [room (by simp; omega), oif_t]
      exact Ok.some ⟨by simp; omega, hu.2.mono (by omega)⟩
    · refine Ok.bind (p_pick hq.2.2 (by omega)) fun u hu => ?_
      obtain ⟨u1, u2, u3⟩ := hu
      rw [wr (n := 60 + u.1) (by omega) (by omega)]
      have e1 : decide (0 ≤ 60 + u.1) = true := by simp; omega
      have e2 : (Nat.ble (60 + u.1).toNat (60 + u.1).toNat && Nat.ble ((60 + u.1).toNat * 8) roomMax) = true := by
        rw [Bool.and_eq_true, Nat.ble_eq, Nat.ble_eq]; unfold roomMax; omega
      rw [e1, oif_t, oif_t, e2, oif_t]
      exact Ok.some ⟨by simp; omega, u3.mono (by omega)⟩
    · exact Ok.some ⟨by simp only; omega, hq.2.2.mono (by omega)⟩
theorem p_DrawNextAverage {d : Nat} {x : List Int} (hx : Bytes x) : Ok (g68 (d + 5) x) fun _ => True := by
  rw [e68]
  refine Ok.bind (p_early (CurOk.new hx) (by omega)) fun r hr => ?_
  refine Ok.bind (p_average hr (by omega)) fun q hq => ?_
  exact Ok.bind (p_among hq (by omega) (by simp)) fun u hu => Ok.some trivial
theorem p_DrawAverageOver {d : Nat} {x : List Int} (hx : Bytes x) : Ok (g73 (d + 5) x) fun r => r.2.2.length ≤ 100 := by
  rw [e73]
  refine Ok.bind (p_early (CurOk.new hx) (by omega)) fun r hr => ?_
  refine Ok.bind (p_average hr (by omega)) fun q hq => ?_
  exact Ok.bind (p_lengths hq (by omega)) fun u hu => Ok.some hu.1
theorem p_DrawIdleUntil {d : Nat} {x : List Int} (hx : Bytes x) : Ok (g77 (d + 5) x) fun _ => True := by
  rw [e77]
  refine Ok.bind (p_early (CurOk.new hx) (by omega)) fun r hr => ?_
  exact Ok.bind (p_average hr (by omega)) fun q hq => Ok.some trivial
theorem p_DrawIsEarly {d : Nat} {x : List Int} (hx : Bytes x) : Ok (g158 (d + 5) x) fun _ => True := by
  rw [e158]
  exact Ok.bind (p_early (CurOk.new hx) (by omega)) fun r hr => Ok.some trivial
theorem p_DrawLeastForced {d : Nat} {x : List Int} (hx : Bytes x) : Ok (g80 (d + 6) x) fun _ => True := by
  rw [e80]
  exact Ok.bind (p_DrawIsEarly hx) fun r hr => Ok.some trivial

end Go.Proofs.Ytngofhppopgicaa
