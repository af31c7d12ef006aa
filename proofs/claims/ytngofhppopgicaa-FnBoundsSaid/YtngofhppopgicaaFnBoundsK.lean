/-
  What the cursor's functions and the small ones give by value.
  Conditions: the cursor has not been moved 2^62 times.
  Comparing and adding up lists of numbers; ranges.
  Conditions: the lists are shorter than the fuel.
  Inflows and services: what is valid, bounds, sums, leftovers, in both packages; the draws.
  Conditions: none, but those of the cursor for the draws.
-/
import Derived.Test.YtngofhppopgicaaFnBoundsRes
import Derived.Test.YtngofhppopgicaaPKit2
set_option linter.all false
namespace Go.Proofs.Ytngofhppopgicaa
open Go.Ev Go.Pv

theorem p_next {d m : Nat} {c : List Int × Int × Int} (hc : CurOk m c) (hm : m < 4611686018427387904) : Ok (g173 (d + 1) c) fun r => 0 ≤ r.1 ∧ r.1 < 256 ∧ CurOk (m + 1) r.2 := by
  obtain ⟨hb, h0, h1⟩ := hc
  obtain ⟨code, at', seed⟩ := c
  simp only at hb h0 h1
  have hw : IntKind.i64.wrap (at' + 1) = at' + 1 := wr (by omega) (by omega)
  rw [e173]
  have fin : ∀ n : Int, (at' < code.length → 0 ≤ n ∧ n < 256) → Ok (j173_0 d (code, at', seed) n) fun r => 0 ≤ r.1 ∧ r.1 < 256 ∧ CurOk (m + 1) r.2 := by
    intro n hn
    unfold j173_0
    simp only [hw]
    refine Ok.oif (fun h => ?_) (fun h => ?_)
    · simp only [decide_eq_true_eq] at h
      obtain ⟨a, b⟩ := hn (by omega)
      exact Ok.some ⟨a, b, hb, by simp only; omega, by simp only; omega⟩
    · exact Ok.some ⟨(seedByte _).1, (seedByte _).2, hb, by simp only; omega, by simp only; omega⟩
  refine Ok.oif (fun h => ?_) (fun h => ?_)
  · simp only [decide_eq_true_eq] at h
    refine Ok.oif (fun _ => ?_) (fun h2 => by simp only [decide_eq_false_iff_not] at h2; omega)
    have hlt : at'.toNat < code.length := by omega
    simp only
    rw [List.getElem?_eq_getElem hlt]
    have hx := hb _ (List.getElem_mem hlt)
    refine Ok.bind (Ok.some rfl) (fun a ha => ?_)
    subst ha
    exact fin _ (fun _ => by rw [wr (by omega) (by omega)]; exact hx)
  · simp only [decide_eq_false_iff_not] at h
    exact fin 0 (fun h' => absurd h' h)

theorem p_pick {d m : Nat} {c : List Int × Int × Int} {n : Int} (hc : CurOk m c) (hm : m + 1 < 4611686018427387904) : Ok (g120 (d + 2) c n) fun r => 0 ≤ r.1 ∧ (r.1 < n ∨ r.1 = 0) ∧ CurOk (m + 2) r.2 := by
  rw [e120]
  refine Ok.oif (fun h => ?_) (fun h => ?_)
  · exact Ok.some ⟨by simp, .inr rfl, hc.mono (by omega)⟩
  · simp only [decide_eq_false_iff_not] at h
    refine Ok.bind (p_next hc (by omega)) (fun r hr => ?_)
    obtain ⟨h1, h2, h3⟩ := hr
    have hn : (n == 0) = false := by simp; omega
    refine Ok.oif (fun h4 => ?_) (fun h4 => ?_)
    · refine Ok.bind (p_next h3 (by omega)) (fun q hq => ?_)
      obtain ⟨h5, h6, h7⟩ := hq
      rw [hn]
      rw [wr (n := r.1 * 256) (by omega) (by omega), wr (by omega) (by omega)]
      exact Ok.some ⟨Int.tmod_nonneg _ (by omega), .inl (Int.tmod_lt_of_pos _ (by omega)), h7.mono (by omega)⟩
    · rw [hn]
      exact Ok.some ⟨Int.tmod_nonneg _ (by omega), .inl (Int.tmod_lt_of_pos _ (by omega)), h3.mono (by omega)⟩

theorem p_among {d m : Nat} {c : List Int × Int × Int} {l : List Int} (hc : CurOk m c) (hm : m + 1 < 4611686018427387904) (hl : 0 < l.length) : Ok (g115 (d + 3) c l) fun r => r.1 ∈ l ∧ CurOk (m + 2) r.2 := by
  rw [e115]
  refine Ok.bind (p_pick hc hm) (fun r hr => ?_)
  obtain ⟨h1, h2, h3⟩ := hr
  refine Ok.oif (fun _ => ?_) (fun h => by simp only [decide_eq_false_iff_not] at h; omega)
  have hlt : r.1.toNat < l.length := by omega
  rw [List.getElem?_eq_getElem hlt]
  exact Ok.bind (Ok.some rfl) (fun a ha => by subst ha; exact Ok.some ⟨List.getElem_mem hlt, h3⟩)

theorem p_one {d m : Nat} {c : List Int × Int × Int} {n : Int} (hc : CurOk m c) (hm : m + 1 < 4611686018427387904) : Ok (g141 (d + 3) c n) fun r => CurOk (m + 2) r.2 := by
  rw [e141]
  exact Ok.bind (p_pick hc hm) (fun r hr => Ok.some hr.2.2)

theorem q_l1In {d : Nat} {x y z : Int} : g131 (d + 1) x y z = some (decide (y ≤ x ∧ x ≤ z)) := by
  rw [e131]; simp only [oif_ss]; congr 1; rw [Bool.eq_iff_iff]; simp

def inOk (a : Int × Int) : Bool := decide (0 ≤ a.1 ∧ a.1 ≤ 1000000000 ∧ 0 ≤ a.2 ∧ a.2 ≤ 100000)
def svOk (s : Int × Int) : Bool := decide (1 ≤ s.1 ∧ s.1 ≤ 100000 ∧ 0 ≤ s.2 ∧ s.2 ≤ 10000)
def both (a s : Int × Int) : Bool := inOk a && (svOk s && decide (a.2 ≤ s.1))

theorem q_IsInflow {d : Nat} {a : Int × Int} : g88 (d + 1) a = some (inOk a) := by
  rw [e88]; simp only [oif_ss]; congr 1; rw [Bool.eq_iff_iff]; simp [inOk]
theorem q_IsService {d : Nat} {a : Int × Int} : g90 (d + 1) a = some (svOk a) := by
  rw [e90]; simp only [oif_ss]; congr 1; rw [Bool.eq_iff_iff]; simp [svOk]
theorem q_bearable {d : Nat} {a s : Int × Int} : g162 (d + 2) a s = some (both a s) := by
  rw [e162]; simp only [q_IsInflow, q_IsService, ob_s, both]; cases inOk a <;> cases svOk s <;> rfl
theorem q_bnInflow {d : Nat} {a : Int × Int} : g167 (d + 2) a = some (inOk a) := by
  rw [e167]; simp only [q_l1In, ob_s, oif_ss]; congr 1; rw [Bool.eq_iff_iff]; simp [inOk]; omega
theorem q_bnService {d : Nat} {a : Int × Int} : g168 (d + 2) a = some (svOk a) := by
  rw [e168]; simp only [q_l1In, ob_s, oif_ss]; congr 1; rw [Bool.eq_iff_iff]; simp [svOk]; omega
theorem q_bnBoth {d : Nat} {a s : Int × Int} : g163 (d + 3) a s = some (both a s) := by
  rw [e163]; simp only [q_bnInflow, q_bnService, ob_s, both]; cases inOk a <;> cases svOk s <;> rfl
theorem q_sIsInflow {d : Nat} {a : Int × Int} : g89 (d + 3) a = some (inOk a) := by
  rw [e89, q_bnInflow]; rfl
theorem q_sIsService {d : Nat} {a : Int × Int} : g91 (d + 3) a = some (svOk a) := by
  rw [e91, q_bnService]; rfl

theorem both_in {a s : Int × Int} (h : both a s = true) : (0 ≤ a.1 ∧ a.1 ≤ 1000000000 ∧ 0 ≤ a.2 ∧ a.2 ≤ 100000) ∧ (1 ≤ s.1 ∧ s.1 ≤ 100000 ∧ 0 ≤ s.2 ∧ s.2 ≤ 10000) ∧ a.2 ≤ s.1 := by
  simpa [both, inOk, svOk, and_assoc] using h
theorem mul_in {a b A B : Int} (h1 : 0 ≤ a) (h2 : a ≤ A) (h3 : 0 ≤ b) (h4 : b ≤ B) : 0 ≤ a * b ∧ a * b ≤ A * B :=
  ⟨Int.mul_nonneg h1 h3, Int.mul_le_mul h2 h4 h3 (by omega)⟩

def backV (a s : Int × Int) : Int := a.1 + a.2 * s.2
theorem backV_in {a s : Int × Int} (h : both a s = true) : 0 ≤ a.2 * s.2 ∧ a.2 * s.2 ≤ 1000000000 := by
  obtain ⟨h1, h2, _⟩ := both_in h
  exact mul_in (A := 100000) (B := 10000) h1.2.2.1 h1.2.2.2 h2.2.2.1 h2.2.2.2
theorem backV_wr {a s : Int × Int} (h : both a s = true) : IntKind.i64.wrap (a.1 + IntKind.i64.wrap (a.2 * s.2)) = backV a s := by
  obtain ⟨h1, h2, _⟩ := both_in h
  obtain ⟨m1, m2⟩ := backV_in h
  rw [wr (n := a.2 * s.2) (by omega) (by omega), wr (by omega) (by omega)]; rfl

def bbV (a s : Int × Int) : Int × Bool := if both a s then (backV a s, true) else (0, false)
theorem q_BacklogBound {d : Nat} {a s : Int × Int} : g84 (d + 3) a s = some (bbV a s) := by
  rw [e84, q_bearable, ob_s]
  cases h : both a s with
  | false => simp [bbV, h, oif]
  | true => simp only [Bool.not_true, oif_f, backV_wr h, bbV, h, if_true]
theorem q_sBacklogBound {d : Nat} {a s : Int × Int} : g85 (d + 4) a s = some (bbV a s) := by
  rw [e85, q_bnBoth, ob_s]
  cases h : both a s with
  | false => simp [bbV, h, oif]
  | true => simp only [Bool.not_true, oif_f, e164, ob_s, backV_wr h, bbV, h, if_true]

def upV (a b : Int) : Int := (a + b - 1) / b
theorem upV_in {a b : Int} (h1 : 0 ≤ a) (h2 : 1 ≤ b) : 0 ≤ upV a b ∧ upV a b ≤ a + b := by
  unfold upV
  have h3 : 0 ≤ (a + b - 1) / b := Int.ediv_nonneg (by omega) (by omega)
  have h4 : (a + b - 1) / b ≤ a + b - 1 := Int.ediv_le_self _ (by omega)
  omega
theorem upV_wr {a b : Int} (h1 : 0 ≤ a) (h2 : a ≤ 1000000000000) (h3 : 1 ≤ b) (h4 : b ≤ 1000000000000) : IntKind.i64.wrap ((IntKind.i64.wrap ((IntKind.i64.wrap (a + b)) - 1)).tdiv b) = upV a b := by
  obtain ⟨h5, h6⟩ := upV_in h1 h3
  rw [wr (n := a + b) (by omega) (by omega), wr (n := a + b - 1) (by omega) (by omega), Int.tdiv_eq_ediv_of_nonneg (by omega)]
  exact wr (n := upV a b) (by omega) (by omega)
theorem q_divideUp {d : Nat} {a b : Int} (h1 : 0 ≤ a) (h2 : a ≤ 1000000000000) (h3 : 1 ≤ b) (h4 : b ≤ 1000000000000) : g165 (d + 1) a b = some (upV a b) := by
  rw [e165, upV_wr h1 h2 h3 h4, show (b == 0) = false by simp; omega]; rfl
theorem q_bnUp {d : Nat} {a b : Int} (h1 : 0 ≤ a) (h2 : a ≤ 1000000000000) (h3 : 1 ≤ b) (h4 : b ≤ 1000000000000) : g171 (d + 1) a b = some (upV a b) := by
  rw [e171, upV_wr h1 h2 h3 h4, show (b == 0) = false by simp; omega]; rfl

def dlV (a s : Int × Int) : Int := s.2 + upV a.1 s.1
def dbV (a s : Int × Int) : Int × Bool := if both a s then (dlV a s, true) else (0, false)
theorem dlV_wr {a s : Int × Int} (h1 : 0 ≤ a.1) (h2 : a.1 ≤ 1000000000000) (h3 : svOk s = true) : IntKind.i64.wrap (s.2 + upV a.1 s.1) = dlV a s := by
  simp only [svOk, decide_eq_true_eq] at h3
  obtain ⟨h5, h6⟩ := upV_in h1 h3.1
  exact wr (n := s.2 + upV a.1 s.1) (by omega) (by omega)
theorem q_DelayBound {d : Nat} {a s : Int × Int} : g86 (d + 3) a s = some (dbV a s) := by
  rw [e86, q_bearable, ob_s]
  cases h : both a s with
  | false => simp [dbV, h, oif]
  | true =>
    obtain ⟨h1, h2, h3⟩ := both_in h
    rw [q_divideUp (by omega) (by omega) (by omega) (by omega), ob_s, dlV_wr (by omega) (by omega) (by simp [svOk]; omega)]
    simp [dbV, h, oif]
theorem q_bnDelay {d : Nat} {a s : Int × Int} (h1 : 0 ≤ a.1) (h2 : a.1 ≤ 1000000000000) (h3 : svOk s = true) : g166 (d + 2) a s = some (dlV a s) := by
  have h3' := h3
  simp only [svOk, decide_eq_true_eq] at h3'
  rw [e166, q_bnUp (by omega) (by omega) (by omega) (by omega), ob_s, dlV_wr h1 h2 h3]
theorem q_sDelayBound {d : Nat} {a s : Int × Int} : g87 (d + 4) a s = some (dbV a s) := by
  rw [e87, q_bnBoth, ob_s]
  cases h : both a s with
  | false => simp [dbV, h, oif]
  | true =>
    obtain ⟨h1, h2, h3⟩ := both_in h
    rw [q_bnDelay (by omega) (by omega) (by simp [svOk]; omega), ob_s]; simp [dbV, h, oif]

def greV (a s : Int × Int) (t : Int) : Int := max 0 (a.1 + a.2 * t - s.1 * max 0 (t - s.2))
def gbV (a s : Int × Int) (t : Int) : Int × Bool := if both a s && decide (0 ≤ t ∧ t ≤ 100000) then (greV a s t, true) else (0, false)
theorem q_l1Most {d : Nat} {x y : Int} : g169 (d + 1) x y = some (max x y) := by
  rw [e169]; simp only [oif_ss]; congr 1; simp only [decide_eq_true_eq]; split <;> omega

theorem gre_wr {a s : Int × Int} {t : Int} (h : both a s = true) (h0 : 0 ≤ t) (h9 : t ≤ 100000) : IntKind.i64.wrap (t - s.2) = t - s.2 ∧ IntKind.i64.wrap (IntKind.i64.wrap (a.1 + IntKind.i64.wrap (a.2 * t)) - IntKind.i64.wrap (s.1 * max 0 (t - s.2))) = a.1 + a.2 * t - s.1 * max 0 (t - s.2) := by
  obtain ⟨h1, h2, h3⟩ := both_in h
  obtain ⟨m1, m2⟩ := mul_in (A := 100000) (B := 100000) h1.2.2.1 h1.2.2.2 h0 h9
  obtain ⟨m3, m4⟩ := mul_in (a := s.1) (b := max 0 (t - s.2)) (A := 100000) (B := 100000) (by omega) h2.2.1 (by omega) (by omega)
  refine ⟨wr (by omega) (by omega), ?_⟩
  rw [wr (n := a.2 * t) (by omega) (by omega), wr (n := s.1 * max 0 (t - s.2)) (by omega) (by omega), wr (n := a.1 + a.2 * t) (by omega) (by omega), wr (by omega) (by omega)]
theorem q_GreedyBacklog {d : Nat} {a s : Int × Int} {t : Int} : g92 (d + 3) a s t = some (gbV a s t) := by
  rw [e92, q_bearable, ob_s]; unfold j92_0
  cases h : both a s with
  | false => simp [gbV, h, oif]
  | true =>
    by_cases ht : 0 ≤ t ∧ t ≤ 100000
    · obtain ⟨w1, w2⟩ := gre_wr h ht.1 ht.2
      have e1 : decide (t < 0) = false := by simp; omega
      have e2 : decide (t > 100000) = false := by simp; omega
      have e3 : (if t - s.2 > 0 then t - s.2 else 0) = max 0 (t - s.2) := by split <;> omega
      simp only [Bool.not_true, oif_f, e1, e2, w1, e3, w2, gbV, h, ht, and_self, decide_true, Bool.and_self, if_true, greV]
      congr 2; split <;> omega
    · have e1 : decide (0 ≤ t ∧ t ≤ 100000) = false := by simpa using ht
      simp only [Bool.not_true, oif_f, gbV, h, e1, Bool.and_false, Bool.false_eq_true, if_false]
      by_cases h0 : t < 0
      · simp [h0, oif]
      · have : t > 100000 := by omega
        simp [h0, this, oif]
theorem q_sGreedyBacklog {d : Nat} {a s : Int × Int} {t : Int} : g93 (d + 4) a s t = some (gbV a s t) := by
  rw [e93, q_bnBoth, ob_s]; unfold j93_0
  cases h : both a s with
  | false => simp [gbV, h, oif]
  | true =>
    rw [q_l1In, ob_s]
    by_cases ht : 0 ≤ t ∧ t ≤ 100000
    · obtain ⟨w1, w2⟩ := gre_wr h ht.1 ht.2
      simp only [Bool.not_true, oif_f, ht, and_self, decide_true, w1, q_l1Most, ob_s, w2, gbV, h, Bool.and_self, if_true, greV]
    · have e1 : decide (0 ≤ t ∧ t ≤ 100000) = false := by simpa using ht
      simp [gbV, e1, oif]
theorem greedy_le {a s : Int × Int} {t : Int} (h : both a s = true) (h0 : 0 ≤ t) : greV a s t ≤ backV a s := by
  obtain ⟨h1, h2, h3⟩ := both_in h
  obtain ⟨m1, m2⟩ := backV_in h
  unfold greV backV
  by_cases ht : t ≤ s.2
  · have e1 : max 0 (t - s.2) = 0 := by omega
    have m3 : a.2 * t ≤ a.2 * s.2 := Int.mul_le_mul_of_nonneg_left ht h1.2.2.1
    rw [e1]; omega
  · have e1 : max 0 (t - s.2) = t - s.2 := by omega
    have m3 : a.2 * (t - s.2) ≤ s.1 * (t - s.2) := Int.mul_le_mul_of_nonneg_right h3 (by omega)
    have m4 : a.2 * (t - s.2) = a.2 * t - a.2 * s.2 := Int.mul_sub _ _ _
    rw [e1]; omega

def outV (a s : Int × Int) : (Int × Int) × Bool := if both a s && inOk (backV a s, a.2) then ((backV a s, a.2), true) else ((0, 0), false)
theorem q_OutputInflow {d : Nat} {a s : Int × Int} : g94 (d + 4) a s = some (outV a s) := by
  rw [e94, q_BacklogBound, ob_s]
  cases h : both a s with
  | false => simp [bbV, outV, h, oif]
  | true =>
    simp only [bbV, h, if_true, Bool.not_true, oif_f, q_IsInflow, ob_s, outV, Bool.true_and]
    cases inOk (backV a s, a.2) <;> rfl
theorem q_bnIf {d : Nat} {a : Int × Int} : g170 (d + 3) a = some (if inOk a then (a, true) else ((0, 0), false)) := by
  rw [e170, q_bnInflow, ob_s]; cases inOk a <;> rfl
theorem q_sOutputInflow {d : Nat} {a s : Int × Int} : g95 (d + 4) a s = some (outV a s) := by
  rw [e95, q_bnBoth, ob_s]
  cases h : both a s with
  | false => simp [outV, h, oif]
  | true =>
    simp only [Bool.not_true, oif_f, e164, ob_s, backV_wr h, q_bnIf, outV, h, Bool.true_and]

def lvV (s a : Int × Int) : (Int × Int) × Bool := if both a s && !(a.2 == s.1) && svOk (s.1 - a.2, upV (a.1 + s.1 * s.2) (s.1 - a.2)) then ((s.1 - a.2, upV (a.1 + s.1 * s.2) (s.1 - a.2)), true) else ((0, 0), false)
theorem lv_wr {a s : Int × Int} (h : both a s = true) (hn : ¬ a.2 = s.1) : IntKind.i64.wrap (a.1 + IntKind.i64.wrap (s.1 * s.2)) = a.1 + s.1 * s.2 ∧ IntKind.i64.wrap (s.1 - a.2) = s.1 - a.2 ∧ 0 ≤ a.1 + s.1 * s.2 ∧ a.1 + s.1 * s.2 ≤ 1000000000000 ∧ 1 ≤ s.1 - a.2 ∧ s.1 - a.2 ≤ 1000000000000 := by
  obtain ⟨h1, h2, h3⟩ := both_in h
  obtain ⟨m1, m2⟩ := mul_in (a := s.1) (b := s.2) (A := 100000) (B := 10000) (by omega) h2.2.1 h2.2.2.1 h2.2.2.2
  rw [wr (n := s.1 * s.2) (by omega) (by omega)]
  exact ⟨wr (by omega) (by omega), wr (by omega) (by omega), by omega, by omega, by omega, by omega⟩
theorem q_LeftoverService {d : Nat} {s a : Int × Int} : g97 (d + 3) s a = some (lvV s a) := by
  rw [e97, q_bearable, ob_s]; unfold j97_0
  cases h : both a s with
  | false => simp [lvV, h, oif]
  | true =>
    by_cases hn : a.2 = s.1
    · simp [lvV, hn, oif]
    · obtain ⟨w1, w2, w3, w4, w5, w6⟩ := lv_wr h hn
      have e1 : (a.2 == s.1) = false := by simpa using hn
      simp only [Bool.not_true, oif_f, e1, w1, w2, q_divideUp w3 w4 w5 w6, q_IsService, ob_s, lvV, h, Bool.not_false, Bool.and_self, Bool.true_and]
      cases svOk (s.1 - a.2, upV (a.1 + s.1 * s.2) (s.1 - a.2)) <;> rfl
theorem q_sLeftoverService {d : Nat} {s a : Int × Int} : g98 (d + 4) s a = some (lvV s a) := by
  rw [e98, q_bnBoth, ob_s]; unfold j98_0
  cases h : both a s with
  | false => simp [lvV, h, oif]
  | true =>
    by_cases hn : a.2 = s.1
    · simp [lvV, hn, oif]
    · obtain ⟨w1, w2, w3, w4, w5, w6⟩ := lv_wr h hn
      have e1 : (a.2 == s.1) = false := by simpa using hn
      simp only [Bool.not_true, oif_f, e1, w1, w2, q_bnUp w3 w4 w5 w6, q_bnService, ob_s, lvV, h, Bool.not_false, Bool.and_self, Bool.true_and]
      cases svOk (s.1 - a.2, upV (a.1 + s.1 * s.2) (s.1 - a.2)) <;> rfl
theorem lv_slow {s a : Int × Int} (h : (lvV s a).2 = true) : (lvV s a).1.1 = s.1 - a.2 ∧ s.2 ≤ (lvV s a).1.2 ∧ s.1 ≤ 100000 ∧ 0 ≤ a.2 ∧ a.2 ≤ s.1 := by
  unfold lvV at h ⊢
  split at h
  · rename_i hc
    simp only [hc, if_true]
    simp only [Bool.and_eq_true, Bool.not_eq_true', beq_eq_false_iff_ne, ne_eq] at hc
    obtain ⟨⟨hb, hn⟩, _⟩ := hc
    obtain ⟨h1, h2, h3⟩ := both_in hb
    refine ⟨trivial, ?_, by omega, by omega, by omega⟩
    unfold upV
    rw [Int.le_ediv_iff_mul_le (by omega)]
    have m1 : s.2 * (s.1 - a.2) = s.1 * s.2 - s.2 * a.2 := by rw [Int.mul_sub, Int.mul_comm s.2 s.1]
    have m2 : 0 ≤ s.2 * a.2 := Int.mul_nonneg (by omega) (by omega)
    omega
  · simp at h

theorem rangeR_allf {α τ β : Type} {p : α → Bool} {f : α → τ → τ} {no : Option β} {fin : τ → Option β} : ∀ (l : List α) (i : Nat) (t : τ),
    rangeR (fun x _ t k => oif (p x) (k (f x t)) no) fin l i t = oif (l.all p) (fin (l.foldl (fun t x => f x t) t)) no
  | [], i, t => rfl
  | x :: r, i, t => by
    simp only [rangeR, List.all_cons, List.foldl_cons]
    cases p x with
    | true => simp only [oif_t, Bool.true_and]; exact rangeR_allf r (i + 1) (f x t)
    | false => rfl
def sumIn (l : List (Int × Int)) : Int × Int := l.foldl (fun t x => (IntKind.i64.wrap (t.1 + x.1), IntKind.i64.wrap (t.2 + x.2))) (0, 0)
def adV (l : List (Int × Int)) : (Int × Int) × Bool := if decide (1 ≤ ((l.length : Nat) : Int) ∧ ((l.length : Nat) : Int) ≤ 8) && l.all inOk && inOk (sumIn l) then (sumIn l, true) else ((0, 0), false)
theorem q_AddInflows {d : Nat} {l : List (Int × Int)} (hl : l.length < 4194304) : g100 (d + 2) l = some (adV l) := by
  rw [e100]; unfold j100_1
  by_cases h : 1 ≤ ((l.length : Nat) : Int) ∧ ((l.length : Nat) : Int) ≤ 8
  · have e1 : decide (((l.length : Nat) : Int) < 1) = false := by simp only [decide_eq_false_iff_not]; omega
    have e2 : decide (((l.length : Nat) : Int) > 8) = false := by simp only [decide_eq_false_iff_not]; omega
    rw [e1, e2]; simp only [oif_f]
    refine (range_eq (fun (t : Int × Int) (i : Int) => (false, i, t)) l (fun x _ t k => oif (inOk x) (k (IntKind.i64.wrap (t.1 + x.1), IntKind.i64.wrap (t.2 + x.2))) (some ((0, 0), false))) (fun t => j100_0 (d + 1) false t.1 t.2) ?_ ?_ (by rw [fuelN_eq]; exact hl) (0, 0)).trans ?_
    · intro ag t i x hx; have hi := (List.getElem?_eq_some_iff.1 hx).1; simp only [l100_0, l100_0_b, ltl hx, bltl hx, nn, ofNat_toNat, hx, ob_s, oif_t]; rw [wr1 (by omega)]
      rw [q_IsInflow, ob_s]; cases inOk x <;> rfl
    · intro ag t; simp only [l100_0, l100_0_b, ltn, oif_f]
    · rw [rangeR_allf (p := inOk) (f := fun x t => (IntKind.i64.wrap (t.1 + x.1), IntKind.i64.wrap (t.2 + x.2)))]
      change oif (l.all inOk) (j100_0 (d + 1) false (sumIn l).1 (sumIn l).2) _ = _
      unfold j100_0
      rw [q_IsInflow, ob_s]
      simp only [adV, h, and_self, decide_true, Bool.true_and]
      cases l.all inOk <;> cases inOk (sumIn l) <;> rfl
  · have e0 : decide (1 ≤ ((l.length : Nat) : Int) ∧ ((l.length : Nat) : Int) ≤ 8) = false := by simpa using h
    simp only [adV, e0, Bool.false_and, Bool.false_eq_true, if_false]
    by_cases h1 : ((l.length : Nat) : Int) < 1
    · rw [decide_eq_true h1]; rfl
    · have h2 : ((l.length : Nat) : Int) > 8 := by omega
      rw [decide_eq_false h1, decide_eq_true h2]; rfl
theorem q_sAddInflows {d : Nat} {l : List (Int × Int)} (hl : l.length < 4194304) : g101 (d + 4) l = some (adV l) := by
  rw [e101]
  refine (range_eq (fun (t : Int × Int) (i : Int) => (false, i, t)) l (fun x _ t k => oif (inOk x) (k (IntKind.i64.wrap (t.1 + x.1), IntKind.i64.wrap (t.2 + x.2))) (some ((0, 0), false))) (fun t => j101_0 (d + 3) l false t.1 t.2) ?_ ?_ (by rw [fuelN_eq]; exact hl) (0, 0)).trans ?_
  · intro ag t i x hx; have hi := (List.getElem?_eq_some_iff.1 hx).1; simp only [l101_0, l101_0_b, ltl hx, bltl hx, nn, ofNat_toNat, hx, ob_s, oif_t]; rw [wr1 (by omega)]
    rw [q_bnInflow, ob_s]; cases inOk x <;> rfl
  · intro ag t; simp only [l101_0, l101_0_b, ltn, oif_f]
  · rw [rangeR_allf (p := inOk) (f := fun x t => (IntKind.i64.wrap (t.1 + x.1), IntKind.i64.wrap (t.2 + x.2)))]
    change oif (l.all inOk) (j101_0 (d + 3) l false (sumIn l).1 (sumIn l).2) _ = _
    unfold j101_0
    rw [q_l1In, ob_s, q_bnIf, ob_s]
    simp only [adV]
    cases l.all inOk <;> cases inOk (sumIn l) <;> cases decide (1 ≤ ((l.length : Nat) : Int) ∧ ((l.length : Nat) : Int) ≤ 8) <;> rfl

theorem q_big {d : Nat} {x y : List Int} : ∃ b, g67 (d + 1) x y = some b := by
  rw [e67]; simp only [oif_ss]; exact ⟨_, rfl⟩

theorem p_inflow {d m : Nat} {c : List Int × Int × Int} (hc : CurOk m c) (hm : m < 100000) : Ok (g160 (d + 4) c) fun r => CurOk (m + 20) r.2 := by
  rw [e160]
  refine Ok.bind (p_pick hc (by omega)) fun r1 h1 => ?_
  refine Ok.bind (p_among h1.2.2 (by omega) (by simp)) fun r2 h2 => ?_
  refine Ok.bind (p_among h2.2 (by omega) (by simp)) fun r3 h3 => ?_
  refine Ok.bind (p_pick h3.2 (by omega)) fun r4 h4 => ?_
  refine Ok.oif (fun _ => ?_) (fun _ => Ok.oif (fun _ => ?_) (fun _ => ?_))
  · exact Ok.bind (p_among h4.2.2 (by omega) (by simp)) fun q hq => Ok.some (hq.2.mono (by omega))
  · exact Ok.bind (p_among h4.2.2 (by omega) (by simp)) fun q hq => Ok.some (hq.2.mono (by omega))
  · exact Ok.some (h4.2.2.mono (by omega))
theorem p_service {d m : Nat} {c : List Int × Int × Int} (hc : CurOk m c) (hm : m < 100000) : Ok (g161 (d + 4) c) fun r => CurOk (m + 20) r.2 := by
  rw [e161]
  refine Ok.bind (p_among hc (by omega) (by simp)) fun r2 h2 => ?_
  refine Ok.bind (p_among h2.2 (by omega) (by simp)) fun r3 h3 => ?_
  refine Ok.bind (p_pick h3.2 (by omega)) fun r4 h4 => ?_
  refine Ok.oif (fun _ => ?_) (fun _ => Ok.oif (fun _ => ?_) (fun _ => ?_))
  · exact Ok.bind (p_among h4.2.2 (by omega) (by simp)) fun q hq => Ok.some (hq.2.mono (by omega))
  · exact Ok.bind (p_among h4.2.2 (by omega) (by simp)) fun q hq => Ok.some (hq.2.mono (by omega))
  · exact Ok.some (h4.2.2.mono (by omega))
theorem p_DrawBacklogBound {d : Nat} {x : List Int} (hx : Bytes x) : Ok (g83 (d + 5) x) fun _ => True := by
  rw [e83]
  refine Ok.bind (p_inflow (CurOk.new hx) (by omega)) fun r hr => ?_
  exact Ok.bind (p_service hr (by omega)) fun q hq => Ok.some trivial
theorem p_DrawLeftoverService {d : Nat} {x : List Int} (hx : Bytes x) : Ok (g96 (d + 5) x) fun _ => True := by
  rw [e96]
  refine Ok.bind (p_inflow (CurOk.new hx) (by omega)) fun r hr => ?_
  refine Ok.bind (p_service hr (by omega)) fun q hq => ?_
  refine Ok.bind (p_one hq (by omega)) fun u hu => ?_
  refine Ok.oif (fun _ => ?_) (fun _ => Ok.some trivial)
  exact Ok.bind (p_pick hu (by omega)) fun v hv => Ok.some trivial
theorem p_DrawGreedyBacklog {d : Nat} {x : List Int} (hx : Bytes x) : Ok (g102 (d + 5) x) fun _ => True := by
  rw [e102]
  refine Ok.bind (p_inflow (CurOk.new hx) (by omega)) fun r hr => ?_
  refine Ok.bind (p_service hr (by omega)) fun q hq => ?_
  exact Ok.bind (p_among hq (by omega) (by simp)) fun v hv => Ok.some trivial
theorem p_DrawAddInflows {d : Nat} {x : List Int} (hx : Bytes x) : Ok (g99 (d + 5) x) fun r => r.length ≤ 20 := by
  rw [e99]
  refine Ok.bind (p_pick (CurOk.new hx) (by omega)) fun r hr => ?_
  refine Ok.bind (p_one hr.2.2 (by omega)) fun q hq => ?_
  have key : ∀ (n : Int) (c : List Int × Int × Int), n ≤ 20 → CurOk 100 c → Ok (j99_1 (d + 4) n c.1 c.2.1 c.2.2) fun r => r.length ≤ 20 := by
    intro n c hn hc
    unfold j99_1
    refine iter_ok (fun k s => s.2.1 ≤ (k : Int) ∧ s.1.length + k ≤ 20 ∧ CurOk (100 + 20 * s.1.length) s.2.2) ?_ _ 20 _ (by rw [fuelN_eq]; omega) ⟨hn, by simp, by simpa using hc⟩
    rintro k ⟨l, n, x⟩ ag ⟨h1, h2, h3⟩ hag
    simp only at h1 h2 h3
    simp only [l99_0, l99_0_b]
    refine Ok.oif (fun h => ?_) (fun h => ?_)
    · simp at h
      refine Ok.bind (p_inflow h3 (by omega)) fun u hu => ?_
      rw [room (by simp; omega), oif_t]
      exact hag (k - 1) _ (by omega) ⟨by simp only; rw [wr (by omega) (by omega)]; omega, by simp; omega, by simpa [Nat.mul_add, Nat.add_assoc] using hu⟩
    · exact Ok.some (by omega)
  refine Ok.oif (fun _ => ?_) (fun _ => ?_)
  · refine Ok.bind (p_among hq (by omega) (by simp)) fun u hu => ?_
    refine key u.1 u.2 ?_ (hu.2.mono (by omega))
    have := hu.1; simp at this; omega
  · have h1 := hr.1; have h2 := hr.2.1
    rw [wr (by omega) (by omega)]
    exact key _ q.2 (by omega) (hq.mono (by omega))

end Go.Proofs.Ytngofhppopgicaa
