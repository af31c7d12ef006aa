/-
  What the cursor's functions and the small ones give by value.
  Conditions: the cursor has not been moved 2^62 times.
  Comparing and adding up lists of numbers; ranges.
  Conditions: the lists are shorter than the fuel.
  Controllers of delay: roots, gaps, times of drops, steps, in both packages; the draws.
  Conditions: none, but those of the cursor for the draws.
-/
import Derived.Test.YtcoojpojnmnboaaFnDelaysRes
import Derived.Test.YtcoojpojnmnboaaPKit2
set_option linter.all false
namespace Go.Proofs.Ytcoojpojnmnboaa
open Go.Ev Go.Pv

theorem p_next {d m : Nat} {c : List Int × Int × Int} (hc : CurOk m c) (hm : m < 4611686018427387904) : Ok (g352 (d + 1) c) fun r => 0 ≤ r.1 ∧ r.1 < 256 ∧ CurOk (m + 1) r.2 := by
  obtain ⟨hb, h0, h1⟩ := hc
  obtain ⟨code, at', seed⟩ := c
  simp only at hb h0 h1
  have hw : IntKind.i64.wrap (at' + 1) = at' + 1 := wr (by omega) (by omega)
  rw [e352]
  have fin : ∀ n : Int, (at' < code.length → 0 ≤ n ∧ n < 256) → Ok (j352_0 d (code, at', seed) n) fun r => 0 ≤ r.1 ∧ r.1 < 256 ∧ CurOk (m + 1) r.2 := by
    intro n hn
    unfold j352_0
    simp only [hw]
    refine Ok.oif (fun h => ?_) (fun h => ?_)
    · simp only [decide_eq_true_eq] at h
      obtain ⟨a, b⟩ := hn (by omega)
      exact Ok.some ⟨a, b, hb, by simp only; omega, by simp only; omega⟩
    · exact Ok.some ⟨(seedByte _).1, (seedByte _).2, hb, by simp only; omega, by simp only; omega⟩
  refine Ok.oif (fun h => ?_) (fun h => ?_)
  · simp only [decide_eq_true_eq] at h
    refine Ok.oif (fun _ => ?_) (fun h2 => by simp only [decide_eq_false_iff_not] at h2; omega)
    have hlt : at'.toNat < code.length := by omega
    simp only
    rw [List.getElem?_eq_getElem hlt]
    have hx := hb _ (List.getElem_mem hlt)
    refine Ok.bind (Ok.some rfl) (fun a ha => ?_)
    subst ha
    exact fin _ (fun _ => by rw [wr (by omega) (by omega)]; exact hx)
  · simp only [decide_eq_false_iff_not] at h
    exact fin 0 (fun h' => absurd h' h)

theorem p_pick {d m : Nat} {c : List Int × Int × Int} {n : Int} (hc : CurOk m c) (hm : m + 1 < 4611686018427387904) : Ok (g203 (d + 2) c n) fun r => 0 ≤ r.1 ∧ (r.1 < n ∨ r.1 = 0) ∧ CurOk (m + 2) r.2 := by
  rw [e203]
  refine Ok.oif (fun h => ?_) (fun h => ?_)
  · exact Ok.some ⟨by simp, .inr rfl, hc.mono (by omega)⟩
  · simp only [decide_eq_false_iff_not] at h
    refine Ok.bind (p_next hc (by omega)) (fun r hr => ?_)
    obtain ⟨h1, h2, h3⟩ := hr
    have hn : (n == 0) = false := by simp; omega
    refine Ok.oif (fun h4 => ?_) (fun h4 => ?_)
    · refine Ok.bind (p_next h3 (by omega)) (fun q hq => ?_)
      obtain ⟨h5, h6, h7⟩ := hq
      rw [hn]
      rw [wr (n := r.1 * 256) (by omega) (by omega), wr (by omega) (by omega)]
      exact Ok.some ⟨Int.tmod_nonneg _ (by omega), .inl (Int.tmod_lt_of_pos _ (by omega)), h7.mono (by omega)⟩
    · rw [hn]
      exact Ok.some ⟨Int.tmod_nonneg _ (by omega), .inl (Int.tmod_lt_of_pos _ (by omega)), h3.mono (by omega)⟩

theorem p_among {d m : Nat} {c : List Int × Int × Int} {l : List Int} (hc : CurOk m c) (hm : m + 1 < 4611686018427387904) (hl : 0 < l.length) : Ok (g190 (d + 3) c l) fun r => r.1 ∈ l ∧ CurOk (m + 2) r.2 := by
  rw [e190]
  refine Ok.bind (p_pick hc hm) (fun r hr => ?_)
  obtain ⟨h1, h2, h3⟩ := hr
  refine Ok.oif (fun _ => ?_) (fun h => by simp only [decide_eq_false_iff_not] at h; omega)
  have hlt : r.1.toNat < l.length := by omega
  rw [List.getElem?_eq_getElem hlt]
  exact Ok.bind (Ok.some rfl) (fun a ha => by subst ha; exact Ok.some ⟨List.getElem_mem hlt, h3⟩)

theorem p_one {d m : Nat} {c : List Int × Int × Int} {n : Int} (hc : CurOk m c) (hm : m + 1 < 4611686018427387904) : Ok (g230 (d + 3) c n) fun r => CurOk (m + 2) r.2 := by
  rw [e230]
  exact Ok.bind (p_pick hc hm) (fun r hr => Ok.some hr.2.2)

theorem q_l1In {d : Nat} {x y z : Int} : g211 (d + 1) x y z = some (decide (y ≤ x ∧ x ≤ z)) := by
  rw [e211]; simp only [oif_ss]; congr 1; rw [Bool.eq_iff_iff]; simp

theorem q_l1Least {d : Nat} {x y : Int} : g274 (d + 1) x y = some (min x y) := by
  rw [e274]; simp only [oif_ss]; congr 1; split <;> simp_all <;> omega

theorem q_isTicks {d : Nat} {x : Int} : g205 (d + 1) x = some (decide (0 ≤ x ∧ x ≤ 100000)) := by
  rw [e205]; simp only [oif_ss]; congr 1; rw [Bool.eq_iff_iff]; simp

def szOk (s : Int) : Bool := decide (1 ≤ s ∧ s ≤ 1500)

theorem q_l1Most {d : Nat} {x y : Int} : g204 (d + 1) x y = some (max x y) := by
  rw [e204]; simp only [oif_ss]; congr 1; simp only [decide_eq_true_eq]; split <;> omega

theorem q_qInts {d : Nat} {l : List Int} (hl : l.length < 4194304) : g46 (d + 1) l l = some true := by
  rw [e46, bne_self_eq_false, oif_f]
  refine (range_eq (fun (t : Bool) (i : Int) => (t, i)) l (fun x i t k => k t) (j46_0 d) ?_ ?_ (by rw [fuelN_eq]; exact hl) false).trans ?_
  · intro ag t i x hx; have hi := (List.getElem?_eq_some_iff.1 hx).1; simp only [l46_0, l46_0_b, ltl hx, bltl hx, nn, ofNat_toNat, hx, ob_s, oif_t]; rw [wr1 (by omega)]
    simp only [bne_self_eq_false, oif_f]
  · intro ag t; simp only [l46_0, l46_0_b, ltn, oif_f]
  · rw [rangeR_fold (f := fun _ _ t => t)]; rfl

def isRoot (n r : Int) : Prop := 0 ≤ r ∧ r * r ≤ n ∧ n < (r + 1) * (r + 1)

theorem lt_or_ge' (a b : Int) : a < b ∨ a ≥ b := by omega

theorem pow2_le {a : Nat} : ∀ (c : Nat), (2 : Int) ^ a ≤ 2 ^ (a + c)
  | 0 => Int.le_refl _
  | c + 1 => by
    have h := pow2_le (a := a) c
    have hp : (0 : Int) < 2 ^ a := Int.pow_pos (by omega)
    rw [← Nat.add_assoc, Int.pow_succ]; omega

theorem sq_le {a b : Int} (h0 : 0 ≤ a) (h : a ≤ b) : a * a ≤ b * b := Int.mul_le_mul h h h0 (by omega)

theorem root_unique {n r s : Int} (hr : isRoot n r) (hs : isRoot n s) : r = s := by
  obtain ⟨r0, r1, r2⟩ := hr; obtain ⟨s0, s1, s2⟩ := hs
  rcases Int.lt_trichotomy r s with h | h | h
  · have := sq_le (show (0 : Int) ≤ r + 1 by omega) (show r + 1 ≤ s by omega); omega
  · exact h
  · have := sq_le (show (0 : Int) ≤ s + 1 by omega) (show s + 1 ≤ r by omega); omega

/-- The root bit by bit. -/
def brF (n : Int) : Nat → Int → Int
  | 0, o => o
  | k + 1, o => if (o + 2 ^ k) * (o + 2 ^ k) ≤ n then brF n k (o + 2 ^ k) else brF n k o

theorem brF_root {n : Int} : ∀ (k : Nat) (o : Int), 0 ≤ o → o * o ≤ n → n < (o + 2 ^ k) * (o + 2 ^ k) → isRoot n (brF n k o)
  | 0, o, h0, h1, h2 => ⟨h0, h1, by simpa [brF] using h2⟩
  | k + 1, o, h0, h1, h2 => by
    have hp : (0 : Int) < 2 ^ k := Int.pow_pos (by omega)
    have e : (2 : Int) ^ (k + 1) = 2 ^ k + 2 ^ k := by rw [Int.pow_succ]; omega
    simp only [brF]
    split
    · rename_i h; exact brF_root k _ (by omega) h (by rw [e, ← Int.add_assoc] at h2; exact h2)
    · rename_i h; exact brF_root k o h0 h1 (by omega)

def rootV (n : Int) : Int := brF n 16 0

theorem rootV_root {n : Int} (h0 : 0 ≤ n) (h1 : n ≤ 1000000000) : isRoot n (rootV n) := brF_root 16 0 (by omega) (by omega) (by
  have : ((0 : Int) + 2 ^ 16) * (0 + 2 ^ 16) = 4294967296 := by decide
  omega)

theorem rootV_in {n : Int} (h0 : 0 ≤ n) (h1 : n ≤ 1000000000) : 0 ≤ rootV n ∧ rootV n ≤ 31622 := by
  obtain ⟨a, b, c⟩ := rootV_root h0 h1
  refine ⟨a, ?_⟩
  rcases lt_or_ge' 31622 (rootV n) with h | h
  · have := sq_le (show (0 : Int) ≤ 31623 by omega) (show (31623 : Int) ≤ rootV n by omega); omega
  · exact h

theorem q_cdRoot {d : Nat} {n : Int} (h0 : 0 ≤ n) (h1 : n ≤ 1000000000) : g212 (d + 1) n = some (rootV n) := by
  rw [e212]
  have gen : ∀ (k fuel : Nat) (o : Int), k < fuel → k ≤ 16 → 0 ≤ o → o * o ≤ n → o ≤ 65536 → iterP (l212_0 d n (j212_0 d)) fuel (o, if k = 0 then 0 else 2 ^ (k - 1)) = some (brF n k o) := by
    intro k
    induction k with
    | zero =>
      intro fuel o g1 _ _ _ _
      cases fuel with
      | zero => omega
      | succ f => simp [iterP, l212_0, l212_0_b, j212_0, oif, brF]
    | succ k ih =>
      intro fuel o g1 g2 g3 g4 g5
      cases fuel with
      | zero => omega
      | succ f =>
        have hp : (0 : Int) < 2 ^ k := Int.pow_pos (by omega)
        have hq : (2 : Int) ^ k ≤ 32768 := by
          have : (2 : Int) ^ k ≤ 2 ^ 15 := by
            have h := pow2_le (a := k) (15 - k)
            rwa [show k + (15 - k) = 15 by omega] at h
          have e : (2 : Int) ^ 15 = 32768 := by decide
          omega
        have ho : o ≤ 31622 := by
          rcases lt_or_ge' 31622 o with h | h
          · have := sq_le (show (0 : Int) ≤ 31623 by omega) (show (31623 : Int) ≤ o by omega); omega
          · exact h
        have hsq : 0 ≤ (o + 2 ^ k) * (o + 2 ^ k) ∧ (o + 2 ^ k) * (o + 2 ^ k) ≤ 100000 * 100000 :=
          ⟨Int.mul_nonneg (by omega) (by omega), sq_le (by omega) (by omega)⟩
        have hh : ((2 : Int) ^ k).tdiv 2 = if k = 0 then 0 else 2 ^ (k - 1) := by
          cases k with
          | zero => rfl
          | succ k =>
            rw [Int.tdiv_eq_ediv_of_nonneg (by omega), if_neg (by omega), Nat.add_sub_cancel, Int.pow_succ]
            exact Int.mul_ediv_cancel _ (by omega)
        have hb : 0 ≤ ((2 : Int) ^ k).tdiv 2 ∧ ((2 : Int) ^ k).tdiv 2 ≤ 2 ^ k := by
          rw [Int.tdiv_eq_ediv_of_nonneg (by omega)]; omega
        rw [if_neg (by omega), Nat.add_sub_cancel]
        simp only [iterP, l212_0, l212_0_b, brF]
        rw [decide_eq_true (show (2 : Int) ^ k > 0 from hp), oif_t, wr (n := o + 2 ^ k) (by omega) (by omega), wr (n := (o + 2 ^ k) * (o + 2 ^ k)) (by omega) (by omega), wr (n := ((2 : Int) ^ k).tdiv 2) (by omega) (by omega), hh]
        by_cases hc : (o + 2 ^ k) * (o + 2 ^ k) ≤ n
        · rw [decide_eq_true hc, oif_t, if_pos hc]
          exact ih f _ (by omega) (by omega) (by omega) hc (by omega)
        · rw [decide_eq_false hc, oif_f, if_neg hc]
          exact ih f _ (by omega) (by omega) g3 g4 g5
  exact gen 16 fuelN 0 (by rw [fuelN_eq]; omega) (by omega) (by omega) (by omega) (by omega)

theorem q_rootOf {d : Nat} {n : Int} (h0 : 0 ≤ n) (h1 : n ≤ 1000000000) : g210 (d + 3) n = some (rootV n) := by
  rw [e210]
  obtain ⟨r1, r2⟩ := rootV_in h0 h1
  obtain ⟨_, q1, q2⟩ := rootV_root h0 h1
  refine (search_ok (c := rootV n + 1) (top := 31623) (K := fun r => some (IntKind.i64.wrap (r - 1))) ?_ ?_ fuelN 0 31623 (by omega) (by omega) (by omega) (by omega) (by rw [fuelN_eq]; omega)).trans ?_
  · intro ag lo hi g1 g2 g3
    have hm : 0 ≤ (lo + hi) / 2 ∧ (lo + hi) / 2 ≤ 31623 := by omega
    have hsq : 0 ≤ (lo + hi) / 2 * ((lo + hi) / 2) ∧ (lo + hi) / 2 * ((lo + hi) / 2) ≤ 31623 * 31623 := ⟨Int.mul_nonneg (by omega) (by omega), sq_le (by omega) (by omega)⟩
    simp only [l210i220_0, l210i220_0_b]
    rw [decide_eq_true g3, oif_t, wr (n := lo + hi) (by omega) (by omega), Int.tdiv_eq_ediv_of_nonneg (by omega), wr (n := (lo + hi) / 2) (by omega) (by omega), wr (n := (lo + hi) / 2 * ((lo + hi) / 2)) (by omega) (by omega), wr (n := (lo + hi) / 2 - 1) (by omega) (by omega), wr (n := (lo + hi) / 2 + 1) (by omega) (by omega)]
    by_cases hc : rootV n + 1 ≤ (lo + hi) / 2
    · have := sq_le (show (0 : Int) ≤ rootV n + 1 by omega) hc
      rw [decide_eq_true (show (lo + hi) / 2 * ((lo + hi) / 2) > n by omega), oif_t, if_pos hc]
    · have := sq_le hm.1 (show (lo + hi) / 2 ≤ rootV n by omega)
      rw [decide_eq_false (show ¬ (lo + hi) / 2 * ((lo + hi) / 2) > n by omega), oif_f, if_neg hc]
  · intro ag lo hi g1 g2
    simp only [l210i220_0, l210i220_0_b]
    rw [decide_eq_false (by omega), oif_f]; rfl
  · rw [show rootV n + 1 - 1 = rootV n by omega, wr (by omega) (by omega)]

def rtV (n : Int) : Int × Bool := if decide (0 ≤ n ∧ n ≤ 1000000000) then (rootV n, true) else (0, false)

theorem q_RootOf {d : Nat} {n : Int} : g35 (d + 4) n = some (rtV n) := by
  rw [e35]; unfold rtV
  by_cases h : 0 ≤ n ∧ n ≤ 1000000000
  · rw [decide_eq_false (show ¬ n < 0 by omega), oif_f, decide_eq_false (show ¬ n > 1000000000 by omega), oif_f, q_rootOf h.1 h.2, ob_s, decide_eq_true h]; rfl
  · rw [decide_eq_false h]
    by_cases h1 : n < 0
    · rw [decide_eq_true h1]; rfl
    · rw [decide_eq_false h1, decide_eq_true (show n > 1000000000 by omega)]; rfl

theorem q_sRootOf {d : Nat} {n : Int} : g36 (d + 2) n = some (rtV n) := by
  rw [e36, q_l1In, ob_s]; unfold rtV
  by_cases h : 0 ≤ n ∧ n ≤ 1000000000
  · rw [decide_eq_true h, Bool.not_true, oif_f, q_cdRoot h.1 h.2, ob_s]; rfl
  · rw [decide_eq_false h]; rfl

def ivOk (n : Int) : Bool := decide (1 ≤ n ∧ n ≤ 10000)

theorem q_isInterval {d : Nat} {n : Int} : g213 (d + 1) n = some (ivOk n) := by
  rw [e213]; simp only [oif_ss]; congr 1; rw [Bool.eq_iff_iff]; simp [ivOk]

theorem q_cdInterval {d : Nat} {n : Int} : g215 (d + 2) n = some (ivOk n) := by
  rw [e215, q_l1In, ob_s]; rfl

def gapV (i c : Int) : Int := max 1 (i / rootV c)

theorem root_pos {c : Int} (h0 : 1 ≤ c) (h1 : c ≤ 1000) : 1 ≤ rootV c ∧ rootV c ≤ 1000 := by
  obtain ⟨a, b, e⟩ := rootV_root (n := c) (by omega) (by omega)
  constructor
  · rcases lt_or_ge' (rootV c) 1 with h | h
    · rw [show rootV c = 0 by omega] at e; omega
    · exact h
  · rcases lt_or_ge' 1000 (rootV c) with h | h
    · have := sq_le (show (0 : Int) ≤ 1001 by omega) (show (1001 : Int) ≤ rootV c by omega); omega
    · exact h

theorem gapV_in {i c : Int} (hi : ivOk i = true) (h0 : 1 ≤ c) (h1 : c ≤ 1000) : 1 ≤ gapV i c ∧ gapV i c ≤ 10000 ∧ 0 ≤ i / rootV c ∧ i / rootV c ≤ 10000 := by
  simp only [ivOk, decide_eq_true_eq] at hi
  obtain ⟨r1, r2⟩ := root_pos h0 h1
  have h2 : 0 ≤ i / rootV c := Int.ediv_nonneg (by omega) (by omega)
  have h3 : i / rootV c ≤ i := Int.ediv_le_self _ (by omega)
  unfold gapV; omega

theorem gapV_less {i c : Int} (hi : ivOk i = true) (h0 : 1 ≤ c) (h1 : c < 1000) : gapV i (c + 1) ≤ gapV i c := by
  simp only [ivOk, decide_eq_true_eq] at hi
  obtain ⟨r1, r2⟩ := root_pos h0 (show c ≤ 1000 by omega)
  obtain ⟨s1, s2⟩ := root_pos (c := c + 1) (by omega) (by omega)
  obtain ⟨_, a, b⟩ := rootV_root (n := c) (by omega) (by omega)
  obtain ⟨_, a', b'⟩ := rootV_root (n := c + 1) (by omega) (by omega)
  have hle : rootV c ≤ rootV (c + 1) := by
    rcases lt_or_ge' (rootV (c + 1)) (rootV c) with h | h
    · have := sq_le (show (0 : Int) ≤ rootV (c + 1) + 1 by omega) (show rootV (c + 1) + 1 ≤ rootV c by omega); omega
    · exact h
  have : i / rootV (c + 1) ≤ i / rootV c := by
    rw [Int.le_ediv_iff_mul_le (by omega)]
    have e1 := Int.ediv_mul_le i (show rootV (c + 1) ≠ 0 by omega)
    have e2 : i / rootV (c + 1) * rootV c ≤ i / rootV (c + 1) * rootV (c + 1) := Int.mul_le_mul_of_nonneg_left hle (Int.ediv_nonneg (by omega) (by omega))
    omega
  unfold gapV; omega

theorem q_gapAfter {d : Nat} {i c : Int} (hi : ivOk i = true) (h0 : 1 ≤ c) (h1 : c ≤ 1000) : g214 (d + 4) i c = some (gapV i c) := by
  obtain ⟨r1, r2⟩ := root_pos h0 h1
  obtain ⟨_, _, g1, g2⟩ := gapV_in hi h0 h1
  simp only [ivOk, decide_eq_true_eq] at hi
  rw [e214, q_rootOf (by omega) (by omega), ob_s, show (rootV c == 0) = false by simp; omega, oif_f, Int.tdiv_eq_ediv_of_nonneg (by omega), wr (by omega) (by omega)]
  unfold gapV; congr 1; split <;> omega

theorem q_cdGap {d : Nat} {i c : Int} (hi : ivOk i = true) (h0 : 1 ≤ c) (h1 : c ≤ 1000) : g216 (d + 2) i c = some (gapV i c) := by
  obtain ⟨r1, r2⟩ := root_pos h0 h1
  obtain ⟨_, _, g1, g2⟩ := gapV_in hi h0 h1
  simp only [ivOk, decide_eq_true_eq] at hi
  rw [e216, q_cdRoot (by omega) (by omega), ob_s, show (rootV c == 0) = false by simp; omega, oif_f, Int.tdiv_eq_ediv_of_nonneg (by omega), wr (by omega) (by omega), q_l1Most, ob_s]; rfl

def gaV (i c : Int) : Int × Bool := if ivOk i && decide (1 ≤ c ∧ c ≤ 1000) then (gapV i c, true) else (0, false)

theorem q_GapAfter {d : Nat} {i c : Int} : g38 (d + 5) i c = some (gaV i c) := by
  rw [e38, q_isInterval, ob_s]; unfold gaV
  cases hi : ivOk i with
  | false => rfl
  | true =>
  by_cases h : 1 ≤ c ∧ c ≤ 1000
  · rw [Bool.not_true, oif_f, decide_eq_false (show ¬ c < 1 by omega), oif_f, decide_eq_false (show ¬ c > 1000 by omega), oif_f, q_gapAfter hi h.1 h.2, ob_s, decide_eq_true h]; rfl
  · rw [decide_eq_false h]
    by_cases h1 : c < 1
    · rw [decide_eq_true h1]; rfl
    · rw [decide_eq_false h1, decide_eq_true (show c > 1000 by omega)]; rfl

theorem q_sGapAfter {d : Nat} {i c : Int} : g39 (d + 3) i c = some (gaV i c) := by
  rw [e39, q_cdInterval, ob_s]; unfold gaV
  cases hi : ivOk i with
  | false => rfl
  | true =>
  rw [Bool.not_true, oif_f, q_l1In, ob_s]
  by_cases h : 1 ≤ c ∧ c ≤ 1000
  · rw [decide_eq_true h, Bool.not_true, oif_f, q_cdGap hi h.1 h.2, ob_s]; rfl
  · rw [decide_eq_false h]; rfl

/-- The times of the next drops. -/
def dtF (i : Int) : Nat → Int → Nat → List Int
  | 0, _, _ => []
  | k + 1, a, c => (a + gapV i (c : Int)) :: dtF i k (a + gapV i (c : Int)) (c + 1)

theorem dtF_len {i : Int} : ∀ {k : Nat} {a : Int} {c : Nat}, (dtF i k a c).length = k
  | 0, _, _ => rfl
  | k + 1, a, c => by simp [dtF, dtF_len]

def dtV (i n : Int) : List Int × Bool := if ivOk i && decide (0 ≤ n ∧ n ≤ 40) then (dtF i n.toNat 0 1, true) else ([], false)

theorem q_DropTimes {d : Nat} {i n : Int} : g41 (d + 5) i n = some (dtV i n) := by
  rw [e41, q_isInterval, ob_s]; unfold dtV j41_1
  cases hi : ivOk i with
  | false => rfl
  | true =>
  by_cases h : 0 ≤ n ∧ n ≤ 40
  case neg =>
    rw [decide_eq_false h]
    by_cases h1 : n < 0
    · rw [decide_eq_true h1]; rfl
    · rw [decide_eq_false h1, decide_eq_true (show n > 40 by omega)]; rfl
  rw [Bool.not_true, oif_f, decide_eq_false (show ¬ n < 0 by omega), oif_f, decide_eq_false (show ¬ n > 40 by omega), oif_f, decide_eq_true h, Bool.true_and, if_pos rfl]
  have gen : ∀ (k fuel : Nat) (o : List Int) (a : Int) (c : Nat), k < fuel → o.length + k = n.toNat → c = o.length + 1 → 0 ≤ a → a ≤ 10000 * (o.length : Int) → iterP (l41_0 (d + 4) i n (j41_0 (d + 4))) fuel (o, a, (c : Int)) = some (o ++ dtF i k a c, true) := by
    intro k
    induction k with
    | zero =>
      intro fuel o a c g1 g2 g3 _ _
      cases fuel with
      | zero => omega
      | succ f =>
        simp only [iterP, l41_0, l41_0_b]
        rw [decide_eq_false (by omega), oif_f]; simp [j41_0, dtF]
    | succ k ih =>
      intro fuel o a c g1 g2 g3 g4 g5
      cases fuel with
      | zero => omega
      | succ f =>
        obtain ⟨p1, p2, _⟩ := gapV_in hi (c := (c : Int)) (by omega) (by omega)
        simp only [iterP, l41_0, l41_0_b]
        rw [decide_eq_true (by omega), oif_t, q_gapAfter hi (by omega) (by omega), ob_s, room (by simp; omega), oif_t, wr (n := a + _) (by omega) (by omega), wr1 (by omega), ih f _ _ (c + 1) (by omega) (by simp; omega) (by simp; omega) (by omega) (by simp; omega)]
        simp [dtF]
  have := gen n.toNat fuelN [] 0 1 (by rw [fuelN_eq]; omega) (by simp) (by simp) (by omega) (by simp)
  simpa using this

theorem q_sDropTimes {d : Nat} {i n : Int} : g42 (d + 3) i n = some (dtV i n) := by
  rw [e42, q_cdInterval, ob_s]; unfold dtV j42_1
  cases hi : ivOk i with
  | false => rfl
  | true =>
  rw [Bool.not_true, oif_f, q_l1In, ob_s]
  by_cases h : 0 ≤ n ∧ n ≤ 40
  case neg => rw [decide_eq_false h]; rfl
  rw [decide_eq_true h, Bool.not_true, oif_f, Bool.true_and, if_pos rfl]
  have gen : ∀ (k fuel : Nat) (o : List Int) (a : Int) (c : Nat), k < fuel → o.length + k = n.toNat → c = o.length + 1 → 0 ≤ a → a ≤ 10000 * (o.length : Int) → iterP (l42_0 (d + 2) i n (j42_0 (d + 2))) fuel (o, a, (c : Int)) = some (o ++ dtF i k a c, true) := by
    intro k
    induction k with
    | zero =>
      intro fuel o a c g1 g2 g3 _ _
      cases fuel with
      | zero => omega
      | succ f =>
        simp only [iterP, l42_0, l42_0_b]
        rw [decide_eq_false (by omega), oif_f]; simp [j42_0, dtF]
    | succ k ih =>
      intro fuel o a c g1 g2 g3 g4 g5
      cases fuel with
      | zero => omega
      | succ f =>
        obtain ⟨p1, p2, _⟩ := gapV_in hi (c := (c : Int)) (by omega) (by omega)
        simp only [iterP, l42_0, l42_0_b]
        rw [decide_eq_true (by omega), oif_t, q_cdGap hi (by omega) (by omega), ob_s, room (by simp; omega), oif_t, wr (n := a + _) (by omega) (by omega), wr1 (by omega), ih f _ _ (c + 1) (by omega) (by simp; omega) (by simp; omega) (by omega) (by simp; omega)]
        simp [dtF]
  have := gen n.toNat fuelN [] 0 1 (by rw [fuelN_eq]; omega) (by simp) (by simp) (by omega) (by simp)
  simpa using this

def dlOk (x : Int × Int × Int × Bool × Int × Int) : Bool := ivOk x.1 && (ivOk x.2.1 && decide (-1 ≤ x.2.2.1 ∧ x.2.2.1 ≤ 110000 ∧ 0 ≤ x.2.2.2.2.1 ∧ x.2.2.2.2.1 ≤ 1000 ∧ 0 ≤ x.2.2.2.2.2 ∧ x.2.2.2.2.2 ≤ 200000))

theorem dl_in2 {x : Int × Int × Int × Bool × Int × Int} (h : dlOk x = true) : (1 ≤ x.1 ∧ x.1 ≤ 10000) ∧ ivOk x.2.1 = true ∧ (1 ≤ x.2.1 ∧ x.2.1 ≤ 10000) ∧ -1 ≤ x.2.2.1 ∧ x.2.2.1 ≤ 110000 ∧ 0 ≤ x.2.2.2.2.1 ∧ x.2.2.2.2.1 ≤ 1000 ∧ 0 ≤ x.2.2.2.2.2 ∧ x.2.2.2.2.2 ≤ 200000 := by
  simp only [dlOk, Bool.and_eq_true, decide_eq_true_eq] at h
  have h1 := h.1; have h2 := h.2.1
  simp only [ivOk, decide_eq_true_eq] at h1 h2
  exact ⟨h1, h.2.1, h2, h.2.2⟩

theorem q_IsDelay {d : Nat} {x : Int × Int × Int × Bool × Int × Int} : g47 (d + 2) x = some (dlOk x) := by
  rw [e47]; simp only [q_isInterval, ob_s, oif_ss]; congr 1; rw [Bool.eq_iff_iff]; simp [dlOk]

theorem q_cdGood {d : Nat} {x : Int × Int × Int × Bool × Int × Int} : g207 (d + 3) x = some (dlOk x) := by
  rw [e207]; simp only [q_cdInterval, q_l1In, ob_s, oif_ss]; congr 1; rw [Bool.eq_iff_iff]; simp [dlOk]; omega

theorem q_sIsDelay {d : Nat} {x : Int × Int × Int × Bool × Int × Int} : g48 (d + 4) x = some (dlOk x) := by
  rw [e48, q_cdGood, ob_s]

theorem q_cdTick {d : Nat} {x : Int} : g208 (d + 2) x = some (decide (0 ≤ x ∧ x ≤ 100000)) := by
  rw [e208, q_l1In, ob_s]

def ndV (a b : Int) : (Int × Int × Int × Bool × Int × Int) × Bool := if dlOk (a, b, (-1), false, 0, 0) then ((a, b, (-1), false, 0, 0), true) else ((0, 0, 0, false, 0, 0), false)

theorem q_NewDelay {d : Nat} {a b : Int} : g44 (d + 3) a b = some (ndV a b) := by
  rw [e44, q_IsDelay, ob_s]; unfold ndV; cases dlOk (a, b, (-1), false, 0, 0) <;> rfl

theorem q_sNewDelay {d : Nat} {a b : Int} : g45 (d + 4) a b = some (ndV a b) := by
  rw [e45, q_cdGood, ob_s]; unfold ndV; cases dlOk (a, b, (-1), false, 0, 0) <;> rfl

/-- The second half of a step. -/
def stB (x : Int × Int × Int × Bool × Int × Int) (now : Int) (too : Bool) (s : Int) : (Int × Int × Int × Bool × Int × Int) × Bool :=
  if too then
    if x.2.2.2.1 then
      if now < x.2.2.2.2.2 then ((x.1, x.2.1, s, true, x.2.2.2.2.1, x.2.2.2.2.2), false)
      else ((x.1, x.2.1, s, true, min 1000 (x.2.2.2.2.1 + 1), x.2.2.2.2.2 + gapV x.2.1 (min 1000 (x.2.2.2.2.1 + 1))), true)
    else if 1 ≤ x.2.2.2.2.1 - 2 ∧ now < x.2.2.2.2.2 + 8 * x.2.1 then ((x.1, x.2.1, s, true, x.2.2.2.2.1 - 2, now + gapV x.2.1 (x.2.2.2.2.1 - 2)), true)
    else ((x.1, x.2.1, s, true, 1, now + gapV x.2.1 1), true)
  else ((x.1, x.2.1, s, false, x.2.2.2.2.1, x.2.2.2.2.2), false)

def stL (x : Int × Int × Int × Bool × Int × Int) (w b : Int) : Bool := decide (x.1 ≤ w ∧ 1 ≤ b)

def stV (x : Int × Int × Int × Bool × Int × Int) (now w b : Int) : (Int × Int × Int × Bool × Int × Int) × Bool :=
  stB x now (stL x w b && decide (0 ≤ x.2.2.1 ∧ x.2.2.1 ≤ now)) (if stL x w b then (if x.2.2.1 < 0 then now + x.2.1 else x.2.2.1) else -1)

theorem q_step1 {d : Nat} {x : Int × Int × Int × Bool × Int × Int} {now s : Int} {too : Bool} (hx : dlOk x = true) (hn : 0 ≤ now ∧ now ≤ 100000) : j206_1 (d + 4) x now too s = some ((stB x now too s).2, (stB x now too s).1) := by
  obtain ⟨h1, h2, h3, h4, h5, h6, h7, h8, h9⟩ := dl_in2 hx
  obtain ⟨t, i, si, dr, c, nx⟩ := x
  simp only at h1 h2 h3 h4 h5 h6 h7 h8 h9
  unfold j206_1 stB
  cases too with
  | false => rfl
  | true =>
  simp only [Bool.not_true, oif_f, if_true]
  cases dr with
  | true =>
    simp only [oif_t, if_true]
    by_cases hc : now < nx
    · rw [decide_eq_true hc, oif_t, if_pos hc]
    · have em : (if IntKind.i64.wrap (c + 1) < 1000 then IntKind.i64.wrap (c + 1) else 1000) = min 1000 (c + 1) := by rw [wr (by omega) (by omega)]; split <;> omega
      obtain ⟨g1, g2, _⟩ := gapV_in h2 (c := min 1000 (c + 1)) (by omega) (by omega)
      rw [decide_eq_false hc, oif_f, if_neg hc, em, q_gapAfter h2 (by omega) (by omega), ob_s, wr (by omega) (by omega)]
  | false =>
    simp only [oif_f, Bool.false_eq_true, if_false]
    have e2 : IntKind.i64.wrap (c - 2) = c - 2 := wr (by omega) (by omega)
    have e8 : IntKind.i64.wrap (nx + IntKind.i64.wrap ((8 : Int) * i)) = nx + 8 * i := by rw [wr (n := 8 * i) (by omega) (by omega), wr (by omega) (by omega)]
    obtain ⟨p1, p2, _⟩ := gapV_in h2 (c := 1) (by omega) (by omega)
    have one : j206_0 (d + 4) (t, i, si, false, c, nx) now s false = some (true, (t, i, s, true, 1, now + gapV i 1)) := by
      unfold j206_0
      simp only [oif_f, q_gapAfter h2 (show (1 : Int) ≤ 1 by omega) (show (1 : Int) ≤ 1000 by omega), ob_s]
      rw [wr (by omega) (by omega)]
    rw [e2, e8]
    by_cases hc : c - 2 ≥ 1
    · rw [decide_eq_true hc, oif_t]
      by_cases hd : now < nx + 8 * i
      · obtain ⟨g1, g2, _⟩ := gapV_in h2 (c := c - 2) (by omega) (by omega)
        rw [decide_eq_true hd, if_pos ⟨hc, hd⟩]
        unfold j206_0
        simp only [oif_t, e2, q_gapAfter h2 (show 1 ≤ c - 2 by omega) (show c - 2 ≤ 1000 by omega), ob_s]
        rw [wr (by omega) (by omega)]
      · rw [decide_eq_false hd, if_neg (by omega)]; exact one
    · rw [decide_eq_false hc, oif_f, if_neg (by omega)]; exact one

theorem q_step {d : Nat} {x : Int × Int × Int × Bool × Int × Int} {now w b : Int} (hx : dlOk x = true) (hn : 0 ≤ now ∧ now ≤ 100000) : g206 (d + 5) x now w b = some ((stV x now w b).2, (stV x now w b).1) := by
  obtain ⟨h1, h2, h3, h4, h5, h6, h7, h8, h9⟩ := dl_in2 hx
  have main : ∀ (late : Bool), late = stL x w b → j206_3 (d + 4) x now late = some ((stV x now w b).2, (stV x now w b).1) := by
    intro late hl
    unfold j206_3 j206_2 stV
    rw [← hl]
    cases late with
    | false =>
      simp only [oif_f, Bool.not_false, oif_t, Bool.false_and, Bool.false_eq_true, if_false]
      exact q_step1 hx hn
    | true =>
      simp only [oif_t, Bool.not_true, oif_f, Bool.true_and, if_true]
      by_cases hs : x.2.2.1 < 0
      · have e0 : x.2.2.1 = -1 := by omega
        have e1 : (x.2.2.1 != -1) = false := by rw [e0]; rfl
        have e2 : (x.2.2.1 == -1) = true := by rw [e0]; rfl
        rw [e1, oif_f, e2, oif_t, if_pos hs, wr (by omega) (by omega), decide_eq_false (show ¬ (0 ≤ x.2.2.1 ∧ x.2.2.1 ≤ now) by omega)]
        exact q_step1 hx hn
      · have e1 : (x.2.2.1 != -1) = true := by rw [bne_iff_ne]; omega
        have e2 : (x.2.2.1 == -1) = false := by rw [beq_eq_false_iff_ne]; omega
        rw [e1, oif_t, e2, oif_f, if_neg hs]
        have e3 : decide (0 ≤ x.2.2.1 ∧ x.2.2.1 ≤ now) = decide (x.2.2.1 ≤ now) := by
          rw [Bool.eq_iff_iff]; simp only [decide_eq_true_eq]; omega
        rw [e3]
        exact q_step1 hx hn
  rw [e206]
  by_cases hw : w ≥ x.1
  · rw [decide_eq_true hw, oif_t]; refine main _ ?_
    unfold stL; rw [Bool.eq_iff_iff]; simp only [decide_eq_true_eq]; omega
  · rw [decide_eq_false hw, oif_f]; refine main _ ?_
    unfold stL; rw [decide_eq_false (by omega)]

theorem q_cdStep {d : Nat} {x : Int × Int × Int × Bool × Int × Int} {now w b : Int} (hx : dlOk x = true) (hn : 0 ≤ now ∧ now ≤ 100000) : g209 (d + 3) x now w b = some (stV x now w b) := by
  obtain ⟨h1, h2, h3, h4, h5, h6, h7, h8, h9⟩ := dl_in2 hx
  have half : ∀ (too : Bool) (s : Int), j209_2 (d + 2) x now too s = some (stB x now too s) := by
    intro too s
    obtain ⟨t, i, si, dr, c, nx⟩ := x
    simp only at h1 h2 h3 h4 h5 h6 h7 h8 h9
    unfold j209_2 j209_1 stB
    cases too with
    | false => rfl
    | true =>
    simp only [Bool.not_true, oif_f, if_true]
    cases dr with
    | true =>
      simp only [oif_t, if_true]
      by_cases hc : now < nx
      · rw [decide_eq_true hc, oif_t, if_pos hc]
      · obtain ⟨g1, g2, _⟩ := gapV_in h2 (c := min 1000 (c + 1)) (by omega) (by omega)
        rw [decide_eq_false hc, oif_f, if_neg hc, wr (n := c + 1) (by omega) (by omega), q_l1Least, ob_s, q_cdGap h2 (by omega) (by omega), ob_s, wr (by omega) (by omega)]
    | false =>
      simp only [oif_f, Bool.false_eq_true, if_false]
      have e2 : IntKind.i64.wrap (c - 2) = c - 2 := wr (by omega) (by omega)
      have e8 : IntKind.i64.wrap (nx + IntKind.i64.wrap ((8 : Int) * i)) = nx + 8 * i := by rw [wr (n := 8 * i) (by omega) (by omega), wr (by omega) (by omega)]
      obtain ⟨p1, p2, _⟩ := gapV_in h2 (c := 1) (by omega) (by omega)
      have one : j209_0 (d + 2) (t, i, si, false, c, nx) now true s true = some ((t, i, s, true, 1, now + gapV i 1), true) := by
        unfold j209_0
        simp only [oif_t, q_cdGap h2 (show (1 : Int) ≤ 1 by omega) (show (1 : Int) ≤ 1000 by omega), ob_s]
        rw [wr (by omega) (by omega)]
      rw [e2, e8]
      by_cases hc : c - 2 < 1
      · rw [decide_eq_true hc, oif_t, if_neg (by omega)]; exact one
      · rw [decide_eq_false hc, oif_f]
        by_cases hd : now ≥ nx + 8 * i
        · rw [decide_eq_true hd, if_neg (by omega)]; exact one
        · obtain ⟨g1, g2, _⟩ := gapV_in h2 (c := c - 2) (by omega) (by omega)
          rw [decide_eq_false hd, if_pos (by omega)]
          unfold j209_0
          simp only [oif_f, e2, q_cdGap h2 (show 1 ≤ c - 2 by omega) (show c - 2 ≤ 1000 by omega), ob_s]
          rw [wr (by omega) (by omega)]
  have main : ∀ (late : Bool), late = stL x w b → j209_4 (d + 2) x now late = some (stV x now w b) := by
    intro late hl
    unfold j209_4 j209_3 stV
    rw [← hl]
    cases late with
    | false =>
      simp only [oif_f, Bool.not_false, oif_t, Bool.false_and, Bool.false_eq_true, if_false]
      exact half _ _
    | true =>
      simp only [oif_t, Bool.not_true, oif_f, Bool.true_and, if_true]
      by_cases hs : x.2.2.1 < 0
      · rw [decide_eq_false (show ¬ x.2.2.1 ≥ 0 by omega), oif_f, decide_eq_true hs, oif_t, if_pos hs, wr (by omega) (by omega), decide_eq_false (show ¬ (0 ≤ x.2.2.1 ∧ x.2.2.1 ≤ now) by omega)]
        exact half _ _
      · have e3 : decide (0 ≤ x.2.2.1 ∧ x.2.2.1 ≤ now) = decide (x.2.2.1 ≤ now) := by
          rw [Bool.eq_iff_iff]; simp only [decide_eq_true_eq]; omega
        rw [decide_eq_true (show x.2.2.1 ≥ 0 by omega), oif_t, decide_eq_false hs, oif_f, if_neg hs, e3]
        exact half _ _
  rw [e209]
  by_cases hw : w ≥ x.1
  · rw [decide_eq_true hw, oif_t]; refine main _ ?_
    unfold stL; rw [Bool.eq_iff_iff]; simp only [decide_eq_true_eq]; omega
  · rw [decide_eq_false hw, oif_f]; refine main _ ?_
    unfold stL; rw [decide_eq_false (by omega)]

def dsV (x : Int × Int × Int × Bool × Int × Int) (now w b : Int) : (Int × Int × Int × Bool × Int × Int) × Bool × Bool :=
  if dlOk x && (decide (0 ≤ now ∧ now ≤ 100000) && (decide (0 ≤ w ∧ w ≤ 100000) && decide (0 ≤ b ∧ b ≤ 100000))) then
    if dlOk (stV x now w b).1 then ((stV x now w b).1, (stV x now w b).2, true) else ((0, 0, 0, false, 0, 0), false, false)
  else ((0, 0, 0, false, 0, 0), false, false)

theorem q_DelayStep {d : Nat} {x : Int × Int × Int × Bool × Int × Int} {now w b : Int} : g32 (d + 6) x now w b = some (dsV x now w b) := by
  rw [e32]; unfold j32_0 dsV
  simp only [q_IsDelay, q_isTicks, ob_s]
  cases hx : dlOk x with
  | false => rfl
  | true =>
  by_cases hn : 0 ≤ now ∧ now ≤ 100000
  case neg => rw [decide_eq_false hn]; rfl
  rw [decide_eq_true hn]
  cases decide (0 ≤ w ∧ w ≤ 100000) with
  | false => rfl
  | true =>
  cases decide (0 ≤ b ∧ b ≤ 100000) with
  | false => rfl
  | true =>
  simp only [Bool.not_true, oif_f, Bool.and_self, if_true, q_step hx hn, ob_s]
  cases dlOk (stV x now w b).1 <;> rfl

theorem q_sDelayStep {d : Nat} {x : Int × Int × Int × Bool × Int × Int} {now w b : Int} : g33 (d + 4) x now w b = some (dsV x now w b) := by
  rw [e33]; unfold j33_0 dsV
  simp only [q_cdGood, q_cdTick, ob_s]
  cases hx : dlOk x with
  | false => rfl
  | true =>
  by_cases hn : 0 ≤ now ∧ now ≤ 100000
  case neg => rw [decide_eq_false hn]; rfl
  rw [decide_eq_true hn]
  cases decide (0 ≤ w ∧ w ≤ 100000) with
  | false => rfl
  | true =>
  cases decide (0 ≤ b ∧ b ≤ 100000) with
  | false => rfl
  | true =>
  simp only [Bool.not_true, oif_f, Bool.and_self, if_true, q_cdStep hx hn, ob_s]
  cases dlOk (stV x now w b).1 <;> rfl

theorem p_DrawRootOf {d : Nat} {x : List Int} (hx : Bytes x) : Ok (g34 (d + 4) x) fun _ => True := by
  rw [e34]
  refine Ok.bind (p_pick (CurOk.new hx) (by omega)) fun r hr => ?_
  exact Ok.bind (p_among hr.2.2 (by omega) (by simp)) fun v hv => Ok.some trivial

theorem p_DrawGapAfter {d : Nat} {x : List Int} (hx : Bytes x) : Ok (g37 (d + 4) x) fun _ => True := by
  rw [e37]
  refine Ok.bind (p_among (CurOk.new hx) (by omega) (by simp)) fun r hr => ?_
  exact Ok.bind (p_among hr.2 (by omega) (by simp)) fun v hv => Ok.some trivial

theorem p_DrawDropTimes {d : Nat} {x : List Int} (hx : Bytes x) : Ok (g40 (d + 4) x) fun _ => True := by
  rw [e40]
  refine Ok.bind (p_among (CurOk.new hx) (by omega) (by simp)) fun r hr => ?_
  exact Ok.bind (p_among hr.2 (by omega) (by simp)) fun v hv => Ok.some trivial

theorem p_DrawNewDelay {d : Nat} {x : List Int} (hx : Bytes x) : Ok (g43 (d + 4) x) fun _ => True := by
  rw [e43]
  refine Ok.bind (p_among (CurOk.new hx) (by omega) (by simp)) fun r hr => ?_
  exact Ok.bind (p_among hr.2 (by omega) (by simp)) fun v hv => Ok.some trivial

theorem p_delay0 {d m : Nat} {r2 r3 : Int × (List Int × Int × Int)} {c : List Int × Int × Int} {n8 n10 n11 : Int} {b9 : Bool} (hc : CurOk m c) (hm : m + 12 < 4611686018427387904) : Ok (j202_0 (d + 3) r2 r3 c.1 c.2.1 c.2.2 n8 b9 n10 n11) fun r => CurOk (m + 4) r.2 := by
  unfold j202_0
  refine Ok.bind (p_pick (c := c) hc (by omega)) fun r hr => ?_
  obtain ⟨_, _, hq⟩ := hr
  refine Ok.oif (fun _ => ?_) (fun _ => ?_)
  · exact Ok.bind (p_among hq (by omega) (by simp)) fun v hv => Ok.some (hv.2.mono (by omega))
  refine Ok.oif (fun _ => ?_) (fun _ => ?_)
  · exact Ok.bind (p_among hq (by omega) (by simp)) fun v hv => Ok.some (hv.2.mono (by omega))
  refine Ok.oif (fun _ => ?_) (fun _ => ?_)
  · exact Ok.bind (p_among hq (by omega) (by simp)) fun v hv => Ok.some (hv.2.mono (by omega))
  refine Ok.oif (fun _ => ?_) (fun _ => ?_)
  · exact Ok.bind (p_among hq (by omega) (by simp)) fun v hv => Ok.some (hv.2.mono (by omega))
  refine Ok.oif (fun _ => ?_) (fun _ => ?_)
  · exact Ok.bind (p_among hq (by omega) (by simp)) fun v hv => Ok.some (hv.2.mono (by omega))
  · exact Ok.some (hq.mono (by omega))

theorem p_delay {d m : Nat} {c : List Int × Int × Int} (hc : CurOk m c) (hm : m + 30 < 4611686018427387904) : Ok (g202 (d + 4) c) fun r => CurOk (m + 18) r.2 := by
  rw [e202]
  refine Ok.bind (p_among hc (by omega) (by simp)) fun r2 h2 => ?_
  refine Ok.bind (p_among h2.2 (by omega) (by simp)) fun r3 h3 => ?_
  refine Ok.bind (p_one h3.2 (by omega)) fun r4 h4 => ?_
  refine Ok.oif (fun _ => ?_) (fun _ => ?_)
  · refine Ok.bind (p_pick h4 (by omega)) fun r5 h5 => ?_
    refine Ok.bind (p_one h5.2.2 (by omega)) fun r6 h6 => ?_
    refine Ok.bind (p_among h6 (by omega) (by simp)) fun r7 h7 => ?_
    refine Ok.bind (p_pick h7.2 (by omega)) fun r8 h8 => ?_
    exact Ok.mono (p_delay0 h8.2.2 (by omega)) fun r hr => hr.mono (by omega)
  · exact Ok.mono (p_delay0 h4 (by omega)) fun r hr => hr.mono (by omega)

theorem p_DrawDelayStep {d : Nat} {x : List Int} (hx : Bytes x) : Ok (g31 (d + 5) x) fun _ => True := by
  rw [e31]
  refine Ok.bind (p_delay (CurOk.new hx) (by omega)) fun r hr => ?_
  refine Ok.bind (p_pick hr (by omega)) fun r3 h3 => ?_
  refine Ok.bind (p_pick h3.2.2 (by omega)) fun r4 h4 => ?_
  simp only [q_l1Most, ob_s]
  refine Ok.bind (p_among h4.2.2 (by omega) (by simp)) fun r8 h8 => ?_
  refine Ok.bind (p_among h8.2 (by omega) (by simp)) fun r9 h9 => ?_
  exact Ok.bind (p_among h9.2 (by omega) (by simp)) fun v hv => Ok.some trivial

end Go.Proofs.Ytcoojpojnmnboaa
