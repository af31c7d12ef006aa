/-
  What the cursor's functions and the small ones give by value.
  Conditions: the cursor has not been moved 2^62 times.
  Comparing and adding up lists of numbers; ranges.
  Conditions: the lists are shorter than the fuel.
  Controllers of delay: roots, gaps, times of drops, steps, in both packages; the draws.
  Conditions: none, but those of the cursor for the draws.
  Runs of a controller of delay: arrivals, runs, waits, drops, in both packages; the draws.
  Conditions: none, but those of the cursor for the draws.
  Waits and drops of a run of a controller of delay, in both packages; the draws of runs.
  Conditions: none, but those of the cursor for the draws.
-/
import Derived.Test.YtcoojpojnmnboaaFnDelayRunsRes
import Derived.Test.YtcoojpojnmnboaaPKit2
set_option linter.all false
namespace Go.Proofs.Ytcoojpojnmnboaa
open Go.Ev Go.Pv

theorem p_next {d m : Nat} {c : List Int × Int × Int} (hc : CurOk m c) (hm : m < 4611686018427387904) : Ok (g352 (d + 1) c) fun r => 0 ≤ r.1 ∧ r.1 < 256 ∧ CurOk (m + 1) r.2 := by
  obtain ⟨hb, h0, h1⟩ := hc
  obtain ⟨code, at', seed⟩ := c
  simp only at hb h0 h1
  have hw : IntKind.i64.wrap (at' + 1) = at' + 1 := wr (by omega) (by omega)
  rw [e352]
  have fin : ∀ n : Int, (at' < code.length → 0 ≤ n ∧ n < 256) → Ok (j352_0 d (code, at', seed) n) fun r => 0 ≤ r.1 ∧ r.1 < 256 ∧ CurOk (m + 1) r.2 := by
    intro n hn
    unfold j352_0
    simp only [hw]
    refine Ok.oif (fun h => ?_) (fun h => ?_)
    · simp only [decide_eq_true_eq] at h
      obtain ⟨a, b⟩ := hn (by omega)
      exact Ok.some ⟨a, b, hb, by simp only; omega, by simp only; omega⟩
    · exact Ok.some ⟨(seedByte _).1, (seedByte _).2, hb, by simp only; omega, by simp only; omega⟩
  refine Ok.oif (fun h => ?_) (fun h => ?_)
  · simp only [decide_eq_true_eq] at h
    refine Ok.oif (fun _ => ?_) (fun h2 => by simp only [decide_eq_false_iff_not] at h2; omega)
    have hlt : at'.toNat < code.length := by omega
    simp only
    rw [List.getElem?_eq_getElem hlt]
    have hx := hb _ (List.getElem_mem hlt)
    refine Ok.bind (Ok.some rfl) (fun a ha => ?_)
    subst ha
    exact fin _ (fun _ => by rw [wr (by omega) (by omega)]; exact hx)
  · simp only [decide_eq_false_iff_not] at h
    exact fin 0 (fun h' => absurd h' h)

theorem p_pick {d m : Nat} {c : List Int × Int × Int} {n : Int} (hc : CurOk m c) (hm : m + 1 < 4611686018427387904) : Ok (g203 (d + 2) c n) fun r => 0 ≤ r.1 ∧ (r.1 < n ∨ r.1 = 0) ∧ CurOk (m + 2) r.2 := by
  rw [e203]
  refine Ok.oif (fun h => ?_) (fun h => ?_)
  · exact Ok.some ⟨by simp, .inr rfl, hc.mono (by omega)⟩
  · simp only [decide_eq_false_iff_not] at h
    refine Ok.bind (p_next hc (by omega)) (fun r hr => ?_)
    obtain ⟨h1, h2, h3⟩ := hr
    have hn : (n == 0) = false := by simp; omega
    refine Ok.oif (fun h4 => ?_) (fun h4 => ?_)
    · refine Ok.bind (p_next h3 (by omega)) (fun q hq => ?_)
      obtain ⟨h5, h6, h7⟩ := hq
      rw [hn]
      rw [wr (n := r.1 * 256) (by omega) (by omega), wr (by omega) (by omega)]
      exact Ok.some ⟨Int.tmod_nonneg _ (by omega), .inl (Int.tmod_lt_of_pos _ (by omega)), h7.mono (by omega)⟩
    · rw [hn]
      exact Ok.some ⟨Int.tmod_nonneg _ (by omega), .inl (Int.tmod_lt_of_pos _ (by omega)), h3.mono (by omega)⟩

theorem p_among {d m : Nat} {c : List Int × Int × Int} {l : List Int} (hc : CurOk m c) (hm : m + 1 < 4611686018427387904) (hl : 0 < l.length) : Ok (g190 (d + 3) c l) fun r => r.1 ∈ l ∧ CurOk (m + 2) r.2 := by
  rw [e190]
  refine Ok.bind (p_pick hc hm) (fun r hr => ?_)
  obtain ⟨h1, h2, h3⟩ := hr
  refine Ok.oif (fun _ => ?_) (fun h => by simp only [decide_eq_false_iff_not] at h; omega)
  have hlt : r.1.toNat < l.length := by omega
  rw [List.getElem?_eq_getElem hlt]
  exact Ok.bind (Ok.some rfl) (fun a ha => by subst ha; exact Ok.some ⟨List.getElem_mem hlt, h3⟩)

theorem p_one {d m : Nat} {c : List Int × Int × Int} {n : Int} (hc : CurOk m c) (hm : m + 1 < 4611686018427387904) : Ok (g230 (d + 3) c n) fun r => CurOk (m + 2) r.2 := by
  rw [e230]
  exact Ok.bind (p_pick hc hm) (fun r hr => Ok.some hr.2.2)

theorem q_l1In {d : Nat} {x y z : Int} : g211 (d + 1) x y z = some (decide (y ≤ x ∧ x ≤ z)) := by
  rw [e211]; simp only [oif_ss]; congr 1; rw [Bool.eq_iff_iff]; simp

theorem q_l1Least {d : Nat} {x y : Int} : g274 (d + 1) x y = some (min x y) := by
  rw [e274]; simp only [oif_ss]; congr 1; split <;> simp_all <;> omega

theorem q_isTicks {d : Nat} {x : Int} : g205 (d + 1) x = some (decide (0 ≤ x ∧ x ≤ 100000)) := by
  rw [e205]; simp only [oif_ss]; congr 1; rw [Bool.eq_iff_iff]; simp

def szOk (s : Int) : Bool := decide (1 ≤ s ∧ s ≤ 1500)

theorem q_l1Most {d : Nat} {x y : Int} : g204 (d + 1) x y = some (max x y) := by
  rw [e204]; simp only [oif_ss]; congr 1; simp only [decide_eq_true_eq]; split <;> omega

theorem q_qInts {d : Nat} {l : List Int} (hl : l.length < 4194304) : g46 (d + 1) l l = some true := by
  rw [e46, bne_self_eq_false, oif_f]
  refine (range_eq (fun (t : Bool) (i : Int) => (t, i)) l (fun x i t k => k t) (j46_0 d) ?_ ?_ (by rw [fuelN_eq]; exact hl) false).trans ?_
  · intro ag t i x hx; have hi := (List.getElem?_eq_some_iff.1 hx).1; simp only [l46_0, l46_0_b, ltl hx, bltl hx, nn, ofNat_toNat, hx, ob_s, oif_t]; rw [wr1 (by omega)]
    simp only [bne_self_eq_false, oif_f]
  · intro ag t; simp only [l46_0, l46_0_b, ltn, oif_f]
  · rw [rangeR_fold (f := fun _ _ t => t)]; rfl

def isRoot (n r : Int) : Prop := 0 ≤ r ∧ r * r ≤ n ∧ n < (r + 1) * (r + 1)

theorem lt_or_ge' (a b : Int) : a < b ∨ a ≥ b := by omega

theorem pow2_le {a : Nat} : ∀ (c : Nat), (2 : Int) ^ a ≤ 2 ^ (a + c)
  | 0 => Int.le_refl _
  | c + 1 => by
    have h := pow2_le (a := a) c
    have hp : (0 : Int) < 2 ^ a := Int.pow_pos (by omega)
    rw [← Nat.add_assoc, Int.pow_succ]; omega

theorem sq_le {a b : Int} (h0 : 0 ≤ a) (h : a ≤ b) : a * a ≤ b * b := Int.mul_le_mul h h h0 (by omega)

theorem root_unique {n r s : Int} (hr : isRoot n r) (hs : isRoot n s) : r = s := by
  obtain ⟨r0, r1, r2⟩ := hr; obtain ⟨s0, s1, s2⟩ := hs
  rcases Int.lt_trichotomy r s with h | h | h
  · have := sq_le (show (0 : Int) ≤ r + 1 by omega) (show r + 1 ≤ s by omega); omega
  · exact h
  · have := sq_le (show (0 : Int) ≤ s + 1 by omega) (show s + 1 ≤ r by omega); omega

/-- The root bit by bit. -/
def brF (n : Int) : Nat → Int → Int
  | 0, o => o
  | k + 1, o => if (o + 2 ^ k) * (o + 2 ^ k) ≤ n then brF n k (o + 2 ^ k) else brF n k o

theorem brF_root {n : Int} : ∀ (k : Nat) (o : Int), 0 ≤ o → o * o ≤ n → n < (o + 2 ^ k) * (o + 2 ^ k) → isRoot n (brF n k o)
  | 0, o, h0, h1, h2 => ⟨h0, h1, by simpa [brF] using h2⟩
  | k + 1, o, h0, h1, h2 => by
    have hp : (0 : Int) < 2 ^ k := Int.pow_pos (by omega)
    have e : (2 : Int) ^ (k + 1) = 2 ^ k + 2 ^ k := by rw [Int.pow_succ]; omega
    simp only [brF]
    split
    · rename_i h; exact brF_root k _ (by omega) h (by rw [e, ← Int.add_assoc] at h2; exact h2)
    · rename_i h; exact brF_root k o h0 h1 (by omega)

def rootV (n : Int) : Int := brF n 16 0

theorem rootV_root {n : Int} (h0 : 0 ≤ n) (h1 : n ≤ 1000000000) : isRoot n (rootV n) := brF_root 16 0 (by omega) (by omega) (by
  have : ((0 : Int) + 2 ^ 16) * (0 + 2 ^ 16) = 4294967296 := by decide
  omega)

theorem rootV_in {n : Int} (h0 : 0 ≤ n) (h1 : n ≤ 1000000000) : 0 ≤ rootV n ∧ rootV n ≤ 31622 := by
  obtain ⟨a, b, c⟩ := rootV_root h0 h1
  refine ⟨a, ?_⟩
  rcases lt_or_ge' 31622 (rootV n) with h | h
  · have := sq_le (show (0 : Int) ≤ 31623 by omega) (show (31623 : Int) ≤ rootV n by omega); omega
  · exact h

theorem q_cdRoot {d : Nat} {n : Int} (h0 : 0 ≤ n) (h1 : n ≤ 1000000000) : g212 (d + 1) n = some (rootV n) := by
  rw [e212]
  have gen : ∀ (k fuel : Nat) (o : Int), k < fuel → k ≤ 16 → 0 ≤ o → o * o ≤ n → o ≤ 65536 → iterP (l212_0 d n (j212_0 d)) fuel (o, if k = 0 then 0 else 2 ^ (k - 1)) = some (brF n k o) := by
    intro k
    induction k with
    | zero =>
      intro fuel o g1 _ _ _ _
      cases fuel with
      | zero => omega
      | succ f => simp [iterP, l212_0, l212_0_b, j212_0, oif, brF]
    | succ k ih =>
      intro fuel o g1 g2 g3 g4 g5
      cases fuel with
      | zero => omega
      | succ f =>
        have hp : (0 : Int) < 2 ^ k := Int.pow_pos (by omega)
        have hq : (2 : Int) ^ k ≤ 32768 := by
          have : (2 : Int) ^ k ≤ 2 ^ 15 := by
            have h := pow2_le (a := k) (15 - k)
            rwa [show k + (15 - k) = 15 by omega] at h
          have e : (2 : Int) ^ 15 = 32768 := by decide
          omega
        have ho : o ≤ 31622 := by
          rcases lt_or_ge' 31622 o with h | h
          · have := sq_le (show (0 : Int) ≤ 31623 by omega) (show (31623 : Int) ≤ o by omega); omega
          · exact h
        have hsq : 0 ≤ (o + 2 ^ k) * (o + 2 ^ k) ∧ (o + 2 ^ k) * (o + 2 ^ k) ≤ 100000 * 100000 :=
          ⟨Int.mul_nonneg (by omega) (by omega), sq_le (by omega) (by omega)⟩
        have hh : ((2 : Int) ^ k).tdiv 2 = if k = 0 then 0 else 2 ^ (k - 1) := by
          cases k with
          | zero => rfl
          | succ k =>
            rw [Int.tdiv_eq_ediv_of_nonneg (by omega), if_neg (by omega), Nat.add_sub_cancel, Int.pow_succ]
            exact Int.mul_ediv_cancel _ (by omega)
        have hb : 0 ≤ ((2 : Int) ^ k).tdiv 2 ∧ ((2 : Int) ^ k).tdiv 2 ≤ 2 ^ k := by
          rw [Int.tdiv_eq_ediv_of_nonneg (by omega)]; omega
        rw [if_neg (by omega), Nat.add_sub_cancel]
        simp only [iterP, l212_0, l212_0_b, brF]
        rw [decide_eq_true (show (2 : Int) ^ k > 0 from hp), oif_t, wr (n := o + 2 ^ k) (by omega) (by omega), wr (n := (o + 2 ^ k) * (o + 2 ^ k)) (by omega) (by omega), wr (n := ((2 : Int) ^ k).tdiv 2) (by omega) (by omega), hh]
        by_cases hc : (o + 2 ^ k) * (o + 2 ^ k) ≤ n
        · rw [decide_eq_true hc, oif_t, if_pos hc]
          exact ih f _ (by omega) (by omega) (by omega) hc (by omega)
        · rw [decide_eq_false hc, oif_f, if_neg hc]
          exact ih f _ (by omega) (by omega) g3 g4 g5
  exact gen 16 fuelN 0 (by rw [fuelN_eq]; omega) (by omega) (by omega) (by omega) (by omega)

theorem q_rootOf {d : Nat} {n : Int} (h0 : 0 ≤ n) (h1 : n ≤ 1000000000) : g210 (d + 3) n = some (rootV n) := by
  rw [e210]
  obtain ⟨r1, r2⟩ := rootV_in h0 h1
  obtain ⟨_, q1, q2⟩ := rootV_root h0 h1
  refine (search_ok (c := rootV n + 1) (top := 31623) (K := fun r => some (IntKind.i64.wrap (r - 1))) ?_ ?_ fuelN 0 31623 (by omega) (by omega) (by omega) (by omega) (by rw [fuelN_eq]; omega)).trans ?_
  · intro ag lo hi g1 g2 g3
    have hm : 0 ≤ (lo + hi) / 2 ∧ (lo + hi) / 2 ≤ 31623 := by omega
    have hsq : 0 ≤ (lo + hi) / 2 * ((lo + hi) / 2) ∧ (lo + hi) / 2 * ((lo + hi) / 2) ≤ 31623 * 31623 := ⟨Int.mul_nonneg (by omega) (by omega), sq_le (by omega) (by omega)⟩
    simp only [l210i220_0, l210i220_0_b]
    rw [decide_eq_true g3, oif_t, wr (n := lo + hi) (by omega) (by omega), Int.tdiv_eq_ediv_of_nonneg (by omega), wr (n := (lo + hi) / 2) (by omega) (by omega), wr (n := (lo + hi) / 2 * ((lo + hi) / 2)) (by omega) (by omega), wr (n := (lo + hi) / 2 - 1) (by omega) (by omega), wr (n := (lo + hi) / 2 + 1) (by omega) (by omega)]
    by_cases hc : rootV n + 1 ≤ (lo + hi) / 2
    · have := sq_le (show (0 : Int) ≤ rootV n + 1 by omega) hc
      rw [decide_eq_true (show (lo + hi) / 2 * ((lo + hi) / 2) > n by omega), oif_t, if_pos hc]
    · have := sq_le hm.1 (show (lo + hi) / 2 ≤ rootV n by omega)
      rw [decide_eq_false (show ¬ (lo + hi) / 2 * ((lo + hi) / 2) > n by omega), oif_f, if_neg hc]
  · intro ag lo hi g1 g2
    simp only [l210i220_0, l210i220_0_b]
    rw [decide_eq_false (by omega), oif_f]; rfl
  · rw [show rootV n + 1 - 1 = rootV n by omega, wr (by omega) (by omega)]

def rtV (n : Int) : Int × Bool := if decide (0 ≤ n ∧ n ≤ 1000000000) then (rootV n, true) else (0, false)

def ivOk (n : Int) : Bool := decide (1 ≤ n ∧ n ≤ 10000)

theorem q_isInterval {d : Nat} {n : Int} : g213 (d + 1) n = some (ivOk n) := by
  rw [e213]; simp only [oif_ss]; congr 1; rw [Bool.eq_iff_iff]; simp [ivOk]

theorem q_cdInterval {d : Nat} {n : Int} : g215 (d + 2) n = some (ivOk n) := by
  rw [e215, q_l1In, ob_s]; rfl

def gapV (i c : Int) : Int := max 1 (i / rootV c)

theorem root_pos {c : Int} (h0 : 1 ≤ c) (h1 : c ≤ 1000) : 1 ≤ rootV c ∧ rootV c ≤ 1000 := by
  obtain ⟨a, b, e⟩ := rootV_root (n := c) (by omega) (by omega)
  constructor
  · rcases lt_or_ge' (rootV c) 1 with h | h
    · rw [show rootV c = 0 by omega] at e; omega
    · exact h
  · rcases lt_or_ge' 1000 (rootV c) with h | h
    · have := sq_le (show (0 : Int) ≤ 1001 by omega) (show (1001 : Int) ≤ rootV c by omega); omega
    · exact h

theorem gapV_in {i c : Int} (hi : ivOk i = true) (h0 : 1 ≤ c) (h1 : c ≤ 1000) : 1 ≤ gapV i c ∧ gapV i c ≤ 10000 ∧ 0 ≤ i / rootV c ∧ i / rootV c ≤ 10000 := by
  simp only [ivOk, decide_eq_true_eq] at hi
  obtain ⟨r1, r2⟩ := root_pos h0 h1
  have h2 : 0 ≤ i / rootV c := Int.ediv_nonneg (by omega) (by omega)
  have h3 : i / rootV c ≤ i := Int.ediv_le_self _ (by omega)
  unfold gapV; omega

theorem gapV_less {i c : Int} (hi : ivOk i = true) (h0 : 1 ≤ c) (h1 : c < 1000) : gapV i (c + 1) ≤ gapV i c := by
  simp only [ivOk, decide_eq_true_eq] at hi
  obtain ⟨r1, r2⟩ := root_pos h0 (show c ≤ 1000 by omega)
  obtain ⟨s1, s2⟩ := root_pos (c := c + 1) (by omega) (by omega)
  obtain ⟨_, a, b⟩ := rootV_root (n := c) (by omega) (by omega)
  obtain ⟨_, a', b'⟩ := rootV_root (n := c + 1) (by omega) (by omega)
  have hle : rootV c ≤ rootV (c + 1) := by
    rcases lt_or_ge' (rootV (c + 1)) (rootV c) with h | h
    · have := sq_le (show (0 : Int) ≤ rootV (c + 1) + 1 by omega) (show rootV (c + 1) + 1 ≤ rootV c by omega); omega
    · exact h
  have : i / rootV (c + 1) ≤ i / rootV c := by
    rw [Int.le_ediv_iff_mul_le (by omega)]
    have e1 := Int.ediv_mul_le i (show rootV (c + 1) ≠ 0 by omega)
    have e2 : i / rootV (c + 1) * rootV c ≤ i / rootV (c + 1) * rootV (c + 1) := Int.mul_le_mul_of_nonneg_left hle (Int.ediv_nonneg (by omega) (by omega))
    omega
  unfold gapV; omega

theorem q_gapAfter {d : Nat} {i c : Int} (hi : ivOk i = true) (h0 : 1 ≤ c) (h1 : c ≤ 1000) : g214 (d + 4) i c = some (gapV i c) := by
  obtain ⟨r1, r2⟩ := root_pos h0 h1
  obtain ⟨_, _, g1, g2⟩ := gapV_in hi h0 h1
  simp only [ivOk, decide_eq_true_eq] at hi
  rw [e214, q_rootOf (by omega) (by omega), ob_s, show (rootV c == 0) = false by simp; omega, oif_f, Int.tdiv_eq_ediv_of_nonneg (by omega), wr (by omega) (by omega)]
  unfold gapV; congr 1; split <;> omega

theorem q_cdGap {d : Nat} {i c : Int} (hi : ivOk i = true) (h0 : 1 ≤ c) (h1 : c ≤ 1000) : g216 (d + 2) i c = some (gapV i c) := by
  obtain ⟨r1, r2⟩ := root_pos h0 h1
  obtain ⟨_, _, g1, g2⟩ := gapV_in hi h0 h1
  simp only [ivOk, decide_eq_true_eq] at hi
  rw [e216, q_cdRoot (by omega) (by omega), ob_s, show (rootV c == 0) = false by simp; omega, oif_f, Int.tdiv_eq_ediv_of_nonneg (by omega), wr (by omega) (by omega), q_l1Most, ob_s]; rfl

def gaV (i c : Int) : Int × Bool := if ivOk i && decide (1 ≤ c ∧ c ≤ 1000) then (gapV i c, true) else (0, false)

/-- The times of the next drops. -/
def dtF (i : Int) : Nat → Int → Nat → List Int
  | 0, _, _ => []
  | k + 1, a, c => (a + gapV i (c : Int)) :: dtF i k (a + gapV i (c : Int)) (c + 1)

theorem dtF_len {i : Int} : ∀ {k : Nat} {a : Int} {c : Nat}, (dtF i k a c).length = k
  | 0, _, _ => rfl
  | k + 1, a, c => by simp [dtF, dtF_len]

def dtV (i n : Int) : List Int × Bool := if ivOk i && decide (0 ≤ n ∧ n ≤ 40) then (dtF i n.toNat 0 1, true) else ([], false)

def dlOk (x : Int × Int × Int × Bool × Int × Int) : Bool := ivOk x.1 && (ivOk x.2.1 && decide (-1 ≤ x.2.2.1 ∧ x.2.2.1 ≤ 110000 ∧ 0 ≤ x.2.2.2.2.1 ∧ x.2.2.2.2.1 ≤ 1000 ∧ 0 ≤ x.2.2.2.2.2 ∧ x.2.2.2.2.2 ≤ 200000))

theorem dl_in2 {x : Int × Int × Int × Bool × Int × Int} (h : dlOk x = true) : (1 ≤ x.1 ∧ x.1 ≤ 10000) ∧ ivOk x.2.1 = true ∧ (1 ≤ x.2.1 ∧ x.2.1 ≤ 10000) ∧ -1 ≤ x.2.2.1 ∧ x.2.2.1 ≤ 110000 ∧ 0 ≤ x.2.2.2.2.1 ∧ x.2.2.2.2.1 ≤ 1000 ∧ 0 ≤ x.2.2.2.2.2 ∧ x.2.2.2.2.2 ≤ 200000 := by
  simp only [dlOk, Bool.and_eq_true, decide_eq_true_eq] at h
  have h1 := h.1; have h2 := h.2.1
  simp only [ivOk, decide_eq_true_eq] at h1 h2
  exact ⟨h1, h.2.1, h2, h.2.2⟩

theorem q_IsDelay {d : Nat} {x : Int × Int × Int × Bool × Int × Int} : g47 (d + 2) x = some (dlOk x) := by
  rw [e47]; simp only [q_isInterval, ob_s, oif_ss]; congr 1; rw [Bool.eq_iff_iff]; simp [dlOk]

theorem q_cdGood {d : Nat} {x : Int × Int × Int × Bool × Int × Int} : g207 (d + 3) x = some (dlOk x) := by
  rw [e207]; simp only [q_cdInterval, q_l1In, ob_s, oif_ss]; congr 1; rw [Bool.eq_iff_iff]; simp [dlOk]; omega

theorem q_cdTick {d : Nat} {x : Int} : g208 (d + 2) x = some (decide (0 ≤ x ∧ x ≤ 100000)) := by
  rw [e208, q_l1In, ob_s]

def ndV (a b : Int) : (Int × Int × Int × Bool × Int × Int) × Bool := if dlOk (a, b, (-1), false, 0, 0) then ((a, b, (-1), false, 0, 0), true) else ((0, 0, 0, false, 0, 0), false)

/-- The second half of a step. -/
def stB (x : Int × Int × Int × Bool × Int × Int) (now : Int) (too : Bool) (s : Int) : (Int × Int × Int × Bool × Int × Int) × Bool :=
  if too then
    if x.2.2.2.1 then
      if now < x.2.2.2.2.2 then ((x.1, x.2.1, s, true, x.2.2.2.2.1, x.2.2.2.2.2), false)
      else ((x.1, x.2.1, s, true, min 1000 (x.2.2.2.2.1 + 1), x.2.2.2.2.2 + gapV x.2.1 (min 1000 (x.2.2.2.2.1 + 1))), true)
    else if 1 ≤ x.2.2.2.2.1 - 2 ∧ now < x.2.2.2.2.2 + 8 * x.2.1 then ((x.1, x.2.1, s, true, x.2.2.2.2.1 - 2, now + gapV x.2.1 (x.2.2.2.2.1 - 2)), true)
    else ((x.1, x.2.1, s, true, 1, now + gapV x.2.1 1), true)
  else ((x.1, x.2.1, s, false, x.2.2.2.2.1, x.2.2.2.2.2), false)

def stL (x : Int × Int × Int × Bool × Int × Int) (w b : Int) : Bool := decide (x.1 ≤ w ∧ 1 ≤ b)

def stV (x : Int × Int × Int × Bool × Int × Int) (now w b : Int) : (Int × Int × Int × Bool × Int × Int) × Bool :=
  stB x now (stL x w b && decide (0 ≤ x.2.2.1 ∧ x.2.2.1 ≤ now)) (if stL x w b then (if x.2.2.1 < 0 then now + x.2.1 else x.2.2.1) else -1)

theorem q_step1 {d : Nat} {x : Int × Int × Int × Bool × Int × Int} {now s : Int} {too : Bool} (hx : dlOk x = true) (hn : 0 ≤ now ∧ now ≤ 100000) : j206_1 (d + 4) x now too s = some ((stB x now too s).2, (stB x now too s).1) := by
  obtain ⟨h1, h2, h3, h4, h5, h6, h7, h8, h9⟩ := dl_in2 hx
  obtain ⟨t, i, si, dr, c, nx⟩ := x
  simp only at h1 h2 h3 h4 h5 h6 h7 h8 h9
  unfold j206_1 stB
  cases too with
  | false => rfl
  | true =>
  simp only [Bool.not_true, oif_f, if_true]
  cases dr with
  | true =>
    simp only [oif_t, if_true]
    by_cases hc : now < nx
    · rw [decide_eq_true hc, oif_t, if_pos hc]
    · have em : (if IntKind.i64.wrap (c + 1) < 1000 then IntKind.i64.wrap (c + 1) else 1000) = min 1000 (c + 1) := by rw [wr (by omega) (by omega)]; split <;> omega
      obtain ⟨g1, g2, _⟩ := gapV_in h2 (c := min 1000 (c + 1)) (by omega) (by omega)
      rw [decide_eq_false hc, oif_f, if_neg hc, em, q_gapAfter h2 (by omega) (by omega), ob_s, wr (by omega) (by omega)]
  | false =>
    simp only [oif_f, Bool.false_eq_true, if_false]
    have e2 : IntKind.i64.wrap (c - 2) = c - 2 := wr (by omega) (by omega)
    have e8 : IntKind.i64.wrap (nx + IntKind.i64.wrap ((8 : Int) * i)) = nx + 8 * i := by rw [wr (n := 8 * i) (by omega) (by omega), wr (by omega) (by omega)]
    obtain ⟨p1, p2, _⟩ := gapV_in h2 (c := 1) (by omega) (by omega)
    have one : j206_0 (d + 4) (t, i, si, false, c, nx) now s false = some (true, (t, i, s, true, 1, now + gapV i 1)) := by
      unfold j206_0
      simp only [oif_f, q_gapAfter h2 (show (1 : Int) ≤ 1 by omega) (show (1 : Int) ≤ 1000 by omega), ob_s]
      rw [wr (by omega) (by omega)]
    rw [e2, e8]
    by_cases hc : c - 2 ≥ 1
    · rw [decide_eq_true hc, oif_t]
      by_cases hd : now < nx + 8 * i
      · obtain ⟨g1, g2, _⟩ := gapV_in h2 (c := c - 2) (by omega) (by omega)
        rw [decide_eq_true hd, if_pos ⟨hc, hd⟩]
        unfold j206_0
        simp only [oif_t, e2, q_gapAfter h2 (show 1 ≤ c - 2 by omega) (show c - 2 ≤ 1000 by omega), ob_s]
        rw [wr (by omega) (by omega)]
      · rw [decide_eq_false hd, if_neg (by omega)]; exact one
    · rw [decide_eq_false hc, oif_f, if_neg (by omega)]; exact one

theorem q_step {d : Nat} {x : Int × Int × Int × Bool × Int × Int} {now w b : Int} (hx : dlOk x = true) (hn : 0 ≤ now ∧ now ≤ 100000) : g206 (d + 5) x now w b = some ((stV x now w b).2, (stV x now w b).1) := by
  obtain ⟨h1, h2, h3, h4, h5, h6, h7, h8, h9⟩ := dl_in2 hx
  have main : ∀ (late : Bool), late = stL x w b → j206_3 (d + 4) x now late = some ((stV x now w b).2, (stV x now w b).1) := by
    intro late hl
    unfold j206_3 j206_2 stV
    rw [← hl]
    cases late with
    | false =>
      simp only [oif_f, Bool.not_false, oif_t, Bool.false_and, Bool.false_eq_true, if_false]
      exact q_step1 hx hn
    | true =>
      simp only [oif_t, Bool.not_true, oif_f, Bool.true_and, if_true]
      by_cases hs : x.2.2.1 < 0
      · have e0 : x.2.2.1 = -1 := by omega
        have e1 : (x.2.2.1 != -1) = false := by rw [e0]; rfl
        have e2 : (x.2.2.1 == -1) = true := by rw [e0]; rfl
        rw [e1, oif_f, e2, oif_t, if_pos hs, wr (by omega) (by omega), decide_eq_false (show ¬ (0 ≤ x.2.2.1 ∧ x.2.2.1 ≤ now) by omega)]
        exact q_step1 hx hn
      · have e1 : (x.2.2.1 != -1) = true := by rw [bne_iff_ne]; omega
        have e2 : (x.2.2.1 == -1) = false := by rw [beq_eq_false_iff_ne]; omega
        rw [e1, oif_t, e2, oif_f, if_neg hs]
        have e3 : decide (0 ≤ x.2.2.1 ∧ x.2.2.1 ≤ now) = decide (x.2.2.1 ≤ now) := by
          rw [Bool.eq_iff_iff]; simp only [decide_eq_true_eq]; omega
        rw [e3]
        exact q_step1 hx hn
  rw [e206]
  by_cases hw : w ≥ x.1
  · rw [decide_eq_true hw, oif_t]; refine main _ ?_
    unfold stL; rw [Bool.eq_iff_iff]; simp only [decide_eq_true_eq]; omega
  · rw [decide_eq_false hw, oif_f]; refine main _ ?_
    unfold stL; rw [decide_eq_false (by omega)]

theorem q_cdStep {d : Nat} {x : Int × Int × Int × Bool × Int × Int} {now w b : Int} (hx : dlOk x = true) (hn : 0 ≤ now ∧ now ≤ 100000) : g209 (d + 3) x now w b = some (stV x now w b) := by
  obtain ⟨h1, h2, h3, h4, h5, h6, h7, h8, h9⟩ := dl_in2 hx
  have half : ∀ (too : Bool) (s : Int), j209_2 (d + 2) x now too s = some (stB x now too s) := by
    intro too s
    obtain ⟨t, i, si, dr, c, nx⟩ := x
    simp only at h1 h2 h3 h4 h5 h6 h7 h8 h9
    unfold j209_2 j209_1 stB
    cases too with
    | false => rfl
    | true =>
    simp only [Bool.not_true, oif_f, if_true]
    cases dr with
    | true =>
      simp only [oif_t, if_true]
      by_cases hc : now < nx
      · rw [decide_eq_true hc, oif_t, if_pos hc]
      · obtain ⟨g1, g2, _⟩ := gapV_in h2 (c := min 1000 (c + 1)) (by omega) (by omega)
        rw [decide_eq_false hc, oif_f, if_neg hc, wr (n := c + 1) (by omega) (by omega), q_l1Least, ob_s, q_cdGap h2 (by omega) (by omega), ob_s, wr (by omega) (by omega)]
    | false =>
      simp only [oif_f, Bool.false_eq_true, if_false]
      have e2 : IntKind.i64.wrap (c - 2) = c - 2 := wr (by omega) (by omega)
      have e8 : IntKind.i64.wrap (nx + IntKind.i64.wrap ((8 : Int) * i)) = nx + 8 * i := by rw [wr (n := 8 * i) (by omega) (by omega), wr (by omega) (by omega)]
      obtain ⟨p1, p2, _⟩ := gapV_in h2 (c := 1) (by omega) (by omega)
      have one : j209_0 (d + 2) (t, i, si, false, c, nx) now true s true = some ((t, i, s, true, 1, now + gapV i 1), true) := by
        unfold j209_0
        simp only [oif_t, q_cdGap h2 (show (1 : Int) ≤ 1 by omega) (show (1 : Int) ≤ 1000 by omega), ob_s]
        rw [wr (by omega) (by omega)]
      rw [e2, e8]
      by_cases hc : c - 2 < 1
      · rw [decide_eq_true hc, oif_t, if_neg (by omega)]; exact one
      · rw [decide_eq_false hc, oif_f]
        by_cases hd : now ≥ nx + 8 * i
        · rw [decide_eq_true hd, if_neg (by omega)]; exact one
        · obtain ⟨g1, g2, _⟩ := gapV_in h2 (c := c - 2) (by omega) (by omega)
          rw [decide_eq_false hd, if_pos (by omega)]
          unfold j209_0
          simp only [oif_f, e2, q_cdGap h2 (show 1 ≤ c - 2 by omega) (show c - 2 ≤ 1000 by omega), ob_s]
          rw [wr (by omega) (by omega)]
  have main : ∀ (late : Bool), late = stL x w b → j209_4 (d + 2) x now late = some (stV x now w b) := by
    intro late hl
    unfold j209_4 j209_3 stV
    rw [← hl]
    cases late with
    | false =>
      simp only [oif_f, Bool.not_false, oif_t, Bool.false_and, Bool.false_eq_true, if_false]
      exact half _ _
    | true =>
      simp only [oif_t, Bool.not_true, oif_f, Bool.true_and, if_true]
      by_cases hs : x.2.2.1 < 0
      · rw [decide_eq_false (show ¬ x.2.2.1 ≥ 0 by omega), oif_f, decide_eq_true hs, oif_t, if_pos hs, wr (by omega) (by omega), decide_eq_false (show ¬ (0 ≤ x.2.2.1 ∧ x.2.2.1 ≤ now) by omega)]
        exact half _ _
      · have e3 : decide (0 ≤ x.2.2.1 ∧ x.2.2.1 ≤ now) = decide (x.2.2.1 ≤ now) := by
          rw [Bool.eq_iff_iff]; simp only [decide_eq_true_eq]; omega
        rw [decide_eq_true (show x.2.2.1 ≥ 0 by omega), oif_t, decide_eq_false hs, oif_f, if_neg hs, e3]
        exact half _ _
  rw [e209]
  by_cases hw : w ≥ x.1
  · rw [decide_eq_true hw, oif_t]; refine main _ ?_
    unfold stL; rw [Bool.eq_iff_iff]; simp only [decide_eq_true_eq]; omega
  · rw [decide_eq_false hw, oif_f]; refine main _ ?_
    unfold stL; rw [decide_eq_false (by omega)]

def dsV (x : Int × Int × Int × Bool × Int × Int) (now w b : Int) : (Int × Int × Int × Bool × Int × Int) × Bool × Bool :=
  if dlOk x && (decide (0 ≤ now ∧ now ≤ 100000) && (decide (0 ≤ w ∧ w ≤ 100000) && decide (0 ≤ b ∧ b ≤ 100000))) then
    if dlOk (stV x now w b).1 then ((stV x now w b).1, (stV x now w b).2, true) else ((0, 0, 0, false, 0, 0), false, false)
  else ((0, 0, 0, false, 0, 0), false, false)

theorem q_DelayStep {d : Nat} {x : Int × Int × Int × Bool × Int × Int} {now w b : Int} : g32 (d + 6) x now w b = some (dsV x now w b) := by
  rw [e32]; unfold j32_0 dsV
  simp only [q_IsDelay, q_isTicks, ob_s]
  cases hx : dlOk x with
  | false => rfl
  | true =>
  by_cases hn : 0 ≤ now ∧ now ≤ 100000
  case neg => rw [decide_eq_false hn]; rfl
  rw [decide_eq_true hn]
  cases decide (0 ≤ w ∧ w ≤ 100000) with
  | false => rfl
  | true =>
  cases decide (0 ≤ b ∧ b ≤ 100000) with
  | false => rfl
  | true =>
  simp only [Bool.not_true, oif_f, Bool.and_self, if_true, q_step hx hn, ob_s]
  cases dlOk (stV x now w b).1 <;> rfl

theorem p_delay0 {d m : Nat} {r2 r3 : Int × (List Int × Int × Int)} {c : List Int × Int × Int} {n8 n10 n11 : Int} {b9 : Bool} (hc : CurOk m c) (hm : m + 12 < 4611686018427387904) : Ok (j202_0 (d + 3) r2 r3 c.1 c.2.1 c.2.2 n8 b9 n10 n11) fun r => CurOk (m + 4) r.2 := by
  unfold j202_0
  refine Ok.bind (p_pick (c := c) hc (by omega)) fun r hr => ?_
  obtain ⟨_, _, hq⟩ := hr
  refine Ok.oif (fun _ => ?_) (fun _ => ?_)
  · exact Ok.bind (p_among hq (by omega) (by simp)) fun v hv => Ok.some (hv.2.mono (by omega))
  refine Ok.oif (fun _ => ?_) (fun _ => ?_)
  · exact Ok.bind (p_among hq (by omega) (by simp)) fun v hv => Ok.some (hv.2.mono (by omega))
  refine Ok.oif (fun _ => ?_) (fun _ => ?_)
  · exact Ok.bind (p_among hq (by omega) (by simp)) fun v hv => Ok.some (hv.2.mono (by omega))
  refine Ok.oif (fun _ => ?_) (fun _ => ?_)
  · exact Ok.bind (p_among hq (by omega) (by simp)) fun v hv => Ok.some (hv.2.mono (by omega))
  refine Ok.oif (fun _ => ?_) (fun _ => ?_)
  · exact Ok.bind (p_among hq (by omega) (by simp)) fun v hv => Ok.some (hv.2.mono (by omega))
  · exact Ok.some (hq.mono (by omega))

theorem p_delay {d m : Nat} {c : List Int × Int × Int} (hc : CurOk m c) (hm : m + 30 < 4611686018427387904) : Ok (g202 (d + 4) c) fun r => CurOk (m + 18) r.2 := by
  rw [e202]
  refine Ok.bind (p_among hc (by omega) (by simp)) fun r2 h2 => ?_
  refine Ok.bind (p_among h2.2 (by omega) (by simp)) fun r3 h3 => ?_
  refine Ok.bind (p_one h3.2 (by omega)) fun r4 h4 => ?_
  refine Ok.oif (fun _ => ?_) (fun _ => ?_)
  · refine Ok.bind (p_pick h4 (by omega)) fun r5 h5 => ?_
    refine Ok.bind (p_one h5.2.2 (by omega)) fun r6 h6 => ?_
    refine Ok.bind (p_among h6 (by omega) (by simp)) fun r7 h7 => ?_
    refine Ok.bind (p_pick h7.2 (by omega)) fun r8 h8 => ?_
    exact Ok.mono (p_delay0 h8.2.2 (by omega)) fun r hr => hr.mono (by omega)
  · exact Ok.mono (p_delay0 h4 (by omega)) fun r hr => hr.mono (by omega)

def arF : Int → List Int → Bool
  | _, [] => true
  | t, x :: r => decide (t ≤ x ∧ x ≤ 100000) && arF x r

def arOk (l : List Int) : Bool := arF 0 l && decide (((l.length : Nat) : Int) ≤ 40)

theorem ar_len {l : List Int} (h : arOk l = true) : l.length ≤ 40 := by
  simp only [arOk, Bool.and_eq_true, decide_eq_true_eq] at h; omega

theorem arF_in : ∀ {l : List Int} {t : Int}, arF t l = true → ∀ x ∈ l, t ≤ x ∧ x ≤ 100000
  | [], _, _, x, hx => by simp at hx
  | a :: r, t, h, x, hx => by
    simp only [arF, Bool.and_eq_true, decide_eq_true_eq] at h
    rcases List.mem_cons.1 hx with rfl | h2
    · exact h.1
    · have := arF_in h.2 x h2; omega

theorem arF_take {l : List Int} : ∀ {i : Nat} {t b : Int}, arF t l = true → l[i]? = some b → ∀ x ∈ l.take i, x ≤ b := by
  induction l with
  | nil => intro i t b _ h; simp at h
  | cons a r ih =>
    intro i t b h h2 x hx
    simp only [arF, Bool.and_eq_true, decide_eq_true_eq] at h
    cases i with
    | zero => simp at hx
    | succ i =>
      simp only [List.getElem?_cons_succ] at h2
      rw [List.take_succ_cons] at hx
      rcases List.mem_cons.1 hx with rfl | h3
      · have := arF_in h.2 b (List.mem_of_getElem? h2); omega
      · exact ih h.2 h2 x h3

theorem q_areArrivals {d : Nat} {l : List Int} (hl : l.length < 4194304) : g329 (d + 2) l = some (arOk l) := by
  rw [e329]
  let pv : Nat → Int := fun i => if i = 0 then 0 else l.getD (i - 1) 0
  refine (iter_eq (fun s => oif (arF (pv s.2.toNat) (l.drop s.2.toNat)) (j329_0 (d + 1) l false) (some false)) (fun s => l.length - s.2.toNat) (fun s => ∃ i : Nat, s = (false, (i : Int)) ∧ i ≤ l.length ∧ 0 ≤ pv i) ?_ fuelN (false, 0) ⟨0, rfl, by omega, by simp [pv]⟩ (by rw [fuelN_eq]; simp; omega)).trans ?_
  · rintro _ ag ⟨i, rfl, h1, h2⟩ hag
    simp only [l329_0, l329_0_b, ofNat_toNat]
    rcases Nat.lt_or_ge i l.length with hlt | hge
    · have hx : l[i]? = some l[i] := List.getElem?_eq_getElem hlt
      have hd := List.drop_eq_getElem_cons hlt
      have nx : pv (i + 1) = l[i] := by simp [pv, List.getD, hx]
      rw [ltl hx, oif_t, nn, oif_t, hx, ob_s, hd]
      simp only [arF, q_isTicks, ob_s]
      rw [wr1 (by omega)]
      have hn : 0 ≤ l[i] → ag (false, ((i + 1 : Nat) : Int)) = oif (arF l[i] (l.drop (i + 1))) (j329_0 (d + 1) l false) (some false) := fun h => by
        rw [hag (false, ((i + 1 : Nat) : Int)) ⟨i + 1, rfl, by omega, by rw [nx]; exact h⟩ (by simp only [ofNat_toNat]; omega)]
        simp only [ofNat_toNat, nx]
      have hp : decide ((i : Int) > 0) = true → decide (0 ≤ IntKind.i64.wrap ((i : Int) - 1)) = true ∧ l[(IntKind.i64.wrap ((i : Int) - 1)).toNat]? = some (l.getD (i - 1) 0) ∧ pv i = l.getD (i - 1) 0 := by
        intro h
        simp only [decide_eq_true_eq] at h
        have hi : i ≠ 0 := by omega
        have e1 : IntKind.i64.wrap ((i : Int) - 1) = ((i - 1 : Nat) : Int) := by rw [wr (by omega) (by omega)]; omega
        rw [e1, ofNat_toNat]
        refine ⟨by simp, ?_, by simp [pv, hi]⟩
        have : i - 1 < l.length := by omega
        simp [List.getD, List.getElem?_eq_getElem this]
      by_cases c1 : 0 ≤ l[i] ∧ l[i] ≤ 100000
      · rw [decide_eq_true c1]
        simp only [Bool.not_true, oif_f]
        cases c3 : decide ((i : Int) > 0) with
        | true =>
          obtain ⟨p1, p2, p3⟩ := hp c3
          rw [oif_t, p1, oif_t, p2, ob_s, p3]
          by_cases c4 : l[i] < l.getD (i - 1) 0
          · rw [decide_eq_true c4, oif_t, decide_eq_false (by omega)]; rfl
          · rw [decide_eq_false c4, oif_f, decide_eq_true (by omega), Bool.true_and]; exact hn (by omega)
        | false =>
          have hi : i = 0 := by simp at c3; omega
          have : pv i = 0 := by simp [pv, hi]
          rw [oif_f, decide_eq_true (by omega), Bool.true_and]; exact hn (by omega)
      · rw [decide_eq_false c1, decide_eq_false (show ¬ (pv i ≤ l[i] ∧ l[i] ≤ 100000) by omega)]
        simp only [Bool.not_false, oif_t, Bool.false_and, oif_f]
    · have : i = l.length := by omega
      subst this
      rw [ltn, oif_f, List.drop_length]; rfl
  · have e0 : pv 0 = 0 := by simp [pv]
    simp only [Int.toNat_zero, e0, List.drop_zero]
    unfold arOk j329_0; cases arF 0 l <;> rfl

theorem q_cdArrivals {d : Nat} {l : List Int} (hl : l.length < 4194304) : g331 (d + 3) l = some (arOk l) := by
  rw [e331]
  let pv : Nat → Int := fun i => if i = 0 then 0 else l.getD (i - 1) 0
  refine (iter_eq (fun s => oif (arF (pv s.2.toNat) (l.drop s.2.toNat)) (j331_0 (d + 2) l false) (some false)) (fun s => l.length - s.2.toNat) (fun s => ∃ i : Nat, s = (false, (i : Int)) ∧ i ≤ l.length ∧ 0 ≤ pv i) ?_ fuelN (false, 0) ⟨0, rfl, by omega, by simp [pv]⟩ (by rw [fuelN_eq]; simp; omega)).trans ?_
  · rintro _ ag ⟨i, rfl, h1, h2⟩ hag
    simp only [l331_0, l331_0_b, ofNat_toNat]
    rcases Nat.lt_or_ge i l.length with hlt | hge
    · have hx : l[i]? = some l[i] := List.getElem?_eq_getElem hlt
      have hd := List.drop_eq_getElem_cons hlt
      have nx : pv (i + 1) = l[i] := by simp [pv, List.getD, hx]
      rw [ltl hx, oif_t, nn, oif_t, hx, ob_s, hd]
      simp only [arF, q_cdTick, ob_s]
      rw [wr1 (by omega)]
      have hn : 0 ≤ l[i] → ag (false, ((i + 1 : Nat) : Int)) = oif (arF l[i] (l.drop (i + 1))) (j331_0 (d + 2) l false) (some false) := fun h => by
        rw [hag (false, ((i + 1 : Nat) : Int)) ⟨i + 1, rfl, by omega, by rw [nx]; exact h⟩ (by simp only [ofNat_toNat]; omega)]
        simp only [ofNat_toNat, nx]
      have hp : decide ((i : Int) > 0) = true → decide (0 ≤ IntKind.i64.wrap ((i : Int) - 1)) = true ∧ l[(IntKind.i64.wrap ((i : Int) - 1)).toNat]? = some (l.getD (i - 1) 0) ∧ pv i = l.getD (i - 1) 0 := by
        intro h
        simp only [decide_eq_true_eq] at h
        have hi : i ≠ 0 := by omega
        have e1 : IntKind.i64.wrap ((i : Int) - 1) = ((i - 1 : Nat) : Int) := by rw [wr (by omega) (by omega)]; omega
        rw [e1, ofNat_toNat]
        refine ⟨by simp, ?_, by simp [pv, hi]⟩
        have : i - 1 < l.length := by omega
        simp [List.getD, List.getElem?_eq_getElem this]
      by_cases c1 : 0 ≤ l[i] ∧ l[i] ≤ 100000
      · rw [decide_eq_true c1]
        simp only [Bool.not_true, oif_f]
        cases c3 : decide ((i : Int) > 0) with
        | true =>
          obtain ⟨p1, p2, p3⟩ := hp c3
          rw [oif_t, p1, oif_t, p2, ob_s, p3]
          by_cases c4 : l.getD (i - 1) 0 > l[i]
          · rw [decide_eq_true c4, oif_t, decide_eq_false (by omega)]; rfl
          · rw [decide_eq_false c4, oif_f, decide_eq_true (by omega), Bool.true_and]; exact hn (by omega)
        | false =>
          have hi : i = 0 := by simp at c3; omega
          have : pv i = 0 := by simp [pv, hi]
          rw [oif_f, decide_eq_true (by omega), Bool.true_and]; exact hn (by omega)
      · rw [decide_eq_false c1, decide_eq_false (show ¬ (pv i ≤ l[i] ∧ l[i] ≤ 100000) by omega)]
        simp only [Bool.not_false, oif_t, Bool.false_and, oif_f]
    · have : i = l.length := by omega
      subst this
      rw [ltn, oif_f, List.drop_length]; rfl
  · have e0 : pv 0 = 0 := by simp [pv]
    simp only [Int.toNat_zero, e0, List.drop_zero]
    unfold arOk j331_0; cases arF 0 l <;> rfl

theorem q_arrivedBy {d : Nat} {l : List Int} {n : Int} (hl : l.length < 4194304) : g330 (d + 1) l n = some (((l.takeWhile fun y => decide (y ≤ n)).length : Nat) : Int) := by
  rw [e330]
  have gen : ∀ (k fuel i : Nat), i + k = l.length → k < fuel → iterP (l330_0 d l n (j330_0 d)) fuel (i : Int) = some ((i + ((l.drop i).takeWhile fun y => decide (y ≤ n)).length : Nat) : Int) := by
    intro k
    induction k with
    | zero =>
      intro fuel i g1 g2
      cases fuel with
      | zero => omega
      | succ f =>
        have : i = l.length := by omega
        subst this
        simp only [iterP, l330_0, l330_0_b, j330_0]
        rw [ltn, oif_f, List.drop_length]; rfl
    | succ k ih =>
      intro fuel i g1 g2
      cases fuel with
      | zero => omega
      | succ f =>
        have hlt : i < l.length := by omega
        have hx : l[i]? = some l[i] := List.getElem?_eq_getElem hlt
        simp only [iterP, l330_0, l330_0_b]
        rw [ltl hx, oif_t, nn, oif_t, ofNat_toNat, hx, ob_s, List.drop_eq_getElem_cons hlt, List.takeWhile_cons]
        by_cases hc : l[i] ≤ n
        · rw [decide_eq_true hc, oif_t, if_pos rfl, wr1 (by omega), ih f (i + 1) (by omega) (by omega), List.length_cons]
          exact congrArg (fun n : Nat => some (n : Int)) (by omega)
        · rw [decide_eq_false hc, oif_f, if_neg (by simp)]; rfl
  have := gen l.length fuelN 0 (by omega) (by rw [fuelN_eq]; omega)
  rw [List.drop_zero, Nat.zero_add] at this
  exact this

/-- The next multiple. -/
def cl (a m : Int) : Int := (a + m - 1) / m * m

theorem cl_in {a m : Int} (ha : 0 ≤ a) (hm : 1 ≤ m) : a ≤ cl a m ∧ cl a m ≤ a + m - 1 := by
  have h1 := Int.ediv_mul_le (a + m - 1) (show m ≠ 0 by omega)
  have h2 := Int.lt_ediv_add_one_mul_self (a + m - 1) (show 0 < m by omega)
  rw [Int.add_mul] at h2
  unfold cl; omega

theorem cl_wr {a m : Int} (ha : 0 ≤ a ∧ a ≤ 100000) (hm : 1 ≤ m ∧ m ≤ 1000) : IntKind.i64.wrap ((IntKind.i64.wrap ((IntKind.i64.wrap ((IntKind.i64.wrap (a + m)) - 1)).tdiv m)) * m) = cl a m := by
  obtain ⟨c1, c2⟩ := cl_in ha.1 hm.1
  have h1 : 0 ≤ (a + m - 1) / m := Int.ediv_nonneg (by omega) (by omega)
  have h2 : (a + m - 1) / m ≤ a + m - 1 := Int.ediv_le_self _ (by omega)
  unfold cl at c1 c2 ⊢
  rw [wr (n := a + m) (by omega) (by omega), wr (n := a + m - 1) (by omega) (by omega), Int.tdiv_eq_ediv_of_nonneg (by omega), wr (n := (a + m - 1) / m) (by omega) (by omega), wr (by omega) (by omega)]

def atV (a f m : Int) : Int := if a > f then cl a m else f

theorem at_in {a f m : Int} (ha : 0 ≤ a ∧ a ≤ 100000) (hm : 1 ≤ m ∧ m ≤ 1000) (h0 : 0 ≤ f) (h1 : f ≤ 200000) : a ≤ atV a f m ∧ f ≤ atV a f m ∧ atV a f m ≤ 200000 := by
  obtain ⟨c1, c2⟩ := cl_in ha.1 hm.1
  unfold atV; split <;> omega

theorem mul_le {a b m : Int} (hm : 1 ≤ m) (h : a ≤ b) : a * m ≤ b * m := Int.mul_le_mul_of_nonneg_right h (by omega)

theorem mul_lt' {a b m : Int} (hm : 1 ≤ m) (h : a * m < b * m) : a < b := by
  rcases Int.lt_or_le a b with h2 | h2
  · exact h2
  · have := mul_le hm h2; omega

theorem at_mul {a f m q : Int} (hf : f = q * m) : ∃ p, atV a f m = p * m := by
  unfold atV; split
  · exact ⟨_, rfl⟩
  · exact ⟨q, hf⟩

theorem at_eq {a f m q : Int} (ha : 0 ≤ a ∧ a ≤ 100000) (hm : 1 ≤ m ∧ m ≤ 1000) (hf : f = q * m) : (if (IntKind.i64.wrap ((IntKind.i64.wrap ((IntKind.i64.wrap ((IntKind.i64.wrap (a + m)) - 1)).tdiv m)) * m)) > f then (IntKind.i64.wrap ((IntKind.i64.wrap ((IntKind.i64.wrap ((IntKind.i64.wrap (a + m)) - 1)).tdiv m)) * m)) else f) = atV a f m := by
  obtain ⟨c1, c2⟩ := cl_in ha.1 hm.1
  rw [cl_wr ha hm]
  unfold atV
  by_cases h : a > f
  · rw [if_pos (by omega), if_pos h]
  · have h1 : (a + m - 1) / m < q + 1 := Int.ediv_lt_of_lt_mul (by omega) (by rw [Int.add_mul]; omega)
    have h2 := mul_le hm.1 (show (a + m - 1) / m ≤ q by omega)
    unfold cl
    rw [if_neg (by omega), if_neg h]

theorem at_shift {b t m q : Int} (hb : 0 ≤ b) (hm : 1 ≤ m) (ht : t = q * m) (h : b > t) : atV b t m = atV b (t + m) m := by
  obtain ⟨c1, c2⟩ := cl_in hb hm
  unfold atV
  rw [if_pos h]
  by_cases h2 : b > t + m
  · rw [if_pos h2]
  · rw [if_neg h2]
    unfold cl at c1 c2 ⊢
    have e1 : (q + 1) * m = q * m + m := by rw [Int.add_mul]; omega
    have e2 : (q + 1 + 1) * m = q * m + m + m := by rw [Int.add_mul]; omega
    have p1 : q < (b + m - 1) / m := mul_lt' hm (by omega)
    have p2 : (b + m - 1) / m < q + 1 + 1 := mul_lt' hm (by omega)
    rw [show (b + m - 1) / m = q + 1 by omega]; omega

def leftV (r : List Int) (t : Int) : Int := ((r.takeWhile fun y => decide (y ≤ t)).length : Nat)

def runS (K : Int → (Int × Int × Int × Bool × Int × Int) → Option (List Int)) (m t : Int) (s : (Int × Int × Int × Bool × Int × Int) × Bool) : Option (List Int) :=
  if (decide (0 ≤ t ∧ t ≤ 100000) && dlOk s.1) = true then (if s.2 = true then (K t s.1).map (fun q => (-1 - t) :: q) else (K (t + m) s.1).map (fun q => t :: q)) else none

def runF (m : Int) : List Int → Int → (Int × Int × Int × Bool × Int × Int) → Option (List Int)
  | [], _, _ => some []
  | a :: r, f, x => runS (runF m r) m (atV a f m) (stV x (atV a f m) (atV a f m - a) (leftV r (atV a f m)))

def resV (out : List Int) : Option (List Int) → List Int × Bool
  | none => ([], false)
  | some q => (out ++ q, true)

theorem resV_map {out : List Int} {a : Int} {o : Option (List Int)} : resV out (o.map (fun q => a :: q)) = resV (out ++ [a]) o := by
  cases o <;> simp [resV]

theorem run_shift {m t q : Int} {r : List Int} {x : (Int × Int × Int × Bool × Int × Int)} (hm : 1 ≤ m) (hr : ∀ b ∈ r, 0 ≤ b) (ht : t = q * m) (h : ∀ b s, r = b :: s → b > t) : runF m r t x = runF m r (t + m) x := by
  cases r with
  | nil => rfl
  | cons b s => simp only [runF]; rw [at_shift (hr b (by simp)) hm ht (h b s rfl)]

theorem left_it {d : Nat} {l : List Int} {n : Int} {K : Int → Int → Int → Bool → Bool → Option (List Int × Bool)} {V : Int → Option (List Int × Bool)} (hK : ∀ c a b1 b2, K c a a b1 b2 = V c) (hl : l.length < 4194304) : ∀ (k fuel : Nat) (c : Int) (i : Nat), i + k = l.length → k < fuel → 0 ≤ c → c ≤ (i : Int) → iterP (l332_1 d l n K) fuel (c, (i : Int)) = V (c + (((l.drop i).takeWhile fun y => decide (y ≤ n)).length : Nat)) := by
  intro k
  induction k with
  | zero =>
    intro fuel c i g1 g2 _ _
    cases fuel with
    | zero => omega
    | succ f =>
      have : i = l.length := by omega
      subst this
      simp only [iterP, l332_1, l332_1_b, hK]
      rw [ltn, oif_f, List.drop_length]; simp
  | succ k ih =>
    intro fuel c i g1 g2 g3 g4
    cases fuel with
    | zero => omega
    | succ f =>
      have hlt : i < l.length := by omega
      have hx : l[i]? = some l[i] := List.getElem?_eq_getElem hlt
      simp only [iterP, l332_1, l332_1_b, hK]
      rw [ltl hx, oif_t, nn, oif_t, ofNat_toNat, hx, ob_s, List.drop_eq_getElem_cons hlt, List.takeWhile_cons]
      by_cases hc : l[i] ≤ n
      · rw [decide_eq_true hc, oif_t, if_pos rfl, wr1 (by omega), wr (n := c + 1) (by omega) (by omega), ih f (c + 1) (i + 1) (by omega) (by omega) (by omega) (by omega), List.length_cons]
        exact congrArg V (by omega)
      · rw [decide_eq_false hc, oif_f, if_neg (by simp)]; simp

theorem q_cdRun {d : Nat} {x : (Int × Int × Int × Bool × Int × Int)} {l : List Int} {m : Int} (hx : dlOk x = true) (hl : l.length ≤ 40) (ha : ∀ a ∈ l, 0 ≤ a ∧ a ≤ 100000) (hm : 1 ≤ m ∧ m ≤ 1000) : g332 (d + 4) x l m = some (resV [] (runF m l 0 x)) := by
  rw [e332]
  have gen : ∀ (k fuel : Nat) (out : List Int) (f : Int) (x : (Int × Int × Int × Bool × Int × Int)), out.length + k = l.length → k < fuel → 0 ≤ f → f ≤ 200000 → dlOk x = true → iterP (l332_0 (d + 3) l m (j332_0 (d + 3))) fuel (([] : List Int), false, out, f, x) = some (resV out (runF m (l.drop out.length) f x)) := by
    intro k
    induction k with
    | zero =>
      intro fuel out f x g1 g2 _ _ _
      cases fuel with
      | zero => omega
      | succ F =>
        simp only [iterP, l332_0, l332_0_b, j332_0]
        rw [List.drop_eq_nil_of_le (by omega), show l.length = out.length by omega, ltn, oif_f]
        simp [runF, resV]
    | succ k ih =>
      intro fuel out f x g1 g2 g3 g4 g5
      cases fuel with
      | zero => omega
      | succ F =>
        have hlt : out.length < l.length := by omega
        have hx1 : l[out.length]? = some l[out.length] := List.getElem?_eq_getElem hlt
        have hin := ha _ (List.getElem_mem hlt)
        have hm0 : (m == 0) = false := by rw [beq_eq_false_iff_ne]; omega
        obtain ⟨t1, t2, t3⟩ := at_in hin hm g3 g4
        have body : ∀ (t : Int) (bb : Bool), t = atV l[out.length] f m → j332_2 (d + 3) l m (iterP (l332_0 (d + 3) l m (j332_0 (d + 3))) F) [] false out x t bb = some (resV out (runF m (l[out.length] :: l.drop (out.length + 1)) f x)) := by
          intro t bb ht
          rw [← ht] at t1 t2 t3
          unfold j332_2
          rw [wr1 (by omega)]
          refine (left_it (V := fun c => j332_1 (d + 3) l m (iterP (l332_0 (d + 3) l m (j332_0 (d + 3))) F) [] false out x t c 0 0 false false) (fun _ _ _ _ => by simp only [j332_1]) (by omega) (l.length - (out.length + 1)) fuelN 0 (out.length + 1) (by omega) (by rw [fuelN_eq]; omega) (by omega) (by omega)).trans ?_
          have hr : runF m (l[out.length] :: l.drop (out.length + 1)) f x = runS (runF m (l.drop (out.length + 1))) m t (stV x t (t - l[out.length]) (leftV (l.drop (out.length + 1)) t)) := by rw [ht]; rfl
          rw [hr]
          unfold runS leftV
          simp only [Int.zero_add, j332_1, q_cdTick, ob_s]
          by_cases c1 : 0 ≤ t ∧ t ≤ 100000
          case neg =>
            rw [decide_eq_false c1]
            simp only [Bool.not_false, oif_t, Bool.false_and, Bool.false_eq_true, if_false, resV]
          simp only [decide_eq_true c1, Bool.not_true, oif_f, nn, oif_t, ofNat_toNat, hx1, ob_s, Bool.true_and]
          rw [wr (n := t - l[out.length]) (by omega) (by omega), q_cdStep g5 c1, ob_s, q_cdGood, ob_s]
          generalize stV x t (t - l[out.length]) _ = s
          obtain ⟨x2, b⟩ := s
          simp only
          cases hd : dlOk x2 with
          | false => simp only [Bool.not_false, oif_t, Bool.false_eq_true, if_false, resV]
          | true =>
          simp only [Bool.not_true, oif_f, if_true]
          have hrm : Nat.ble ((out.length + 1) * 8) roomMax = true := room (by omega)
          cases b with
          | true =>
            simp only [oif_t, if_true, List.length_singleton, hrm]
            rw [wr (n := -1 - t) (by omega) (by omega), ih F _ t x2 (by rw [List.length_append, List.length_singleton]; omega) (by omega) (by omega) (by omega) hd, List.length_append, List.length_singleton, resV_map]
          | false =>
            simp only [oif_f, oif_t, Bool.false_eq_true, if_false, List.length_singleton, hrm]
            rw [wr (n := t + m) (by omega) (by omega), ih F _ (t + m) x2 (by rw [List.length_append, List.length_singleton]; omega) (by omega) (by omega) (by omega) hd, List.length_append, List.length_singleton, resV_map]
        simp only [iterP, l332_0, l332_0_b]
        rw [List.drop_eq_getElem_cons hlt]
        by_cases hc : l[out.length] > f
        · simp only [ltl hx1, nn, oif_t, ofNat_toNat, hx1, ob_s, decide_eq_true hc, hm0, oif_f]
          rw [cl_wr hin hm]
          exact body _ true (by unfold atV; rw [if_pos hc])
        · simp only [ltl hx1, nn, oif_t, ofNat_toNat, hx1, ob_s, decide_eq_false hc, oif_f]
          exact body f false (by unfold atV; rw [if_neg hc])
  have := gen l.length fuelN [] 0 x (by simp) (by rw [fuelN_eq]; omega) (by omega) (by omega) hx
  rw [List.length_nil, List.drop_zero] at this
  exact this

def rnV (x : (Int × Int × Int × Bool × Int × Int)) (l : List Int) (m : Int) : List Int × Bool := if (dlOk x && (arOk l && decide (1 ≤ m ∧ m ≤ 1000))) = true then resV [] (runF m l 0 x) else ([], false)

theorem q_sRunDelay {d : Nat} {x : (Int × Int × Int × Bool × Int × Int)} {l : List Int} {m : Int} (hl : l.length < 4194304) : g159 (d + 5) x l m = some (rnV x l m) := by
  rw [e159, q_cdGood, ob_s]; unfold rnV
  cases hx : dlOk x with
  | false => rfl
  | true =>
  rw [Bool.not_true, oif_f, q_cdArrivals hl, ob_s]
  cases har : arOk l with
  | false => rfl
  | true =>
  rw [Bool.not_true, oif_f, q_l1In, ob_s]
  by_cases hm : 1 ≤ m ∧ m ≤ 1000
  case neg => rw [decide_eq_false hm]; rfl
  have har2 := har
  simp only [arOk, Bool.and_eq_true] at har2
  rw [decide_eq_true hm, Bool.not_true, oif_f, q_cdRun hx (ar_len har) (arF_in har2.1) hm, ob_s]; rfl

theorem run_it {d : Nat} {l : List Int} {m : Int} (hl : l.length ≤ 40) (hs : arF 0 l = true) (hm : 1 ≤ m ∧ m ≤ 1000) : ∀ (k fuel : Nat) (out : List Int) (f q : Int) (x : (Int × Int × Int × Bool × Int × Int)), out.length + k = l.length → k < fuel → 0 ≤ f → f ≤ 200000 → f = q * m → dlOk x = true → iterP (l158_0 (d + 6) l m (j158_0 (d + 6))) fuel (([] : List Int), false, out, f, x) = some (resV out (runF m (l.drop out.length) f x)) := by
  intro k
  induction k using Nat.strongRecOn with
  | ind k ih =>
  intro fuel out f q x g1 g2 g3 g4 g5 g6
  cases fuel with
  | zero => omega
  | succ F =>
  have ha := arF_in hs
  rcases Nat.lt_or_ge out.length l.length with hlt | hge
  case inr =>
    simp only [iterP, l158_0, l158_0_b, j158_0]
    rw [List.drop_eq_nil_of_le (by omega), show l.length = out.length by omega, ltn, oif_f]
    simp [runF, resV]
  have hx1 : l[out.length]? = some l[out.length] := List.getElem?_eq_getElem hlt
  have hin := ha _ (List.getElem_mem hlt)
  have hm0 : (m == 0) = false := by rw [beq_eq_false_iff_ne]; omega
  have hT := at_eq hin hm g5
  obtain ⟨t1, t2, t3⟩ := at_in hin hm g3 g4
  obtain ⟨p, hp⟩ := at_mul (a := l[out.length]) g5
  have hrun : ∀ r, runF m (l[out.length] :: r) f x = runF m (l[out.length] :: r) (atV l[out.length] f m) x := fun r => by
    have : atV l[out.length] (atV l[out.length] f m) m = atV l[out.length] f m := if_neg (by omega)
    simp only [runF]; rw [this]
  have hd0 : l.drop out.length = l[out.length] :: l.drop (out.length + 1) := List.drop_eq_getElem_cons hlt
  rw [hd0, hrun, ← hd0]
  have htk : ∀ y ∈ l.take out.length, (fun y => decide (y ≤ atV l[out.length] f m)) y = true := fun y hy => by
    have := arF_take hs hx1 y hy
    simp only [decide_eq_true_eq]; omega
  have tw : (l.takeWhile fun y => decide (y ≤ atV l[out.length] f m)).length = out.length + ((l.drop out.length).takeWhile fun y => decide (y ≤ atV l[out.length] f m)).length := by
    have h := List.takeWhile_append_of_pos (l₂ := l.drop out.length) htk
    rw [List.take_append_drop] at h
    rw [h, List.length_append, List.length_take]; omega
  have tc : 0 < ((l.drop out.length).takeWhile fun y => decide (y ≤ atV l[out.length] f m)).length := by
    rw [hd0, List.takeWhile_cons, decide_eq_true t1, if_pos rfl, List.length_cons]; omega
  have tn : (l.takeWhile fun y => decide (y ≤ atV l[out.length] f m)).length ≤ l.length := (List.takeWhile_sublist _).length_le
  simp only [iterP, l158_0, l158_0_b, ltl hx1, nn, oif_t, ofNat_toNat, hx1, ob_s, hm0, oif_f]
  rw [hT, q_arrivedBy (by omega), ob_s]
  generalize hN : (l.takeWhile fun y => decide (y ≤ atV l[out.length] f m)).length = N at tw tn ⊢
  generalize ht : atV l[out.length] f m = t at hT t1 t2 t3 hp tw tc ⊢
  have inner : ∀ (c fu : Nat) (o : List Int) (y : (Int × Int × Int × Bool × Int × Int)), o.length + c = N → c < fu → ((l.drop o.length).takeWhile fun y => decide (y ≤ t)).length = c → (out.length < o.length ∧ t ≤ 100000 ∨ 0 < c) → out.length ≤ o.length → dlOk y = true → iterP (l158_1 (d + 6) l m (iterP (l158_0 (d + 6) l m (j158_0 (d + 6))) F) f l[out.length] (N : Int)) fu (([] : List Int), false, o, y) = some (resV o (runF m (l.drop o.length) t y)) := by
    intro c
    induction c with
    | zero =>
      intro fu o y h1 h2 h3 h4 h5 h6
      cases fu with
      | zero => omega
      | succ fu =>
        simp only [iterP, l158_1, l158_1_b]
        rw [show N = o.length by omega, ltn, oif_f, hT, wr (n := t + m) (by omega) (by omega), ih (l.length - o.length) (by omega) F o (t + m) (p + 1) y (by omega) (by omega) (by omega) (by omega) (by rw [Int.add_mul, hp]; omega) h6]
        rw [← run_shift hm.1 (fun b hb => (ha b (List.mem_of_mem_drop hb)).1) hp (fun b s e => by
          rcases Int.lt_or_le t b with h | h
          · exact h
          · rw [e, List.takeWhile_cons, decide_eq_true h, if_pos rfl, List.length_cons] at h3; omega)]
    | succ c ihc =>
      intro fu o y h1 h2 h3 h4 h5 h6
      cases fu with
      | zero => omega
      | succ fu =>
        have hlo : o.length < l.length := by omega
        have hxo : l[o.length]? = some l[o.length] := List.getElem?_eq_getElem hlo
        have hio := ha _ (List.getElem_mem hlo)
        have hdo : l.drop o.length = l[o.length] :: l.drop (o.length + 1) := List.drop_eq_getElem_cons hlo
        rw [hdo, List.takeWhile_cons] at h3
        have hbt : l[o.length] ≤ t := by
          rcases Int.lt_or_le t l[o.length] with h | h
          · rw [decide_eq_false (by omega), if_neg (by simp)] at h3; simp at h3
          · exact h
        rw [decide_eq_true hbt, if_pos rfl, List.length_cons] at h3
        have h3 : ((l.drop (o.length + 1)).takeWhile fun y => decide (y ≤ t)).length = c := by omega
        have hr : runF m (l.drop o.length) t y = runS (runF m (l.drop (o.length + 1))) m t (stV y t (t - l[o.length]) (c : Int)) := by
          have e1 : atV l[o.length] t m = t := if_neg (by omega)
          have e2 : leftV (l.drop (o.length + 1)) t = (c : Int) := by unfold leftV; rw [h3]
          rw [hdo]; simp only [runF]; rw [e1, e2]
        rw [hr]
        simp only [iterP, l158_1, l158_1_b, hT, nn, oif_t, ofNat_toNat, hxo, ob_s]
        rw [decide_eq_true (show ((o.length : Nat) : Int) < (N : Int) by omega), oif_t, wr (n := t - l[o.length]) (by omega) (by omega), wr (n := (N : Int) - ((o.length : Nat) : Int)) (by omega) (by omega), wr (n := (N : Int) - ((o.length : Nat) : Int) - 1) (by omega) (by omega), show (N : Int) - ((o.length : Nat) : Int) - 1 = (c : Int) by omega, q_DelayStep, ob_s]
        unfold runS dsV
        by_cases c1 : 0 ≤ t ∧ t ≤ 100000
        case neg =>
          rw [decide_eq_false c1]
          simp only [Bool.false_and, Bool.and_false, Bool.false_eq_true, if_false, Bool.not_false, oif_t, resV]
        rw [h6, decide_eq_true c1, decide_eq_true (show 0 ≤ t - l[o.length] ∧ t - l[o.length] ≤ 100000 by omega), decide_eq_true (show 0 ≤ (c : Int) ∧ (c : Int) ≤ 100000 by omega)]
        generalize stV y t (t - l[o.length]) (c : Int) = s
        obtain ⟨x2, b⟩ := s
        simp only [Bool.and_self, Bool.true_and, if_true]
        cases hd : dlOk x2 with
        | false => simp only [Bool.not_false, oif_t, Bool.false_eq_true, if_false, resV]
        | true =>
        simp only [Bool.not_true, oif_f, if_true]
        have hrm : Nat.ble ((o.length + 1) * 8) roomMax = true := room (by omega)
        cases b with
        | false =>
          simp only [Bool.not_false, oif_t, Bool.false_eq_true, if_false, List.length_singleton, hrm]
          rw [wr (n := t + m) (by omega) (by omega), ih (l.length - (o.length + 1)) (by omega) F (o ++ [t]) (t + m) (p + 1) x2 (by rw [List.length_append, List.length_singleton]; omega) (by omega) (by omega) (by omega) (by rw [Int.add_mul, hp]; omega) hd, List.length_append, List.length_singleton, resV_map]
        | true =>
          simp only [Bool.not_true, oif_f, oif_t, if_true, List.length_singleton, hrm]
          rw [wr (n := -1 - t) (by omega) (by omega), ihc fu (o ++ [-1 - t]) x2 (by rw [List.length_append, List.length_singleton]; omega) (by omega) (by rw [List.length_append, List.length_singleton]; exact h3) (.inl ⟨by rw [List.length_append, List.length_singleton]; omega, c1.2⟩) (by rw [List.length_append, List.length_singleton]; omega) hd, List.length_append, List.length_singleton, resV_map]
  exact inner _ fuelN out x tw.symm (by rw [fuelN_eq]; omega) rfl (.inr tc) (Nat.le_refl _) g6

theorem q_RunDelay {d : Nat} {x : (Int × Int × Int × Bool × Int × Int)} {l : List Int} {m : Int} (hl : l.length < 4194304) : g158 (d + 7) x l m = some (rnV x l m) := by
  rw [e158, q_IsDelay, ob_s]; unfold rnV j158_1
  cases hx : dlOk x with
  | false => rfl
  | true =>
  rw [Bool.not_true, oif_f, q_areArrivals hl, ob_s]
  cases har : arOk l with
  | false => rfl
  | true =>
  rw [Bool.not_true, oif_f]
  by_cases hm : 1 ≤ m ∧ m ≤ 1000
  case neg =>
    rw [decide_eq_false hm]
    by_cases h1 : m < 1
    · rw [decide_eq_true h1]; rfl
    · rw [decide_eq_false h1, decide_eq_true (show m > 1000 by omega)]; rfl
  have har2 := har
  simp only [arOk, Bool.and_eq_true] at har2
  rw [decide_eq_false (show ¬ m < 1 by omega), oif_f, decide_eq_false (show ¬ m > 1000 by omega), oif_f, decide_eq_true hm, if_pos (by rfl)]
  have := run_it (d := d) (ar_len har) har2.1 hm l.length fuelN [] 0 0 x (by simp) (by rw [fuelN_eq]; have := ar_len har; omega) (by omega) (by omega) (by omega) hx
  rw [List.length_nil, List.drop_zero] at this
  exact this

def Sm (l : List Int) : Prop := ∀ x ∈ l, -200000 ≤ x ∧ x ≤ 200000

def lft (n : Int) : Int := if n < 0 then -1 - n else n

def wtF : List Int → List Int → Option (List Int)
  | a :: r, b :: s => if (decide (0 ≤ lft b ∧ lft b ≤ 100000) && decide (a ≤ lft b)) = true then (wtF r s).map (fun q => (lft b - a) :: q) else none
  | _, _ => some []

def wtV (l1 l2 : List Int) : List Int × Bool := if (arOk l1 && !((((l2.length : Nat) : Int)) != ((l1.length : Nat) : Int))) = true then resV [] (wtF l1 l2) else ([], false)

theorem q_WaitsOfRun {d : Nat} {l1 l2 : List Int} (h1 : l1.length < 4194304) (hs : Sm l2) : g161 (d + 3) l1 l2 = some (wtV l1 l2) := by
  rw [e161, q_areArrivals h1, ob_s]; unfold wtV j161_3
  cases har : arOk l1 with
  | false => rfl
  | true =>
  rw [Bool.not_true, oif_f, Bool.true_and]
  cases hne : (((l2.length : Nat) : Int) != ((l1.length : Nat) : Int)) with
  | true => rfl
  | false =>
  rw [oif_f, Bool.not_false, if_pos rfl]
  have hl : l2.length = l1.length := by
    rw [bne_eq_false_iff_eq] at hne; omega
  have h40 := ar_len har
  have har2 := har
  simp only [arOk, Bool.and_eq_true] at har2
  have ha := arF_in har2.1
  have gen : ∀ (k fuel : Nat) (out : List Int), out.length + k = l2.length → k < fuel → iterP (l161_0 (d + 2) l1 l2 (j161_0 (d + 2))) fuel (([] : List Int), false, out, ((out.length : Nat) : Int)) = some (resV out (wtF (l1.drop out.length) (l2.drop out.length))) := by
    intro k
    induction k with
    | zero =>
      intro fuel out g1 g2
      cases fuel with
      | zero => omega
      | succ F =>
        simp only [iterP, l161_0, l161_0_b, j161_0]
        rw [show l2.drop out.length = [] from List.drop_eq_nil_of_le (by omega), show l1.drop out.length = [] from List.drop_eq_nil_of_le (by omega), show l2.length = out.length by omega, ltn, oif_f]
        simp [wtF, resV]
    | succ k ih =>
      intro fuel out g1 g2
      cases fuel with
      | zero => omega
      | succ F =>
        have hlt1 : out.length < l1.length := by omega
        have hlt2 : out.length < l2.length := by omega
        have hx1 : l1[out.length]? = some l1[out.length] := List.getElem?_eq_getElem hlt1
        have hx2 : l2[out.length]? = some l2[out.length] := List.getElem?_eq_getElem hlt2
        have hin := ha _ (List.getElem_mem hlt1)
        have hb := hs _ (List.getElem_mem hlt2)
        have body : ∀ (t : Int) (bb : Bool), t = lft l2[out.length] → j161_2 (d + 2) l1 (iterP (l161_0 (d + 2) l1 l2 (j161_0 (d + 2))) F) [] false out ((out.length : Nat) : Int) t bb = some (resV out (wtF (l1[out.length] :: l1.drop (out.length + 1)) (l2[out.length] :: l2.drop (out.length + 1)))) := by
          intro t bb ht
          unfold j161_2
          simp only [wtF]
          rw [← ht, q_isTicks, ob_s]
          by_cases c1 : 0 ≤ t ∧ t ≤ 100000
          case neg =>
            rw [decide_eq_false c1]
            simp only [Bool.not_false, oif_t, Bool.false_and, Bool.false_eq_true, if_false, resV, j161_1]
          simp only [decide_eq_true c1, Bool.not_true, oif_f, nn, oif_t, ofNat_toNat, hx1, ob_s, Bool.true_and, j161_1]
          by_cases c2 : t < l1[out.length]
          · rw [decide_eq_true c2, oif_t, decide_eq_false (show ¬ l1[out.length] ≤ t by omega)]
            simp only [Bool.false_eq_true, if_false, resV]
          · have hrm : Nat.ble ((out.length + 1) * 8) roomMax = true := room (by omega)
            rw [decide_eq_false c2, oif_f, decide_eq_true (show l1[out.length] ≤ t by omega), if_pos rfl, resV_map]
            have := ih F (out ++ [t - l1[out.length]]) (by rw [List.length_append, List.length_singleton]; omega) (by omega)
            rw [List.length_append, List.length_singleton] at this
            simp only [List.length_singleton, hrm, oif_t]
            rw [wr (n := t - l1[out.length]) (by omega) (by omega), wr1 (by omega), this]
        simp only [iterP, l161_0, l161_0_b]
        rw [List.drop_eq_getElem_cons hlt1, List.drop_eq_getElem_cons hlt2]
        simp only [ltl hx2, nn, oif_t, ofNat_toNat, hx2, ob_s]
        by_cases hc : l2[out.length] < 0
        · rw [decide_eq_true hc, oif_t, wr (by omega) (by omega)]
          exact body _ true (by unfold lft; rw [if_pos hc])
        · rw [decide_eq_false hc, oif_f]
          exact body _ false (by unfold lft; rw [if_neg hc])
  have := gen l2.length fuelN [] (by simp) (by rw [fuelN_eq]; omega)
  rw [List.length_nil, List.drop_zero, List.drop_zero] at this
  exact this

theorem q_cdLeft {d : Nat} {b : Int} (hb : -200000 ≤ b ∧ b ≤ 200000) : g334 (d + 1) b = some (lft b) := by
  rw [e334]; unfold lft
  by_cases h : b < 0
  · rw [decide_eq_true h, oif_t, if_pos h, wr (by omega) (by omega)]
  · rw [decide_eq_false h, oif_f, if_neg h]

theorem lft_in {b : Int} : decide (-100001 ≤ b ∧ b ≤ 100000) = decide (0 ≤ lft b ∧ lft b ≤ 100000) := by
  rw [Bool.eq_iff_iff]; simp only [decide_eq_true_eq]; unfold lft
  by_cases h : b < 0
  · rw [if_pos h]; omega
  · rw [if_neg h]; omega

theorem q_sWaitsOfRun {d : Nat} {l1 l2 : List Int} (h1 : l1.length < 4194304) (hs : Sm l2) : g162 (d + 4) l1 l2 = some (wtV l1 l2) := by
  rw [e162, q_cdArrivals h1, ob_s]; unfold wtV j162_2
  cases har : arOk l1 with
  | false => rfl
  | true =>
  rw [Bool.not_true, oif_f, Bool.true_and]
  cases hne : (((l2.length : Nat) : Int) != ((l1.length : Nat) : Int)) with
  | true => rfl
  | false =>
  rw [oif_f, Bool.not_false, if_pos rfl]
  have hl : l2.length = l1.length := by
    rw [bne_eq_false_iff_eq] at hne; omega
  have h40 := ar_len har
  have har2 := har
  simp only [arOk, Bool.and_eq_true] at har2
  have ha := arF_in har2.1
  have gen : ∀ (k fuel : Nat) (out : List Int), out.length + k = l2.length → k < fuel → iterP (l162_0 (d + 3) l1 l2 (j162_0 (d + 3))) fuel (([] : List Int), false, out, ((out.length : Nat) : Int)) = some (resV out (wtF (l1.drop out.length) (l2.drop out.length))) := by
    intro k
    induction k with
    | zero =>
      intro fuel out g1 g2
      cases fuel with
      | zero => omega
      | succ F =>
        simp only [iterP, l162_0, l162_0_b, j162_0]
        rw [show l2.drop out.length = [] from List.drop_eq_nil_of_le (by omega), show l1.drop out.length = [] from List.drop_eq_nil_of_le (by omega), show l2.length = out.length by omega, ltn, oif_f]
        simp [wtF, resV]
    | succ k ih =>
      intro fuel out g1 g2
      cases fuel with
      | zero => omega
      | succ F =>
        have hlt1 : out.length < l1.length := by omega
        have hlt2 : out.length < l2.length := by omega
        have hx1 : l1[out.length]? = some l1[out.length] := List.getElem?_eq_getElem hlt1
        have hx2 : l2[out.length]? = some l2[out.length] := List.getElem?_eq_getElem hlt2
        have hin := ha _ (List.getElem_mem hlt1)
        have hb := hs _ (List.getElem_mem hlt2)
        simp only [iterP, l162_0, l162_0_b]
        rw [List.drop_eq_getElem_cons hlt1, List.drop_eq_getElem_cons hlt2]
        simp only [ltl hx2, nn, oif_t, ofNat_toNat, hx2, ob_s, hx1, q_l1In, lft_in, q_cdLeft hb, wtF, j162_1]
        generalize lft l2[out.length] = t
        by_cases c1 : 0 ≤ t ∧ t ≤ 100000
        case neg =>
          rw [decide_eq_false c1]
          simp only [Bool.not_false, oif_t, Bool.false_and, Bool.false_eq_true, if_false, resV]
        simp only [decide_eq_true c1, Bool.not_true, oif_f, Bool.true_and]
        by_cases c2 : t < l1[out.length]
        · rw [decide_eq_true c2, oif_t, decide_eq_false (show ¬ l1[out.length] ≤ t by omega)]
          simp only [Bool.false_eq_true, if_false, resV]
        · have hrm : Nat.ble ((out.length + 1) * 8) roomMax = true := room (by omega)
          rw [decide_eq_false c2, oif_f, decide_eq_true (show l1[out.length] ≤ t by omega), if_pos rfl, resV_map]
          have := ih F (out ++ [t - l1[out.length]]) (by rw [List.length_append, List.length_singleton]; omega) (by omega)
          rw [List.length_append, List.length_singleton] at this
          simp only [List.length_singleton, hrm, oif_t]
          rw [wr (n := t - l1[out.length]) (by omega) (by omega), wr1 (by omega), this]
  have := gen l2.length fuelN [] (by simp) (by rw [fuelN_eq]; omega)
  rw [List.length_nil, List.drop_zero, List.drop_zero] at this
  exact this

def dnF : List Int → Int → Int
  | [], t => t
  | x :: r, t => dnF r (if x < 0 then t + 1 else t)

def dnV (l : List Int) : Int × Bool := if decide (((l.length : Nat) : Int) > 40) = true then (0, false) else (dnF l 0, true)

theorem q_DropsIn {d : Nat} {l : List Int} : g164 (d + 1) l = some (dnV l) := by
  rw [e164]; unfold dnV
  cases h : decide (((l.length : Nat) : Int) > 40) with
  | true => rfl
  | false =>
  simp only [decide_eq_false_iff_not] at h
  rw [oif_f, if_neg (by simp)]
  have gen : ∀ (k fuel i : Nat) (t : Int), i + k = l.length → k < fuel → 0 ≤ t → t ≤ (i : Int) → iterP (l164_0 d l (j164_0 d)) fuel (t, (i : Int)) = some (dnF (l.drop i) t, true) := by
    intro k
    induction k with
    | zero =>
      intro fuel i t g1 g2 _ _
      cases fuel with
      | zero => omega
      | succ f =>
        have : i = l.length := by omega
        subst this
        simp only [iterP, l164_0, l164_0_b, j164_0]
        rw [ltn, oif_f, List.drop_length]; rfl
    | succ k ih =>
      intro fuel i t g1 g2 g3 g4
      cases fuel with
      | zero => omega
      | succ f =>
        have hlt : i < l.length := by omega
        have hx : l[i]? = some l[i] := List.getElem?_eq_getElem hlt
        simp only [iterP, l164_0, l164_0_b]
        rw [ltl hx, oif_t, nn, oif_t, ofNat_toNat, hx, ob_s, List.drop_eq_getElem_cons hlt, wr1 (by omega), wr (n := t + 1) (by omega) (by omega)]
        simp only [dnF]
        by_cases hc : l[i] < 0
        · rw [decide_eq_true hc, oif_t, if_pos hc]; exact ih f (i + 1) (t + 1) (by omega) (by omega) (by omega) (by omega)
        · rw [decide_eq_false hc, oif_f, if_neg hc]; exact ih f (i + 1) t (by omega) (by omega) (by omega) (by omega)
  have := gen l.length fuelN 0 0 (by omega) (by rw [fuelN_eq]; omega) (by omega) (by omega)
  rw [List.drop_zero] at this
  exact this

theorem q_sDropsIn {d : Nat} {l : List Int} : g165 (d + 1) l = some (dnV l) := by
  rw [e165]; unfold dnV
  cases h : decide (((l.length : Nat) : Int) > 40) with
  | true => rfl
  | false =>
  simp only [decide_eq_false_iff_not] at h
  rw [oif_f, if_neg (by simp)]
  have gen : ∀ (k fuel i : Nat) (t : Int), i + k = l.length → k < fuel → 0 ≤ t → t ≤ (i : Int) → iterP (l165_0 d l (j165_0 d)) fuel (t, (i : Int)) = some (dnF (l.drop i) t, true) := by
    intro k
    induction k with
    | zero =>
      intro fuel i t g1 g2 _ _
      cases fuel with
      | zero => omega
      | succ f =>
        have : i = l.length := by omega
        subst this
        simp only [iterP, l165_0, l165_0_b, j165_0]
        rw [ltn, oif_f, List.drop_length]; rfl
    | succ k ih =>
      intro fuel i t g1 g2 g3 g4
      cases fuel with
      | zero => omega
      | succ f =>
        have hlt : i < l.length := by omega
        have hx : l[i]? = some l[i] := List.getElem?_eq_getElem hlt
        simp only [iterP, l165_0, l165_0_b]
        rw [ltl hx, oif_t, nn, oif_t, ofNat_toNat, hx, ob_s, List.drop_eq_getElem_cons hlt, wr1 (by omega), wr (n := t + 1) (by omega) (by omega)]
        simp only [dnF]
        by_cases hc : l[i] < 0
        · rw [decide_eq_true hc, oif_t, if_pos hc]; exact ih f (i + 1) (t + 1) (by omega) (by omega) (by omega) (by omega)
        · rw [decide_eq_false hc, oif_f, if_neg hc]; exact ih f (i + 1) t (by omega) (by omega) (by omega) (by omega)
  have := gen l.length fuelN 0 0 (by omega) (by rw [fuelN_eq]; omega) (by omega) (by omega)
  rw [List.drop_zero] at this
  exact this

theorem q_l1Own {d : Nat} {l : List Int} (hl : l.length ≤ 41) : g333 (d + 1) l = some l := by
  have hrm : Nat.ble ((([] : List Int).length + l.length) * 8) roomMax = true := room (by rw [List.length_nil]; omega)
  rw [e333, hrm, oif_t, List.nil_append]

theorem run_len {m : Int} : ∀ (l : List Int) (f : Int) (x : (Int × Int × Int × Bool × Int × Int)) (q : List Int), runF m l f x = some q → q.length = l.length ∧ Sm q
  | [], f, x, q, h => by simp only [runF, Option.some.injEq] at h; subst h; exact ⟨rfl, fun y hy => by simp at hy⟩
  | a :: r, f, x, q, h => by
    simp only [runF, runS] at h
    split at h
    · rename_i hc
      simp only [Bool.and_eq_true, decide_eq_true_eq] at hc
      split at h
      · obtain ⟨q2, h2, rfl⟩ := Option.map_eq_some_iff.1 h
        obtain ⟨i1, i2⟩ := run_len r _ _ q2 h2
        refine ⟨by simp [i1], fun y hy => ?_⟩
        rcases List.mem_cons.1 hy with rfl | hy
        · omega
        · exact i2 y hy
      · obtain ⟨q2, h2, rfl⟩ := Option.map_eq_some_iff.1 h
        obtain ⟨i1, i2⟩ := run_len r _ _ q2 h2
        refine ⟨by simp [i1], fun y hy => ?_⟩
        rcases List.mem_cons.1 hy with rfl | hy
        · omega
        · exact i2 y hy
    · simp at h

theorem sm_set {l : List Int} {i : Nat} {v : Int} (h : Sm l) (hv : -200000 ≤ v ∧ v ≤ 200000) : Sm (l.set i v) := fun y hy => by
  rcases List.mem_or_eq_of_mem_set hy with h2 | rfl
  · exact h y h2
  · exact hv

theorem p_arr1 {d m : Nat} {n5 : Int} {r2 : Int × (List Int × Int × Int)} {c : List Int × Int × Int} (hc : CurOk m c) (hm : m + 200 < 4611686018427387904) (h5 : n5 ≤ 41) (h2 : 0 ≤ r2.1 ∧ r2.1 ≤ 3) : Ok (j328_1 (d + 3) r2 n5 c.1 c.2.1 c.2.2) fun r => (Sm r.1 ∧ r.1.length ≤ 41) ∧ CurOk (m + 100) r.2 := by
  unfold j328_1
  refine iter_ok (fun n s => n = (n5 - (s.1.length : Int)).toNat ∧ s.1.length ≤ 41 ∧ Sm s.1 ∧ (0 ≤ s.2.1 ∧ s.2.1 ≤ 3 + 3 * (s.1.length : Int)) ∧ CurOk (m + 2 * s.1.length) s.2.2) ?_ fuelN (n5 - 0).toNat ([], r2.1, (c.1, c.2.1, c.2.2)) (by rw [fuelN_eq]; omega) ⟨by simp, by simp, fun y hy => by simp at hy, by simp only [List.length_nil]; omega, by simpa using hc⟩
  rintro n ⟨out, v, x⟩ ag ⟨h1, h2, h3, h4, h5'⟩ hag
  simp only at h1 h2 h3 h4 h5'
  simp only [l328_0, l328_0_b]
  refine Ok.oif (fun hlt => ?_) (fun hge => ?_)
  · simp only [decide_eq_true_eq] at hlt
    have hrm : Nat.ble ((out.length + [v].length) * 8) roomMax = true := room (by rw [List.length_singleton]; omega)
    rw [hrm, oif_t]
    refine Ok.bind (p_among h5' (by omega) (by simp)) fun r hr => ?_
    obtain ⟨q1, q2⟩ := hr
    have hv : 0 ≤ r.1 ∧ r.1 ≤ 3 := by simp at q1; omega
    have hlen : (out ++ [v]).length = out.length + 1 := by rw [List.length_append, List.length_singleton]
    refine hag ((n5 - ((out.length + 1 : Nat) : Int)).toNat) _ (by omega) ⟨by simp only [hlen], by simp only [hlen]; omega, ?_, ?_, ?_⟩
    · intro y hy
      rcases List.mem_append.1 hy with h | h
      · exact h3 y h
      · rw [List.mem_singleton] at h; subst h; omega
    · simp only [hlen]; rw [wr (by omega) (by omega)]; omega
    · simp only [hlen]; exact q2.mono (by omega)
  · unfold j328_0
    refine Ok.oif (fun hl => ?_) (fun _ => Ok.some ⟨⟨h3, h2⟩, h5'.mono (by omega)⟩)
    simp only [decide_eq_true_eq] at hl
    refine Ok.bind (p_pick (c := x) h5' (by omega)) fun r hr => ?_
    refine Ok.oif (fun _ => ?_) (fun _ => Ok.some ⟨⟨h3, h2⟩, hr.2.2.mono (by omega)⟩)
    refine Ok.bind (p_among hr.2.2 (by omega) (by simp)) fun q hq => ?_
    have hlt : out.length - 1 < out.length := by omega
    have e : IntKind.i64.wrap (((out.length : Nat) : Int) - 1) = ((out.length - 1 : Nat) : Int) := by rw [wr (by omega) (by omega)]; omega
    have hv : -200000 ≤ q.1 ∧ q.1 ≤ 200000 := by have := hq.1; simp at this; omega
    rw [e, nn, oif_t, ofNat_toNat, blt_of hlt, oif_t, List.getElem?_eq_getElem hlt, ob_s]
    exact Ok.some ⟨⟨sm_set h3 hv, by simp only [List.length_set]; exact h2⟩, hq.2.mono (by omega)⟩

theorem p_arriving {d m : Nat} {c : List Int × Int × Int} (hc : CurOk m c) (hm : m + 300 < 4611686018427387904) : Ok (g328 (d + 4) c) fun r => (Sm r.1 ∧ r.1.length ≤ 41) ∧ CurOk (m + 120) r.2 := by
  rw [e328]
  refine Ok.bind (p_pick hc (by omega)) fun r2 h2 => ?_
  refine Ok.bind (p_pick h2.2.2 (by omega)) fun r3 h3 => ?_
  refine Ok.bind (p_one h3.2.2 (by omega)) fun r4 h4 => ?_
  refine Ok.oif (fun _ => ?_) (fun _ => ?_)
  · refine Ok.bind (p_pick h4 (by omega)) fun r5 h5 => ?_
    obtain ⟨a1, a2, a3⟩ := h5
    refine Ok.mono (p_arr1 a3 (by omega) (by rw [wr (by omega) (by omega)]; omega) (by omega)) fun r hr => ⟨hr.1, hr.2.mono (by omega)⟩
  · exact Ok.mono (p_arr1 h4 (by omega) (by omega) (by omega)) fun r hr => ⟨hr.1, hr.2.mono (by omega)⟩

theorem p_DrawRunDelay {d : Nat} {x : List Int} (hx : Bytes x) : Ok (g157 (d + 5) x) fun r => Sm r.2.1 ∧ r.2.1.length ≤ 41 := by
  rw [e157]
  refine Ok.bind (p_delay (CurOk.new hx) (by omega)) fun r2 h2 => ?_
  refine Ok.bind (p_one h2 (by omega)) fun r3 h3 => ?_
  refine Ok.oif (fun _ => ?_) (fun _ => ?_)
  · refine Ok.bind (p_pick h3 (by omega)) fun r4 h4 => ?_
    refine Ok.bind (p_pick h4.2.2 (by omega)) fun r5 h5 => ?_
    refine Ok.bind (p_arriving h5.2.2 (by omega)) fun r6 h6 => ?_
    exact Ok.bind (p_among h6.2 (by omega) (by simp)) fun r7 h7 => Ok.some h6.1
  · refine Ok.bind (p_arriving h3 (by omega)) fun r6 h6 => ?_
    exact Ok.bind (p_among h6.2 (by omega) (by simp)) fun r7 h7 => Ok.some h6.1

theorem p_wt0 {d m : Nat} {r2 : List Int × (List Int × Int × Int)} {l : List Int} {b : Bool} {c : List Int × Int × Int} (hc : CurOk m c) (hm : m + 200 < 4611686018427387904) (hs : Sm l) (hl : l.length ≤ 41) (hb : b = true → 0 < l.length) : Ok (j160_0 (d + 4) r2 l b c.1 c.2.1 c.2.2) fun r => r.1 = r2.1 ∧ Sm r.2 ∧ r.2.length ≤ 41 := by
  unfold j160_0
  refine Ok.oif (fun hb2 => ?_) (fun _ => Ok.some ⟨rfl, hs, hl⟩)
  have h0 := hb hb2
  refine Ok.bind (p_pick (c := c) hc (by omega)) fun r hr => ?_
  refine Ok.bind (p_among hr.2.2 (by omega) (by simp)) fun q hq => ?_
  obtain ⟨a1, a2, _⟩ := hr
  have hlt : r.1.toNat < l.length := by omega
  have hv : -200000 ≤ q.1 ∧ q.1 ≤ 200000 := by have := hq.1; simp at this; omega
  rw [decide_eq_true a1, oif_t, blt_of hlt, oif_t, List.getElem?_eq_getElem hlt, ob_s]
  exact Ok.some ⟨rfl, sm_set hs hv, by simp only [List.length_set]; exact hl⟩

theorem p_wt1 {d m : Nat} {r2 : List Int × (List Int × Int × Int)} {l : List Int} {c : List Int × Int × Int} (hc : CurOk m c) (hm : m + 300 < 4611686018427387904) (hs : Sm l) (hl : l.length ≤ 41) : Ok (j160_1 (d + 4) r2 c.1 c.2.1 c.2.2 l) fun r => r.1 = r2.1 ∧ Sm r.2 ∧ r.2.length ≤ 41 := by
  unfold j160_1
  refine Ok.oif (fun h => ?_) (fun _ => p_wt0 hc (by omega) hs hl (fun h => by simp at h))
  simp only [decide_eq_true_eq] at h
  exact Ok.bind (p_one (c := c) hc (by omega)) fun r hr => p_wt0 hr (by omega) hs hl (fun _ => by omega)

theorem p_DrawWaitsOfRun {d : Nat} {x : List Int} (hx : Bytes x) : Ok (g160 (d + 5) x) fun r => (Sm r.1 ∧ r.1.length ≤ 41) ∧ Sm r.2 ∧ r.2.length ≤ 41 := by
  rw [e160]
  refine Ok.bind (p_arriving (CurOk.new hx) (by omega)) fun r2 h2 => ?_
  obtain ⟨⟨s1, s2⟩, s3⟩ := h2
  have fin : ∀ (e : Option (List Int × List Int)), (Ok e fun r => r.1 = r2.1 ∧ Sm r.2 ∧ r.2.length ≤ 41) → Ok e fun r => (Sm r.1 ∧ r.1.length ≤ 41) ∧ Sm r.2 ∧ r.2.length ≤ 41 := fun e h => Ok.mono h fun r hr => ⟨by rw [hr.1]; exact ⟨s1, s2⟩, hr.2⟩
  rw [q_l1Own s2, ob_s, q_cdArrivals (by omega), ob_s]
  refine Ok.oif (fun har => ?_) (fun _ => fin _ (p_wt1 s3 (by omega) s1 s2))
  refine Ok.bind (p_pick s3 (by omega)) fun r5 h5 => ?_
  obtain ⟨a1, a2, a3⟩ := h5
  have har2 := har
  simp only [arOk, Bool.and_eq_true] at har2
  rw [wr (by omega) (by omega), q_cdRun (by decide) (ar_len har) (arF_in har2.1) (by omega), ob_s]
  cases hr : runF (1 + r5.1) r2.1 0 (2, 3, -1, false, 0, 0) with
  | none =>
    simp only [resV, oif_f]
    exact fin _ (p_wt1 a3 (by omega) s1 s2)
  | some q =>
    obtain ⟨i1, i2⟩ := run_len _ _ _ _ hr
    simp only [resV, oif_t, List.nil_append]
    exact fin _ (p_wt1 a3 (by omega) i2 (by omega))

theorem p_DrawDropsIn {d : Nat} {x : List Int} (hx : Bytes x) : Ok (g163 (d + 4) x) fun _ => True := by
  rw [e163]
  have fin : ∀ {m : Nat} {c : List Int × Int × Int} {n : Int}, CurOk m c → m + 200 < 4611686018427387904 → n ≤ 41 → Ok (j163_1 (d + 3) n c.1 c.2.1 c.2.2) fun _ => True := by
    intro m c n hc hm hn
    unfold j163_1
    refine iter_ok (fun k s => k = (n - (s.1.length : Int)).toNat ∧ s.1.length ≤ 41 ∧ CurOk (m + 2 * s.1.length) s.2) ?_ fuelN (n - 0).toNat ([], (c.1, c.2.1, c.2.2)) (by rw [fuelN_eq]; omega) ⟨by simp, by simp, by simpa using hc⟩
    rintro k ⟨out, y⟩ ag ⟨h1, h2, h3⟩ hag
    simp only at h1 h2 h3
    simp only [l163_0, l163_0_b]
    refine Ok.oif (fun hlt => ?_) (fun hge => Ok.some trivial)
    simp only [decide_eq_true_eq] at hlt
    refine Ok.bind (p_pick h3 (by omega)) fun r hr => ?_
    have hlen : (out ++ [IntKind.i64.wrap (r.1 - 4)]).length = out.length + 1 := by rw [List.length_append, List.length_singleton]
    have hrm : Nat.ble ((out.length + [IntKind.i64.wrap (r.1 - 4)].length) * 8) roomMax = true := room (by rw [List.length_singleton]; omega)
    rw [hrm, oif_t]
    exact hag ((n - ((out.length + 1 : Nat) : Int)).toNat) _ (by omega) ⟨by simp only [hlen], by simp only [hlen]; omega, by simp only [hlen]; exact hr.2.2.mono (by omega)⟩
  refine Ok.bind (p_pick (CurOk.new hx) (by omega)) fun r2 h2 => ?_
  refine Ok.bind (p_one h2.2.2 (by omega)) fun r3 h3 => ?_
  refine Ok.oif (fun _ => ?_) (fun _ => ?_)
  · refine Ok.bind (p_pick h3 (by omega)) fun r4 h4 => ?_
    obtain ⟨a1, a2, a3⟩ := h4
    exact fin a3 (by omega) (by rw [wr (by omega) (by omega)]; omega)
  · exact fin h3 (by omega) (by omega)

end Go.Proofs.Ytcoojpojnmnboaa
