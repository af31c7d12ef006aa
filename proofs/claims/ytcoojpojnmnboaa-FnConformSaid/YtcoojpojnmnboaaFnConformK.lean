/-
  What the cursor's functions and the small ones give by value.
  Conditions: the cursor has not been moved 2^62 times.
  Comparing and adding up lists of numbers; ranges.
  Conditions: the lists are shorter than the fuel.
  Inflows and services: what is valid, bounds, sums, leftovers, in both packages; the draws.
  Conditions: none, but those of the cursor for the draws.
  Traces of arrivals: least bursts, slowest sends, in both packages; the draws.
  Conditions: none, but those of the cursor for the draws.
  Chains of services, in both packages; the draws.
  Conditions: none, but those of the cursor for the draws.
-/
import Derived.Test.YtcoojpojnmnboaaFnConformRes
import Derived.Test.YtcoojpojnmnboaaPKit2
set_option linter.all false
namespace Go.Proofs.Ytcoojpojnmnboaa
open Go.Ev Go.Pv

theorem p_next {d m : Nat} {c : List Int × Int × Int} (hc : CurOk m c) (hm : m < 4611686018427387904) : Ok (g352 (d + 1) c) fun r => 0 ≤ r.1 ∧ r.1 < 256 ∧ CurOk (m + 1) r.2 := by
  obtain ⟨hb, h0, h1⟩ := hc
  obtain ⟨code, at', seed⟩ := c
  simp only at hb h0 h1
  have hw : IntKind.i64.wrap (at' + 1) = at' + 1 := wr (by omega) (by omega)
  rw [e352]
  have fin : ∀ n : Int, (at' < code.length → 0 ≤ n ∧ n < 256) → Ok (j352_0 d (code, at', seed) n) fun r => 0 ≤ r.1 ∧ r.1 < 256 ∧ CurOk (m + 1) r.2 := by
    intro n hn
    unfold j352_0
    simp only [hw]
    refine Ok.oif (fun h => ?_) (fun h => ?_)
    · simp only [decide_eq_true_eq] at h
      obtain ⟨a, b⟩ := hn (by omega)
      exact Ok.some ⟨a, b, hb, by simp only; omega, by simp only; omega⟩
    · exact Ok.some ⟨(seedByte _).1, (seedByte _).2, hb, by simp only; omega, by simp only; omega⟩
  refine Ok.oif (fun h => ?_) (fun h => ?_)
  · simp only [decide_eq_true_eq] at h
    refine Ok.oif (fun _ => ?_) (fun h2 => by simp only [decide_eq_false_iff_not] at h2; omega)
    have hlt : at'.toNat < code.length := by omega
    simp only
    rw [List.getElem?_eq_getElem hlt]
    have hx := hb _ (List.getElem_mem hlt)
    refine Ok.bind (Ok.some rfl) (fun a ha => ?_)
    subst ha
    exact fin _ (fun _ => by rw [wr (by omega) (by omega)]; exact hx)
  · simp only [decide_eq_false_iff_not] at h
    exact fin 0 (fun h' => absurd h' h)

theorem p_pick {d m : Nat} {c : List Int × Int × Int} {n : Int} (hc : CurOk m c) (hm : m + 1 < 4611686018427387904) : Ok (g203 (d + 2) c n) fun r => 0 ≤ r.1 ∧ (r.1 < n ∨ r.1 = 0) ∧ CurOk (m + 2) r.2 := by
  rw [e203]
  refine Ok.oif (fun h => ?_) (fun h => ?_)
  · exact Ok.some ⟨by simp, .inr rfl, hc.mono (by omega)⟩
  · simp only [decide_eq_false_iff_not] at h
    refine Ok.bind (p_next hc (by omega)) (fun r hr => ?_)
    obtain ⟨h1, h2, h3⟩ := hr
    have hn : (n == 0) = false := by simp; omega
    refine Ok.oif (fun h4 => ?_) (fun h4 => ?_)
    · refine Ok.bind (p_next h3 (by omega)) (fun q hq => ?_)
      obtain ⟨h5, h6, h7⟩ := hq
      rw [hn]
      rw [wr (n := r.1 * 256) (by omega) (by omega), wr (by omega) (by omega)]
      exact Ok.some ⟨Int.tmod_nonneg _ (by omega), .inl (Int.tmod_lt_of_pos _ (by omega)), h7.mono (by omega)⟩
    · rw [hn]
      exact Ok.some ⟨Int.tmod_nonneg _ (by omega), .inl (Int.tmod_lt_of_pos _ (by omega)), h3.mono (by omega)⟩

theorem p_among {d m : Nat} {c : List Int × Int × Int} {l : List Int} (hc : CurOk m c) (hm : m + 1 < 4611686018427387904) (hl : 0 < l.length) : Ok (g190 (d + 3) c l) fun r => r.1 ∈ l ∧ CurOk (m + 2) r.2 := by
  rw [e190]
  refine Ok.bind (p_pick hc hm) (fun r hr => ?_)
  obtain ⟨h1, h2, h3⟩ := hr
  refine Ok.oif (fun _ => ?_) (fun h => by simp only [decide_eq_false_iff_not] at h; omega)
  have hlt : r.1.toNat < l.length := by omega
  rw [List.getElem?_eq_getElem hlt]
  exact Ok.bind (Ok.some rfl) (fun a ha => by subst ha; exact Ok.some ⟨List.getElem_mem hlt, h3⟩)

theorem p_one {d m : Nat} {c : List Int × Int × Int} {n : Int} (hc : CurOk m c) (hm : m + 1 < 4611686018427387904) : Ok (g230 (d + 3) c n) fun r => CurOk (m + 2) r.2 := by
  rw [e230]
  exact Ok.bind (p_pick hc hm) (fun r hr => Ok.some hr.2.2)

theorem q_l1In {d : Nat} {x y z : Int} : g211 (d + 1) x y z = some (decide (y ≤ x ∧ x ≤ z)) := by
  rw [e211]; simp only [oif_ss]; congr 1; rw [Bool.eq_iff_iff]; simp

theorem q_l1Least {d : Nat} {x y : Int} : g274 (d + 1) x y = some (min x y) := by
  rw [e274]; simp only [oif_ss]; congr 1; split <;> simp_all <;> omega

def szOk (s : Int) : Bool := decide (1 ≤ s ∧ s ≤ 1500)

theorem q_isSize {d : Nat} {x : Int} : g249 (d + 1) x = some (szOk x) := by
  rw [e249]; simp only [oif_ss]; congr 1; rw [Bool.eq_iff_iff]; simp [szOk]

theorem q_l1Most {d : Nat} {x y : Int} : g204 (d + 1) x y = some (max x y) := by
  rw [e204]; simp only [oif_ss]; congr 1; simp only [decide_eq_true_eq]; split <;> omega

theorem q_sameInts {d : Nat} {l : List Int} (hl : l.length < 4194304) : g18 (d + 1) l l = some true := by
  rw [e18, bne_self_eq_false, oif_f]
  refine (range_eq (fun (t : Bool) (i : Int) => (t, i)) l (fun x i t k => k t) (j18_0 d) ?_ ?_ (by rw [fuelN_eq]; exact hl) false).trans ?_
  · intro ag t i x hx; have hi := (List.getElem?_eq_some_iff.1 hx).1; simp only [l18_0, l18_0_b, ltl hx, bltl hx, nn, ofNat_toNat, hx, ob_s, oif_t]; rw [wr1 (by omega)]
    simp only [bne_self_eq_false, oif_f]
  · intro ag t; simp only [l18_0, l18_0_b, ltn, oif_f]
  · rw [rangeR_fold (f := fun _ _ t => t)]; rfl

theorem q_big {d : Nat} {x y : List Int} : ∃ b, g14 (d + 1) x y = some b := by
  rw [e14]; simp only [oif_ss]; exact ⟨_, rfl⟩

def inOk (a : Int × Int) : Bool := decide (0 ≤ a.1 ∧ a.1 ≤ 1000000000 ∧ 0 ≤ a.2 ∧ a.2 ≤ 100000)

def svOk (s : Int × Int) : Bool := decide (1 ≤ s.1 ∧ s.1 ≤ 100000 ∧ 0 ≤ s.2 ∧ s.2 ≤ 10000)

def both (a s : Int × Int) : Bool := inOk a && (svOk s && decide (a.2 ≤ s.1))

theorem q_IsInflow {d : Nat} {a : Int × Int} : g303 (d + 1) a = some (inOk a) := by
  rw [e303]; simp only [oif_ss]; congr 1; rw [Bool.eq_iff_iff]; simp [inOk]

theorem q_IsService {d : Nat} {a : Int × Int} : g304 (d + 1) a = some (svOk a) := by
  rw [e304]; simp only [oif_ss]; congr 1; rw [Bool.eq_iff_iff]; simp [svOk]

theorem q_bearable {d : Nat} {a s : Int × Int} : g308 (d + 2) a s = some (both a s) := by
  rw [e308]; simp only [q_IsInflow, q_IsService, ob_s, both]; cases inOk a <;> cases svOk s <;> rfl

theorem q_bnInflow {d : Nat} {a : Int × Int} : g317 (d + 2) a = some (inOk a) := by
  rw [e317]; simp only [q_l1In, ob_s, oif_ss]; congr 1; rw [Bool.eq_iff_iff]; simp [inOk]; omega

theorem q_bnService {d : Nat} {a : Int × Int} : g306 (d + 2) a = some (svOk a) := by
  rw [e306]; simp only [q_l1In, ob_s, oif_ss]; congr 1; rw [Bool.eq_iff_iff]; simp [svOk]; omega

theorem q_bnBoth {d : Nat} {a s : Int × Int} : g314 (d + 3) a s = some (both a s) := by
  rw [e314]; simp only [q_bnInflow, q_bnService, ob_s, both]; cases inOk a <;> cases svOk s <;> rfl

theorem both_in {a s : Int × Int} (h : both a s = true) : (0 ≤ a.1 ∧ a.1 ≤ 1000000000 ∧ 0 ≤ a.2 ∧ a.2 ≤ 100000) ∧ (1 ≤ s.1 ∧ s.1 ≤ 100000 ∧ 0 ≤ s.2 ∧ s.2 ≤ 10000) ∧ a.2 ≤ s.1 := by
  simpa [both, inOk, svOk, and_assoc] using h

theorem mul_in {a b A B : Int} (h1 : 0 ≤ a) (h2 : a ≤ A) (h3 : 0 ≤ b) (h4 : b ≤ B) : 0 ≤ a * b ∧ a * b ≤ A * B :=
  ⟨Int.mul_nonneg h1 h3, Int.mul_le_mul h2 h4 h3 (by omega)⟩

def backV (a s : Int × Int) : Int := a.1 + a.2 * s.2

theorem backV_in {a s : Int × Int} (h : both a s = true) : 0 ≤ a.2 * s.2 ∧ a.2 * s.2 ≤ 1000000000 := by
  obtain ⟨h1, h2, _⟩ := both_in h
  exact mul_in (A := 100000) (B := 10000) h1.2.2.1 h1.2.2.2 h2.2.2.1 h2.2.2.2

theorem backV_wr {a s : Int × Int} (h : both a s = true) : IntKind.i64.wrap (a.1 + IntKind.i64.wrap (a.2 * s.2)) = backV a s := by
  obtain ⟨h1, h2, _⟩ := both_in h
  obtain ⟨m1, m2⟩ := backV_in h
  rw [wr (n := a.2 * s.2) (by omega) (by omega), wr (by omega) (by omega)]; rfl

def bbV (a s : Int × Int) : Int × Bool := if both a s then (backV a s, true) else (0, false)

theorem q_BacklogBound {d : Nat} {a s : Int × Int} : g360 (d + 3) a s = some (bbV a s) := by
  rw [e360, q_bearable, ob_s]
  cases h : both a s with
  | false => simp [bbV, h, oif]
  | true => simp only [Bool.not_true, oif_f, backV_wr h, bbV, h, if_true]

def upV (a b : Int) : Int := (a + b - 1) / b

theorem upV_in {a b : Int} (h1 : 0 ≤ a) (h2 : 1 ≤ b) : 0 ≤ upV a b ∧ upV a b ≤ a + b := by
  unfold upV
  have h3 : 0 ≤ (a + b - 1) / b := Int.ediv_nonneg (by omega) (by omega)
  have h4 : (a + b - 1) / b ≤ a + b - 1 := Int.ediv_le_self _ (by omega)
  omega

theorem upV_wr {a b : Int} (h1 : 0 ≤ a) (h2 : a ≤ 1000000000000) (h3 : 1 ≤ b) (h4 : b ≤ 1000000000000) : IntKind.i64.wrap ((IntKind.i64.wrap ((IntKind.i64.wrap (a + b)) - 1)).tdiv b) = upV a b := by
  obtain ⟨h5, h6⟩ := upV_in h1 h3
  rw [wr (n := a + b) (by omega) (by omega), wr (n := a + b - 1) (by omega) (by omega), Int.tdiv_eq_ediv_of_nonneg (by omega)]
  exact wr (n := upV a b) (by omega) (by omega)

theorem q_divideUp {d : Nat} {a b : Int} (h1 : 0 ≤ a) (h2 : a ≤ 1000000000000) (h3 : 1 ≤ b) (h4 : b ≤ 1000000000000) : g305 (d + 1) a b = some (upV a b) := by
  rw [e305, upV_wr h1 h2 h3 h4, show (b == 0) = false by simp; omega]; rfl

theorem q_bnUp {d : Nat} {a b : Int} (h1 : 0 ≤ a) (h2 : a ≤ 1000000000000) (h3 : 1 ≤ b) (h4 : b ≤ 1000000000000) : g307 (d + 1) a b = some (upV a b) := by
  rw [e307, upV_wr h1 h2 h3 h4, show (b == 0) = false by simp; omega]; rfl

def dlV (a s : Int × Int) : Int := s.2 + upV a.1 s.1

def dbV (a s : Int × Int) : Int × Bool := if both a s then (dlV a s, true) else (0, false)

theorem dlV_wr {a s : Int × Int} (h1 : 0 ≤ a.1) (h2 : a.1 ≤ 1000000000000) (h3 : svOk s = true) : IntKind.i64.wrap (s.2 + upV a.1 s.1) = dlV a s := by
  simp only [svOk, decide_eq_true_eq] at h3
  obtain ⟨h5, h6⟩ := upV_in h1 h3.1
  exact wr (n := s.2 + upV a.1 s.1) (by omega) (by omega)

theorem q_DelayBound {d : Nat} {a s : Int × Int} : g135 (d + 3) a s = some (dbV a s) := by
  rw [e135, q_bearable, ob_s]
  cases h : both a s with
  | false => simp [dbV, h, oif]
  | true =>
    obtain ⟨h1, h2, h3⟩ := both_in h
    rw [q_divideUp (by omega) (by omega) (by omega) (by omega), ob_s, dlV_wr (by omega) (by omega) (by simp [svOk]; omega)]
    simp [dbV, h, oif]

theorem q_bnDelay {d : Nat} {a s : Int × Int} (h1 : 0 ≤ a.1) (h2 : a.1 ≤ 1000000000000) (h3 : svOk s = true) : g315 (d + 2) a s = some (dlV a s) := by
  have h3' := h3
  simp only [svOk, decide_eq_true_eq] at h3'
  rw [e315, q_bnUp (by omega) (by omega) (by omega) (by omega), ob_s, dlV_wr h1 h2 h3]

def greV (a s : Int × Int) (t : Int) : Int := max 0 (a.1 + a.2 * t - s.1 * max 0 (t - s.2))

def gbV (a s : Int × Int) (t : Int) : Int × Bool := if both a s && decide (0 ≤ t ∧ t ≤ 100000) then (greV a s t, true) else (0, false)

theorem gre_wr {a s : Int × Int} {t : Int} (h : both a s = true) (h0 : 0 ≤ t) (h9 : t ≤ 100000) : IntKind.i64.wrap (t - s.2) = t - s.2 ∧ IntKind.i64.wrap (IntKind.i64.wrap (a.1 + IntKind.i64.wrap (a.2 * t)) - IntKind.i64.wrap (s.1 * max 0 (t - s.2))) = a.1 + a.2 * t - s.1 * max 0 (t - s.2) := by
  obtain ⟨h1, h2, h3⟩ := both_in h
  obtain ⟨m1, m2⟩ := mul_in (A := 100000) (B := 100000) h1.2.2.1 h1.2.2.2 h0 h9
  obtain ⟨m3, m4⟩ := mul_in (a := s.1) (b := max 0 (t - s.2)) (A := 100000) (B := 100000) (by omega) h2.2.1 (by omega) (by omega)
  refine ⟨wr (by omega) (by omega), ?_⟩
  rw [wr (n := a.2 * t) (by omega) (by omega), wr (n := s.1 * max 0 (t - s.2)) (by omega) (by omega), wr (n := a.1 + a.2 * t) (by omega) (by omega), wr (by omega) (by omega)]

theorem greedy_le {a s : Int × Int} {t : Int} (h : both a s = true) (h0 : 0 ≤ t) : greV a s t ≤ backV a s := by
  obtain ⟨h1, h2, h3⟩ := both_in h
  obtain ⟨m1, m2⟩ := backV_in h
  unfold greV backV
  by_cases ht : t ≤ s.2
  · have e1 : max 0 (t - s.2) = 0 := by omega
    have m3 : a.2 * t ≤ a.2 * s.2 := Int.mul_le_mul_of_nonneg_left ht h1.2.2.1
    rw [e1]; omega
  · have e1 : max 0 (t - s.2) = t - s.2 := by omega
    have m3 : a.2 * (t - s.2) ≤ s.1 * (t - s.2) := Int.mul_le_mul_of_nonneg_right h3 (by omega)
    have m4 : a.2 * (t - s.2) = a.2 * t - a.2 * s.2 := Int.mul_sub _ _ _
    rw [e1]; omega

def outV (a s : Int × Int) : (Int × Int) × Bool := if both a s && inOk (backV a s, a.2) then ((backV a s, a.2), true) else ((0, 0), false)

theorem q_OutputInflow {d : Nat} {a s : Int × Int} : g311 (d + 4) a s = some (outV a s) := by
  rw [e311, q_BacklogBound, ob_s]
  cases h : both a s with
  | false => simp [bbV, outV, h, oif]
  | true =>
    simp only [bbV, h, if_true, Bool.not_true, oif_f, q_IsInflow, ob_s, outV, Bool.true_and]
    cases inOk (backV a s, a.2) <;> rfl

def lvV (s a : Int × Int) : (Int × Int) × Bool := if both a s && !(a.2 == s.1) && svOk (s.1 - a.2, upV (a.1 + s.1 * s.2) (s.1 - a.2)) then ((s.1 - a.2, upV (a.1 + s.1 * s.2) (s.1 - a.2)), true) else ((0, 0), false)

theorem lv_wr {a s : Int × Int} (h : both a s = true) (hn : ¬ a.2 = s.1) : IntKind.i64.wrap (a.1 + IntKind.i64.wrap (s.1 * s.2)) = a.1 + s.1 * s.2 ∧ IntKind.i64.wrap (s.1 - a.2) = s.1 - a.2 ∧ 0 ≤ a.1 + s.1 * s.2 ∧ a.1 + s.1 * s.2 ≤ 1000000000000 ∧ 1 ≤ s.1 - a.2 ∧ s.1 - a.2 ≤ 1000000000000 := by
  obtain ⟨h1, h2, h3⟩ := both_in h
  obtain ⟨m1, m2⟩ := mul_in (a := s.1) (b := s.2) (A := 100000) (B := 10000) (by omega) h2.2.1 h2.2.2.1 h2.2.2.2
  rw [wr (n := s.1 * s.2) (by omega) (by omega)]
  exact ⟨wr (by omega) (by omega), wr (by omega) (by omega), by omega, by omega, by omega, by omega⟩

theorem lv_slow {s a : Int × Int} (h : (lvV s a).2 = true) : (lvV s a).1.1 = s.1 - a.2 ∧ s.2 ≤ (lvV s a).1.2 ∧ s.1 ≤ 100000 ∧ 0 ≤ a.2 ∧ a.2 ≤ s.1 := by
  unfold lvV at h ⊢
  split at h
  · rename_i hc
    simp only [hc, if_true]
    simp only [Bool.and_eq_true, Bool.not_eq_true', beq_eq_false_iff_ne, ne_eq] at hc
    obtain ⟨⟨hb, hn⟩, _⟩ := hc
    obtain ⟨h1, h2, h3⟩ := both_in hb
    refine ⟨trivial, ?_, by omega, by omega, by omega⟩
    unfold upV
    rw [Int.le_ediv_iff_mul_le (by omega)]
    have m1 : s.2 * (s.1 - a.2) = s.1 * s.2 - s.2 * a.2 := by rw [Int.mul_sub, Int.mul_comm s.2 s.1]
    have m2 : 0 ≤ s.2 * a.2 := Int.mul_nonneg (by omega) (by omega)
    omega
  · simp at h

theorem rangeR_allf {α τ β : Type} {p : α → Bool} {f : α → τ → τ} {no : Option β} {fin : τ → Option β} : ∀ (l : List α) (i : Nat) (t : τ),
    rangeR (fun x _ t k => oif (p x) (k (f x t)) no) fin l i t = oif (l.all p) (fin (l.foldl (fun t x => f x t) t)) no
  | [], i, t => rfl
  | x :: r, i, t => by
    simp only [rangeR, List.all_cons, List.foldl_cons]
    cases p x with
    | true => simp only [oif_t, Bool.true_and]; exact rangeR_allf r (i + 1) (f x t)
    | false => rfl

def sumIn (l : List (Int × Int)) : Int × Int := l.foldl (fun t x => (IntKind.i64.wrap (t.1 + x.1), IntKind.i64.wrap (t.2 + x.2))) (0, 0)

def adV (l : List (Int × Int)) : (Int × Int) × Bool := if decide (1 ≤ ((l.length : Nat) : Int) ∧ ((l.length : Nat) : Int) ≤ 8) && l.all inOk && inOk (sumIn l) then (sumIn l, true) else ((0, 0), false)

theorem p_inflow {d m : Nat} {c : List Int × Int × Int} (hc : CurOk m c) (hm : m < 100000) : Ok (g309 (d + 4) c) fun r => CurOk (m + 20) r.2 := by
  rw [e309]
  refine Ok.bind (p_pick hc (by omega)) fun r1 h1 => ?_
  refine Ok.bind (p_among h1.2.2 (by omega) (by simp)) fun r2 h2 => ?_
  refine Ok.bind (p_among h2.2 (by omega) (by simp)) fun r3 h3 => ?_
  refine Ok.bind (p_pick h3.2 (by omega)) fun r4 h4 => ?_
  refine Ok.oif (fun _ => ?_) (fun _ => Ok.oif (fun _ => ?_) (fun _ => ?_))
  · exact Ok.bind (p_among h4.2.2 (by omega) (by simp)) fun q hq => Ok.some (hq.2.mono (by omega))
  · exact Ok.bind (p_among h4.2.2 (by omega) (by simp)) fun q hq => Ok.some (hq.2.mono (by omega))
  · exact Ok.some (h4.2.2.mono (by omega))

theorem p_service {d m : Nat} {c : List Int × Int × Int} (hc : CurOk m c) (hm : m < 100000) : Ok (g318 (d + 4) c) fun r => CurOk (m + 20) r.2 := by
  rw [e318]
  refine Ok.bind (p_among hc (by omega) (by simp)) fun r2 h2 => ?_
  refine Ok.bind (p_among h2.2 (by omega) (by simp)) fun r3 h3 => ?_
  refine Ok.bind (p_pick h3.2 (by omega)) fun r4 h4 => ?_
  refine Ok.oif (fun _ => ?_) (fun _ => Ok.oif (fun _ => ?_) (fun _ => ?_))
  · exact Ok.bind (p_among h4.2.2 (by omega) (by simp)) fun q hq => Ok.some (hq.2.mono (by omega))
  · exact Ok.bind (p_among h4.2.2 (by omega) (by simp)) fun q hq => Ok.some (hq.2.mono (by omega))
  · exact Ok.some (h4.2.2.mono (by omega))

/-- A trace whose times are not below a time. -/
def trF : Int → List (Int × Int) → Bool
  | _, [] => true
  | t, x :: r => decide (t ≤ x.1 ∧ x.1 ≤ 100000) && (szOk x.2 && trF x.1 r)

def trOk (l : List (Int × Int)) : Bool := trF 0 l && decide (((l.length : Nat) : Int) ≤ 40)

theorem trF_in : ∀ {l : List (Int × Int)} {t : Int}, trF t l = true → ∀ x ∈ l, t ≤ x.1 ∧ x.1 ≤ 100000 ∧ 1 ≤ x.2 ∧ x.2 ≤ 1500
  | [], _, _, x, hx => by simp at hx
  | y :: r, t, h, x, hx => by
    simp only [trF, szOk, Bool.and_eq_true, decide_eq_true_eq] at h
    rcases List.mem_cons.1 hx with rfl | hx
    · omega
    · have := trF_in h.2.2 x hx; omega

theorem q_bnTrace {d : Nat} {l : List (Int × Int)} (hl : l.length < 4194304) : g301 (d + 2) l = some (trOk l) := by
  rw [e301]
  refine (range_eq (fun (t : Int) (i : Int) => (false, t, i)) l (fun x _ t k => oif (decide (t ≤ x.1 ∧ x.1 ≤ 100000)) (oif (szOk x.2) (k x.1) (some false)) (some false)) (fun _ => j301_0 (d + 1) l false) ?_ ?_ (by rw [fuelN_eq]; exact hl) 0).trans ?_
  · intro ag t i x hx; have hi := (List.getElem?_eq_some_iff.1 hx).1; simp only [l301_0, l301_0_b, ltl hx, bltl hx, nn, ofNat_toNat, hx, ob_s, oif_t]; rw [wr1 (by omega)]
    simp only [q_l1In, ob_s]
    cases decide (t ≤ x.1 ∧ x.1 ≤ 100000) with
    | false => rfl
    | true => simp only [Bool.not_true, oif_f, oif_t]; change oif (!szOk x.2) _ _ = _; cases szOk x.2 <;> rfl
  · intro ag t; simp only [l301_0, l301_0_b, ltn, oif_f]
  · have gen : ∀ (r : List (Int × Int)) (i : Nat) (t : Int), rangeR (fun x _ t k => oif (decide (t ≤ x.1 ∧ x.1 ≤ 100000)) (oif (szOk x.2) (k x.1) (some false)) (some false)) (fun _ => j301_0 (d + 1) l false) r i t = oif (trF t r) (j301_0 (d + 1) l false) (some false) := by
      intro r
      induction r with
      | nil => intro i t; rfl
      | cons x r ih =>
        intro i t
        simp only [rangeR, trF]
        cases decide (t ≤ x.1 ∧ x.1 ≤ 100000) with
        | false => rfl
        | true =>
          cases szOk x.2 with
          | false => rfl
          | true => simp only [oif_t, Bool.true_and]; exact ih (i + 1) x.1
    rw [gen]; unfold trOk j301_0; cases trF 0 l <;> rfl

theorem q_isTrace {d : Nat} {l : List (Int × Int)} (hl : l.length < 4194304) : g299 (d + 2) l = some (trOk l) := by
  rw [e299]
  let pv : Nat → Int := fun i => if i = 0 then 0 else (l.getD (i - 1) (0, 0)).1
  refine (iter_eq (fun s => oif (trF (pv s.2.toNat) (l.drop s.2.toNat)) (j299_0 (d + 1) l false) (some false)) (fun s => l.length - s.2.toNat) (fun s => ∃ i : Nat, s = (false, (i : Int)) ∧ i ≤ l.length ∧ 0 ≤ pv i) ?_ fuelN (false, 0) ⟨0, rfl, by omega, by simp [pv]⟩ (by rw [fuelN_eq]; simp; omega)).trans ?_
  · rintro _ ag ⟨i, rfl, h1, h2⟩ hag
    simp only [l299_0, l299_0_b, ofNat_toNat]
    rcases Nat.lt_or_ge i l.length with hlt | hge
    · have hx : l[i]? = some l[i] := List.getElem?_eq_getElem hlt
      have hd := List.drop_eq_getElem_cons hlt
      have nx : pv (i + 1) = l[i].1 := by simp [pv, List.getD, hx]
      rw [ltl hx, oif_t, nn, oif_t, hx, ob_s, hd]
      simp only [trF, q_isSize, ob_s, j299_1]
      rw [wr1 (by omega)]
      have hn : 0 ≤ l[i].1 → ag (false, ((i + 1 : Nat) : Int)) = oif (trF l[i].1 (l.drop (i + 1))) (j299_0 (d + 1) l false) (some false) := fun h => by
        rw [hag (false, ((i + 1 : Nat) : Int)) ⟨i + 1, rfl, by omega, by rw [nx]; exact h⟩ (by simp only [ofNat_toNat]; omega)]
        simp only [ofNat_toNat, nx]
      have hp : decide ((i : Int) > 0) = true → decide (0 ≤ IntKind.i64.wrap ((i : Int) - 1)) = true ∧ l[(IntKind.i64.wrap ((i : Int) - 1)).toNat]? = some (l.getD (i - 1) (0, 0)) ∧ pv i = (l.getD (i - 1) (0, 0)).1 := by
        intro h
        simp only [decide_eq_true_eq] at h
        have hi : i ≠ 0 := by omega
        have e1 : IntKind.i64.wrap ((i : Int) - 1) = ((i - 1 : Nat) : Int) := by rw [wr (by omega) (by omega)]; omega
        rw [e1, ofNat_toNat]
        refine ⟨by simp, ?_, by simp [pv, hi]⟩
        have : i - 1 < l.length := by omega
        simp [List.getD, List.getElem?_eq_getElem this]
      by_cases c1 : l[i].1 < 0
      · rw [decide_eq_true c1, oif_t, oif_t, decide_eq_false (show ¬ (pv i ≤ l[i].1 ∧ l[i].1 ≤ 100000) by omega)]; rfl
      · rw [decide_eq_false c1, oif_f]
        by_cases c2 : l[i].1 > 100000
        · rw [decide_eq_true c2, oif_t, oif_t, decide_eq_false (show ¬ (pv i ≤ l[i].1 ∧ l[i].1 ≤ 100000) by omega)]; rfl
        · rw [decide_eq_false c2, oif_f]
          cases szOk l[i].2 with
          | false => simp only [Bool.not_false, oif_t, Bool.false_and, Bool.and_false, oif_f]
          | true =>
            simp only [Bool.not_true, oif_f, Bool.true_and]
            cases c3 : decide ((i : Int) > 0) with
            | true =>
              obtain ⟨p1, p2, p3⟩ := hp c3
              rw [oif_t, p1, oif_t, p2, ob_s, p3]
              by_cases c4 : l[i].1 < (l.getD (i - 1) (0, 0)).1
              · rw [decide_eq_true c4, oif_t, decide_eq_false (by omega)]; rfl
              · rw [decide_eq_false c4, oif_f, decide_eq_true (by omega), Bool.true_and]; exact hn (by omega)
            | false =>
              have hi : i = 0 := by simp at c3; omega
              have : pv i = 0 := by simp [pv, hi]
              rw [oif_f, decide_eq_true (by omega), Bool.true_and]; exact hn (by omega)
    · have : i = l.length := by omega
      subst this
      rw [ltn, oif_f, List.drop_length]; rfl
  · have e0 : pv 0 = 0 := by simp [pv]
    simp only [Int.toNat_zero, e0, List.drop_zero]
    unfold trOk j299_0; cases trF 0 l <;> rfl

/-- The greatest need of a window that is open. -/
def winM (rate t0 : Int) : Int → Int → List (Int × Int) → Int
  | _, m, [] => m
  | s, m, x :: r => winM rate t0 (s + x.2) (max m (s + x.2 - rate * (x.1 - t0))) r

def bvF (rate : Int) : Int → List (Int × Int) → Int
  | m, [] => m
  | m, x :: r => bvF rate (winM rate x.1 0 m (x :: r)) r

def bv (rate : Int) (l : List (Int × Int)) : Int := bvF rate 0 l

theorem win_wr {rate t0 s : Int} {x : Int × Int} (hr : 0 ≤ rate ∧ rate ≤ 100000) (ht : 0 ≤ t0 ∧ t0 ≤ 100000) (hs : 0 ≤ s ∧ s ≤ 1000000) (hx : 0 ≤ x.1 ∧ x.1 ≤ 100000 ∧ 1 ≤ x.2 ∧ x.2 ≤ 1500) :
    IntKind.i64.wrap (s + x.2) = s + x.2 ∧ IntKind.i64.wrap (s + x.2 - IntKind.i64.wrap (rate * IntKind.i64.wrap (x.1 - t0))) = s + x.2 - rate * (x.1 - t0) := by
  have e1 : IntKind.i64.wrap (x.1 - t0) = x.1 - t0 := wr (by omega) (by omega)
  have m1 : rate * (x.1 - t0) ≤ 100000 * 100000 := by
    rcases Int.le_total 0 (x.1 - t0) with h | h
    · exact Int.mul_le_mul hr.2 (by omega) h (by omega)
    · have := Int.mul_nonneg hr.1 (show 0 ≤ t0 - x.1 by omega)
      have e : rate * (x.1 - t0) = -(rate * (t0 - x.1)) := by rw [← Int.mul_neg]; congr 1; omega
      omega
  have m2 : -(100000 * 100000) ≤ rate * (x.1 - t0) := by
    rcases Int.le_total 0 (x.1 - t0) with h | h
    · have := Int.mul_nonneg hr.1 h; omega
    · have := Int.mul_le_mul hr.2 (show t0 - x.1 ≤ 100000 by omega) (by omega) (by omega)
      have e : rate * (x.1 - t0) = -(rate * (t0 - x.1)) := by rw [← Int.mul_neg]; congr 1; omega
      omega
  rw [e1, wr (n := rate * (x.1 - t0)) (by omega) (by omega)]
  exact ⟨wr (by omega) (by omega), wr (by omega) (by omega)⟩

def winS (rate t0 : Int) (x : Int × Int) (t : Int × Int) : Int × Int := (max t.1 (IntKind.i64.wrap (IntKind.i64.wrap (t.2 + x.2) - IntKind.i64.wrap (rate * IntKind.i64.wrap (x.1 - t0)))), IntKind.i64.wrap (t.2 + x.2))

theorem win_fold {rate t0 : Int} (hr : 0 ≤ rate ∧ rate ≤ 100000) (ht : 0 ≤ t0 ∧ t0 ≤ 100000) : ∀ (r : List (Int × Int)) (i : Nat) (m s : Int), (∀ x ∈ r, 0 ≤ x.1 ∧ x.1 ≤ 100000 ∧ 1 ≤ x.2 ∧ x.2 ≤ 1500) → 0 ≤ s → s + 1500 * r.length ≤ 1000000 →
    (foldI (fun x _ t => winS rate t0 x t) r i (m, s)).1 = winM rate t0 s m r
  | [], i, m, s, _, _, _ => rfl
  | x :: r, i, m, s, h, h0, h1 => by
    have hx := h x (by simp)
    simp only [List.length_cons] at h1
    obtain ⟨w1, w2⟩ := win_wr hr ht (s := s) ⟨h0, by omega⟩ hx
    simp only [foldI, winM, winS, w1, w2]
    exact win_fold hr ht r (i + 1) _ _ (fun y hy => h y (by simp [hy])) (by omega) (by omega)

theorem tr_len {l : List (Int × Int)} (h : trOk l = true) : l.length ≤ 40 := by
  simp only [trOk, Bool.and_eq_true, decide_eq_true_eq] at h; omega

theorem tr_in {l : List (Int × Int)} (h : trOk l = true) : ∀ x ∈ l, 0 ≤ x.1 ∧ x.1 ≤ 100000 ∧ 1 ≤ x.2 ∧ x.2 ≤ 1500 := by
  simp only [trOk, Bool.and_eq_true, decide_eq_true_eq] at h
  intro x hx
  have := trF_in h.1 x hx; omega

theorem q_burstOf {d : Nat} {rate : Int} {l : List (Int × Int)} (hr : 0 ≤ rate ∧ rate ≤ 100000) (hl : trOk l = true) : g300 (d + 1) rate l = some (bv rate l) := by
  rw [e300]
  have hk := tr_len hl
  have hin := tr_in hl
  refine (iter_eq (fun s => some (bvF rate s.1 (l.drop s.2.toNat))) (fun s => l.length - s.2.toNat) (fun s => 0 ≤ s.2 ∧ s.2 ≤ (l.length : Int)) ?_ fuelN (0, 0) (by simp) (by rw [fuelN_eq]; simp; omega)).trans (by simp [bv])
  rintro ⟨m, n⟩ ag ⟨h1, h2⟩ hag
  simp only at h1 h2
  obtain ⟨i, rfl⟩ := Int.eq_ofNat_of_zero_le h1
  simp only [l300_0, l300_0_b, ofNat_toNat]
  rcases Nat.lt_or_ge i l.length with hlt | hge
  · have hx : l[i]? = some l[i] := List.getElem?_eq_getElem hlt
    have hxi := hin _ (List.getElem_mem hlt)
    rw [ltl hx, oif_t, nn, oif_t, show Nat.ble i l.length = true by rw [Nat.ble_eq]; omega, oif_t]
    refine (range_eq (fun (t : Int × Int) (j : Int) => (t.1, t.2, j)) (l.drop i) (fun x _ t k => k (winS rate l[i].1 x t)) (fun t => j300_1 d ag (i : Int) t.1 t.2 (((l.drop i).length : Nat) : Int)) ?_ ?_ (by rw [fuelN_eq]; simp; omega) (m, 0)).trans ?_
    · intro ag2 t j x hj
      have hi := (List.getElem?_eq_some_iff.1 hj).1
      simp only [l300_1, l300_1_b, ofNat_toNat, ltl hj, nn, oif_t, hj, ob_s, hx]
      rw [wr1 (by simp at hi; omega)]
      unfold winS
      have : ∀ a b : Int, (if a > b then a else b) = max b a := fun a b => by split <;> omega
      rw [this]
    · intro ag2 t
      simp only [l300_1, l300_1_b, ofNat_toNat, ltn, oif_f]
    · rw [rangeR_fold (f := fun x _ t => winS rate l[i].1 x t)]
      unfold j300_1
      rw [win_fold hr (by omega) (l.drop i) 0 m 0 (fun x hx => hin x (List.mem_of_mem_drop hx)) (by omega) (by simp; omega), wr1 (by omega)]
      rw [hag _ (by simp only; omega) (by simp only [ofNat_toNat]; omega)]
      simp only [ofNat_toNat]
      conv => rhs; rw [List.drop_eq_getElem_cons hlt]
      simp only [bvF]
      rw [← List.drop_eq_getElem_cons hlt]
  · have : i = l.length := by omega
    subst this
    rw [ltn, oif_f, List.drop_length]; rfl

theorem q_bnLeast {d : Nat} {rate : Int} {l : List (Int × Int)} (hr : 0 ≤ rate ∧ rate ≤ 100000) (hl : trOk l = true) : g302 (d + 2) rate l = some (bv rate l) := by
  rw [e302]
  have hk := tr_len hl
  have hin := tr_in hl
  refine (iter_eq (fun s => some (bvF rate s.1 (l.drop s.2.toNat))) (fun s => l.length - s.2.toNat) (fun s => 0 ≤ s.2 ∧ s.2 ≤ (l.length : Int)) ?_ fuelN (0, 0) (by simp) (by rw [fuelN_eq]; simp; omega)).trans (by simp [bv])
  rintro ⟨m, n⟩ ag ⟨h1, h2⟩ hag
  simp only at h1 h2
  obtain ⟨i, rfl⟩ := Int.eq_ofNat_of_zero_le h1
  simp only [l302_0, l302_0_b, ofNat_toNat]
  rcases Nat.lt_or_ge i l.length with hlt | hge
  · have hx : l[i]? = some l[i] := List.getElem?_eq_getElem hlt
    have hxi := hin _ (List.getElem_mem hlt)
    rw [ltl hx, oif_t, nn, oif_t, hx, ob_s, oif_t, show Nat.ble i l.length = true by rw [Nat.ble_eq]; omega, oif_t]
    refine (range_eq (fun (t : Int × Int) (j : Int) => (t.1, t.2, j)) (l.drop i) (fun x _ t k => k (winS rate l[i].1 x t)) (fun t => j302_1 (d + 1) ag (i : Int) t.1 t.2 (((l.drop i).length : Nat) : Int)) ?_ ?_ (by rw [fuelN_eq]; simp; omega) (m, 0)).trans ?_
    · intro ag2 t j x hj
      have hi := (List.getElem?_eq_some_iff.1 hj).1
      simp only [l302_1, l302_1_b, ofNat_toNat, ltl hj, nn, oif_t, hj, ob_s, q_l1Most]
      rw [wr1 (by simp at hi; omega)]
      rfl
    · intro ag2 t
      simp only [l302_1, l302_1_b, ofNat_toNat, ltn, oif_f]
    · rw [rangeR_fold (f := fun x _ t => winS rate l[i].1 x t)]
      unfold j302_1
      rw [win_fold hr (by omega) (l.drop i) 0 m 0 (fun x hx => hin x (List.mem_of_mem_drop hx)) (by omega) (by simp; omega), wr1 (by omega)]
      rw [hag _ (by simp only; omega) (by simp only [ofNat_toNat]; omega)]
      simp only [ofNat_toNat]
      conv => rhs; rw [List.drop_eq_getElem_cons hlt]
      simp only [bvF]
      rw [← List.drop_eq_getElem_cons hlt]
  · have : i = l.length := by omega
    subst this
    rw [ltn, oif_f, List.drop_length]; rfl

/-- No window from a place on needs more. -/
def wb (rate B t0 : Int) : Int → List (Int × Int) → Prop
  | _, [] => True
  | s, x :: r => s + x.2 - rate * (x.1 - t0) ≤ B ∧ wb rate B t0 (s + x.2) r

def allW (rate B : Int) : List (Int × Int) → Prop
  | [] => True
  | x :: r => wb rate B x.1 0 (x :: r) ∧ allW rate B r

theorem wb_mono {rate B C t0 : Int} (h : B ≤ C) : ∀ {r : List (Int × Int)} {s : Int}, wb rate B t0 s r → wb rate C t0 s r
  | [], _, _ => trivial
  | x :: r, s, hw => ⟨by have := hw.1; omega, wb_mono h hw.2⟩

theorem winM_wb {rate t0 : Int} : ∀ (r : List (Int × Int)) (s m : Int), m ≤ winM rate t0 s m r ∧ wb rate (winM rate t0 s m r) t0 s r
  | [], s, m => ⟨Int.le_refl _, trivial⟩
  | x :: r, s, m => by
    obtain ⟨h1, h2⟩ := winM_wb (rate := rate) (t0 := t0) r (s + x.2) (max m (s + x.2 - rate * (x.1 - t0)))
    simp only [winM]
    exact ⟨by omega, by omega, h2⟩

theorem bvF_all {rate : Int} : ∀ (l : List (Int × Int)) (m : Int), m ≤ bvF rate m l ∧ allW rate (bvF rate m l) l
  | [], m => ⟨Int.le_refl _, trivial⟩
  | x :: r, m => by
    obtain ⟨h1, h2⟩ := winM_wb (rate := rate) (t0 := x.1) (x :: r) 0 m
    obtain ⟨h3, h4⟩ := bvF_all (rate := rate) r (winM rate x.1 0 m (x :: r))
    simp only [bvF]
    exact ⟨by omega, wb_mono h3 h2, h4⟩

theorem winM_le {rate t0 : Int} (hr : 0 ≤ rate) : ∀ (r : List (Int × Int)) (s m B : Int), trF t0 r = true → m ≤ B → s + 1500 * r.length ≤ B → winM rate t0 s m r ≤ B
  | [], s, m, B, _, h, _ => h
  | x :: r, s, m, B, ht, h, h1 => by
    have hx := trF_in ht x (by simp)
    have h0 := Int.mul_nonneg hr (show 0 ≤ x.1 - t0 by omega)
    simp only [List.length_cons] at h1
    simp only [winM]
    refine winM_le hr r _ _ B ?_ (by omega) (by omega)
    have mono : ∀ {r : List (Int × Int)} {a b : Int}, a ≤ b → trF b r = true → trF a r = true := by
      intro r a b hab h
      cases r with
      | nil => rfl
      | cons y r => simp only [trF, Bool.and_eq_true, decide_eq_true_eq] at h ⊢; exact ⟨by omega, h.2⟩
    simp only [trF, Bool.and_eq_true] at ht
    exact mono hx.1 ht.2.2

theorem bvF_le {rate : Int} (hr : 0 ≤ rate) : ∀ (l : List (Int × Int)) (t m B : Int), trF t l = true → m ≤ B → 1500 * (l.length : Int) ≤ B → bvF rate m l ≤ B
  | [], t, m, B, _, h, _ => h
  | x :: r, t, m, B, ht, h, h1 => by
    have hx := trF_in ht x (by simp)
    simp only [trF, Bool.and_eq_true, decide_eq_true_eq] at ht
    simp only [bvF]
    have h1' := h1
    simp only [List.length_cons] at h1
    refine bvF_le hr r x.1 _ B ht.2.2 (winM_le hr (x :: r) 0 m B ?_ h (by omega)) (by omega)
    simp only [trF, Bool.and_eq_true, decide_eq_true_eq]
    exact ⟨by omega, ht.2⟩

theorem bv_in {rate : Int} {l : List (Int × Int)} (hr : 0 ≤ rate) (hl : trOk l = true) : 0 ≤ bv rate l ∧ bv rate l ≤ 60000 ∧ allW rate (bv rate l) l := by
  have hk := tr_len hl
  simp only [trOk, Bool.and_eq_true] at hl
  obtain ⟨h1, h2⟩ := bvF_all (rate := rate) l 0
  exact ⟨h1, bvF_le hr l 0 0 60000 hl.1 (by omega) (by omega), h2⟩

def lbV (rate : Int) (l : List (Int × Int)) : Int × Bool := if decide (0 ≤ rate ∧ rate ≤ 100000) && trOk l then (bv rate l, true) else (0, false)

theorem q_LeastBurst {d : Nat} {rate : Int} {l : List (Int × Int)} (hl : l.length < 4194304) : g130 (d + 3) rate l = some (lbV rate l) := by
  rw [e130]
  by_cases hr : 0 ≤ rate ∧ rate ≤ 100000
  case neg =>
    have e0 : lbV rate l = (0, false) := by unfold lbV; rw [decide_eq_false hr]; rfl
    rw [e0]
    by_cases h1 : rate < 0
    · rw [decide_eq_true h1, oif_t]
    · rw [decide_eq_false h1, oif_f, decide_eq_true (show rate > 100000 by omega), oif_t]
  rw [decide_eq_false (show ¬ rate < 0 by omega), oif_f, decide_eq_false (show ¬ rate > 100000 by omega), oif_f, q_isTrace hl, ob_s]
  unfold lbV
  rw [decide_eq_true hr, Bool.true_and]
  cases ht : trOk l with
  | false => rfl
  | true => rw [Bool.not_true, oif_f, q_burstOf hr ht, ob_s]; rfl

theorem q_sLeastBurst {d : Nat} {rate : Int} {l : List (Int × Int)} (hl : l.length < 4194304) : g131 (d + 3) rate l = some (lbV rate l) := by
  rw [e131, q_l1In, ob_s]
  unfold lbV
  by_cases hr : 0 ≤ rate ∧ rate ≤ 100000
  case neg => rw [decide_eq_false hr]; rfl
  rw [decide_eq_true hr, Bool.not_true, oif_f, q_bnTrace hl, ob_s, Bool.true_and]
  cases ht : trOk l with
  | false => rfl
  | true => rw [Bool.not_true, oif_f, q_bnLeast hr ht, ob_s]; rfl

def ctV (a : Int × Int) (l : List (Int × Int)) : Bool × Bool := if inOk a && trOk l then (decide (bv a.2 l ≤ a.1), true) else (false, false)

theorem q_ConformsTo {d : Nat} {a : Int × Int} {l : List (Int × Int)} (hl : l.length < 4194304) : g132 (d + 3) a l = some (ctV a l) := by
  rw [e132, q_IsInflow, ob_s]
  unfold ctV
  cases ha : inOk a with
  | false => rfl
  | true =>
  rw [Bool.not_true, oif_f, q_isTrace hl, ob_s, Bool.true_and]
  cases ht : trOk l with
  | false => rfl
  | true =>
  have ha' := ha
  simp only [inOk, decide_eq_true_eq] at ha'
  rw [Bool.not_true, oif_f, q_burstOf (by omega) ht, ob_s]; rfl

theorem q_sConformsTo {d : Nat} {a : Int × Int} {l : List (Int × Int)} (hl : l.length < 4194304) : g143 (d + 3) a l = some (ctV a l) := by
  rw [e143, q_bnInflow, ob_s]
  unfold ctV
  cases ha : inOk a with
  | false => rfl
  | true =>
  rw [Bool.not_true, oif_f, q_bnTrace hl, ob_s, Bool.true_and]
  cases ht : trOk l with
  | false => rfl
  | true =>
  have ha' := ha
  simp only [inOk, decide_eq_true_eq] at ha'
  rw [Bool.not_true, oif_f, q_bnLeast (by omega) ht, ob_s]; rfl

/-- When each is sent at the latest. -/
def ssF (s : Int × Int) : Int → Int → Int → List (Int × Int) → List Int
  | _, _, _, [] => []
  | f, u, e, x :: r =>
    let f' := if x.1 > e then x.1 else f
    let u' := (if x.1 > e then 0 else u) + x.2
    (f' + s.2 + upV u' s.1) :: ssF s f' u' (f' + s.2 + upV u' s.1) r

def ssV (s : Int × Int) (l : List (Int × Int)) : List Int × Bool := if svOk s && trOk l then (ssF s 0 0 (-1) l, true) else ([], false)

theorem ssF_len {s : Int × Int} : ∀ {l : List (Int × Int)} {f u e : Int}, (ssF s f u e l).length = l.length
  | [], _, _, _ => rfl
  | x :: r, f, u, e => by simp [ssF, ssF_len]

theorem ss_wr {s : Int × Int} {f u : Int} {x : Int × Int} (hs : svOk s = true) (hf : 0 ≤ f ∧ f ≤ 100000) (hu : 0 ≤ u ∧ u ≤ 1000000) (hx : 0 ≤ x.1 ∧ x.1 ≤ 100000 ∧ 1 ≤ x.2 ∧ x.2 ≤ 1500) :
    IntKind.i64.wrap (u + x.2) = u + x.2 ∧ IntKind.i64.wrap (IntKind.i64.wrap (f + s.2) + upV (u + x.2) s.1) = f + s.2 + upV (u + x.2) s.1 ∧ (1 ≤ s.1 ∧ s.1 ≤ 100000) ∧ 0 ≤ f + s.2 + upV (u + x.2) s.1 ∧ f + s.2 + upV (u + x.2) s.1 ≤ 10000000 := by
  simp only [svOk, decide_eq_true_eq] at hs
  obtain ⟨h1, h2⟩ := upV_in (a := u + x.2) (b := s.1) (by omega) hs.1
  rw [wr (n := f + s.2) (by omega) (by omega)]
  exact ⟨wr (by omega) (by omega), wr (by omega) (by omega), by omega, by omega, by omega⟩

theorem q_sSlowestSends {d : Nat} {s : Int × Int} {l : List (Int × Int)} (hl : l.length < 4194304) : g134 (d + 3) s l = some (ssV s l) := by
  rw [e134, q_bnService, ob_s]; unfold j134_2 ssV
  cases hs : svOk s with
  | false => rfl
  | true =>
  rw [Bool.not_true, oif_f, q_bnTrace hl, ob_s, Bool.true_and]
  cases ht : trOk l with
  | false => rfl
  | true =>
  have hk := tr_len ht
  have hin := tr_in ht
  rw [Bool.not_true, oif_f, if_pos rfl]
  refine (iter_eq (fun q => some (q.1 ++ ssF s q.2.1 q.2.2.1 q.2.2.2.1 (l.drop q.2.2.2.2.toNat), true)) (fun q => l.length - q.2.2.2.2.toNat) (fun q => ∃ i : Nat, q.2.2.2.2 = (i : Int) ∧ i ≤ l.length ∧ q.1.length = i ∧ (0 ≤ q.2.1 ∧ q.2.1 ≤ 100000) ∧ (0 ≤ q.2.2.1 ∧ q.2.2.1 ≤ 1500 * (i : Int))) ?_ fuelN ([], 0, 0, (-1), 0) ⟨0, rfl, by omega, rfl, by simp, by simp⟩ (by rw [fuelN_eq]; simp; omega)).trans (by simp)
  rintro ⟨o, f, u, e, n⟩ ag ⟨i, hn, h1, h2, h3, h4⟩ hag
  simp only at hn h2 h3 h4
  subst hn
  simp only [l134_0, l134_0_b, ofNat_toNat]
  rcases Nat.lt_or_ge i l.length with hlt | hge
  · have hx : l[i]? = some l[i] := List.getElem?_eq_getElem hlt
    have hxi := hin _ (List.getElem_mem hlt)
    rw [ltl hx, oif_t, nn, oif_t, hx, ob_s, List.drop_eq_getElem_cons hlt]
    have fin : ∀ (f u : Int) (b : Bool), (0 ≤ f ∧ f ≤ 100000) → (0 ≤ u ∧ u ≤ 1500 * (i : Int)) → j134_1 (d + 2) s ag o (i : Int) l[i] f u b = some (o ++ (f + s.2 + upV (u + l[i].2) s.1) :: ssF s f (u + l[i].2) (f + s.2 + upV (u + l[i].2) s.1) (l.drop (i + 1)), true) := by
      intro f u b hf hu
      unfold j134_1
      obtain ⟨w1, w2, w3, w4, w5⟩ := ss_wr hs hf (u := u) ⟨hu.1, by omega⟩ hxi
      rw [w1, q_bnUp (by omega) (by omega) w3.1 (by omega), ob_s, w2, room (by simp; omega), oif_t, wr1 (by omega), hag _ ⟨i + 1, rfl, by omega, by simp [h2], hf, by simp only; omega⟩ (by simp only [ofNat_toNat]; omega)]
      simp only [ofNat_toNat, List.append_assoc, List.singleton_append]
    by_cases hc : l[i].1 > e
    · rw [decide_eq_true hc, oif_t, fin _ _ _ (by omega) (by omega)]
      simp only [ssF, hc, if_true]
    · rw [decide_eq_false hc, oif_f, fin _ _ _ h3 h4]
      simp only [ssF, hc, if_false]
  · have : i = l.length := by omega
    subst this
    rw [ltn, oif_f, List.drop_length]; simp [ssF, j134_0]

theorem q_SlowestSends {d : Nat} {s : Int × Int} {l : List (Int × Int)} (hl : l.length < 4194304) : g133 (d + 3) s l = some (ssV s l) := by
  rw [e133, q_IsService, ob_s]; unfold j133_3 ssV
  cases hs : svOk s with
  | false => rfl
  | true =>
  rw [Bool.not_true, oif_f, q_isTrace hl, ob_s, Bool.true_and]
  cases ht : trOk l with
  | false => rfl
  | true =>
  have hk := tr_len ht
  have hin := tr_in ht
  rw [Bool.not_true, oif_f, if_pos rfl]
  refine (iter_eq (fun q => some (q.1 ++ ssF s q.2.1 q.2.2.1 (q.1.getLastD (-1)) (l.drop q.2.2.2.toNat), true)) (fun q => l.length - q.2.2.2.toNat) (fun q => ∃ i : Nat, q.2.2.2 = (i : Int) ∧ i ≤ l.length ∧ q.1.length = i ∧ (0 ≤ q.2.1 ∧ q.2.1 ≤ 100000) ∧ (0 ≤ q.2.2.1 ∧ q.2.2.1 ≤ 1500 * (i : Int))) ?_ fuelN ([], 0, 0, 0) ⟨0, rfl, by omega, rfl, by simp, by simp⟩ (by rw [fuelN_eq]; simp; omega)).trans (by simp)
  rintro ⟨o, f, u, n⟩ ag ⟨i, hn, h1, h2, h3, h4⟩ hag
  simp only at hn h2 h3 h4
  subst hn
  simp only [l133_0, l133_0_b, ofNat_toNat]
  rcases Nat.lt_or_ge i l.length with hlt | hge
  · have hx : l[i]? = some l[i] := List.getElem?_eq_getElem hlt
    have hxi := hin _ (List.getElem_mem hlt)
    rw [ltl hx, oif_t, nn, oif_t, hx, ob_s, List.drop_eq_getElem_cons hlt]
    have fin : ∀ (f u : Int) (b : Bool), (0 ≤ f ∧ f ≤ 100000) → (0 ≤ u ∧ u ≤ 1500 * (i : Int)) → j133_1 (d + 2) s ag o (i : Int) l[i] f u b = some (o ++ (f + s.2 + upV (u + l[i].2) s.1) :: ssF s f (u + l[i].2) (f + s.2 + upV (u + l[i].2) s.1) (l.drop (i + 1)), true) := by
      intro f u b hf hu
      unfold j133_1
      obtain ⟨w1, w2, w3, w4, w5⟩ := ss_wr hs hf (u := u) ⟨hu.1, by omega⟩ hxi
      rw [w1, q_divideUp (by omega) (by omega) w3.1 (by omega), ob_s, w2, room (by simp; omega), oif_t, wr1 (by omega), hag _ ⟨i + 1, rfl, by omega, by simp [h2], hf, by simp only; omega⟩ (by simp only [ofNat_toNat]; omega)]
      simp only [ofNat_toNat, List.append_assoc, List.singleton_append, List.getLastD_concat]
    cases hz : ((i : Int) == 0) with
    | true =>
      have hi : i = 0 := by simp at hz; omega
      have ho : o = [] := List.length_eq_zero_iff.1 (by omega)
      rw [oif_t]; unfold j133_2
      rw [oif_t, fin _ _ _ (by omega) (by omega), ho]
      have hc : l[i].1 > -1 := by omega
      simp only [ssF, List.getLastD_nil, hc, if_true]
    | false =>
      have hi : i ≠ 0 := by simp at hz; omega
      have e1 : IntKind.i64.wrap ((i : Int) - 1) = ((i - 1 : Nat) : Int) := by rw [wr (by omega) (by omega)]; omega
      have hlo : i - 1 < o.length := by omega
      have e2 : o[i - 1]? = some (o.getLastD (-1)) := by
        rw [List.getElem?_eq_getElem hlo, List.getLastD_eq_getLast?, List.getLast?_eq_getElem?, show o.length - 1 = i - 1 by omega, List.getElem?_eq_getElem hlo]; rfl
      rw [oif_f, e1, ofNat_toNat, nn, oif_t, blt_of hlo, oif_t, e2, ob_s]; unfold j133_2
      by_cases hc : l[i].1 > o.getLastD (-1)
      · rw [decide_eq_true hc, oif_t, fin _ _ _ (by omega) (by omega)]
        simp only [ssF, hc, if_true]
      · rw [decide_eq_false hc, oif_f, fin _ _ _ h3 h4]
        simp only [ssF, hc, if_false]
  · have : i = l.length := by omega
    subst this
    rw [ltn, oif_f, List.drop_length]; simp [ssF, j133_0]

theorem p_trace1 {d m : Nat} {c : List Int × Int × Int} {l : List (Int × Int)} (hc : CurOk m c) (hm : m < 200000) (hl : l.length ≤ 42) : Ok (j298_1 (d + 3) c.1 c.2.1 c.2.2 l) fun r => r.1.length ≤ 42 ∧ CurOk (m + 20) r.2 := by
  unfold j298_1 j298_0
  refine Ok.oif (fun h => ?_) (fun h => Ok.some ⟨hl, hc.mono (by omega)⟩)
  simp at h
  refine Ok.bind (p_one hc (by omega)) fun q hq => ?_
  refine Ok.oif (fun _ => ?_) (fun _ => Ok.some ⟨hl, hq.mono (by omega)⟩)
  refine Ok.bind (p_pick (c := (q.2.1, q.2.2.1, q.2.2.2)) hq (by omega)) fun u hu => ?_
  obtain ⟨u1, u2, u3⟩ := hu
  have hlt : u.1.toNat < l.length := by omega
  rw [decide_eq_true u1, oif_t, blt_of hlt, oif_t]
  refine Ok.bind (p_pick u3 (by omega)) fun v hv => ?_
  rw [List.getElem?_eq_getElem hlt]
  refine Ok.oif (fun _ => ?_) (fun _ => Ok.oif (fun _ => ?_) (fun _ => ?_))
  · exact Ok.bind (p_among hv.2.2 (by omega) (by simp)) fun w hw => by rw [ob_s]; exact Ok.some ⟨by simpa using hl, hw.2.mono (by omega)⟩
  · exact Ok.bind (p_among hv.2.2 (by omega) (by simp)) fun w hw => by rw [ob_s]; exact Ok.some ⟨by simpa using hl, hw.2.mono (by omega)⟩
  · rw [ob_s]; exact Ok.some ⟨by simpa using hl, hv.2.2.mono (by omega)⟩

theorem p_trace {d m : Nat} {c : List Int × Int × Int} (hc : CurOk m c) (hm : m < 100000) : Ok (g298 (d + 4) c) fun r => r.1.length ≤ 42 ∧ CurOk (m + 1000) r.2 := by
  rw [e298]
  refine Ok.bind (p_pick hc (by omega)) fun r hr => ?_
  refine Ok.bind (p_pick hr.2.2 (by omega)) fun r3 hr3 => ?_
  refine Ok.bind (p_one hr3.2.2 (by omega)) fun q hq => ?_
  have key : ∀ (n : Int) (c : List Int × Int × Int), n ≤ 42 → CurOk (m + 20) c → Ok (j298_2 (d + 3) r n c.1 c.2.1 c.2.2) fun r => r.1.length ≤ 42 ∧ CurOk (m + 1000) r.2 := by
    intro n c hn hc
    unfold j298_2
    refine iter_ok (fun k s => s.2.2.1 ≤ (k : Int) ∧ s.1.length + k ≤ 42 ∧ CurOk (m + 20 + 4 * s.1.length) s.2.2.2) ?_ _ 42 _ (by rw [fuelN_eq]; omega) ⟨hn, by simp, by simpa using hc⟩
    rintro k ⟨l, t, n, x⟩ ag ⟨h1, h2, h3⟩ hag
    simp only at h1 h2 h3
    simp only [l298_0, l298_0_b]
    refine Ok.oif (fun h => ?_) (fun h => ?_)
    · simp at h
      refine Ok.bind (p_among h3 (by omega) (by simp)) fun u hu => ?_
      rw [room (by simp; omega), oif_t]
      refine Ok.bind (p_among hu.2 (by omega) (by simp)) fun v hv => ?_
      exact hag (k - 1) _ (by omega) ⟨by simp only; rw [wr (by omega) (by omega)]; omega, by simp; omega, by simpa [Nat.mul_add, Nat.add_assoc] using hv.2⟩
    · exact (p_trace1 h3 (by omega) (by omega)).mono fun r hr => ⟨hr.1, hr.2.mono (by omega)⟩
  obtain ⟨a1, a2, _⟩ := hr3
  refine Ok.oif (fun _ => ?_) (fun _ => ?_)
  · refine Ok.bind (p_pick hq (by omega)) fun u hu => ?_
    obtain ⟨u1, u2, u3⟩ := hu
    refine key _ u.2 ?_ (u3.mono (by omega))
    rw [wr (by omega) (by omega)]; omega
  · exact key r3.1 q.2 (by omega) (hq.mono (by omega))

theorem p_DrawLeastBurst {d : Nat} {x : List Int} (hx : Bytes x) : Ok (g129 (d + 5) x) fun r => r.2.length ≤ 42 := by
  rw [e129]
  refine Ok.bind (p_among (CurOk.new hx) (by omega) (by simp)) fun r hr => ?_
  exact Ok.bind (p_trace hr.2 (by omega)) fun q hq => Ok.some hq.1

theorem p_DrawSlowestSends {d : Nat} {x : List Int} (hx : Bytes x) : Ok (g144 (d + 5) x) fun r => r.2.length ≤ 42 := by
  rw [e144]
  refine Ok.bind (p_service (CurOk.new hx) (by omega)) fun r hr => ?_
  exact Ok.bind (p_trace hr (by omega)) fun q hq => Ok.some hq.1

theorem p_DrawConformsTo {d : Nat} {x : List Int} (hx : Bytes x) : Ok (g142 (d + 5) x) fun r => r.2.length ≤ 42 := by
  rw [e142]
  refine Ok.bind (p_inflow (CurOk.new hx) (by omega)) fun r hr => ?_
  refine Ok.bind (p_trace hr (by omega)) fun q hq => ?_
  rw [q_bnTrace (by omega), ob_s]
  have key : ∀ (b : Bool) (c : List Int × Int × Int), (b = true → trOk q.1 = true ∧ inOk r.1 = true) → CurOk 2000 c → Ok (j142_0 (d + 4) r q b c.1 c.2.1 c.2.2) fun r => r.2.length ≤ 42 := by
    intro b c hb hc
    unfold j142_0
    refine Ok.oif (fun h => ?_) (fun _ => Ok.some hq.1)
    obtain ⟨h1, h2⟩ := hb h
    simp only [inOk, decide_eq_true_eq] at h2
    rw [q_bnLeast (by omega) h1, ob_s]
    refine Ok.bind (p_pick hc (by omega)) fun u hu => ?_
    rw [q_l1Most, ob_s]
    exact Ok.some hq.1
  cases ht : trOk q.1 with
  | false => rw [oif_f]; exact key false q.2 (fun h => by simp at h) (hq.2.mono (by omega))
  | true =>
    rw [oif_t, q_bnInflow, ob_s]
    cases hi : inOk r.1 with
    | false => rw [oif_f]; exact key false q.2 (fun h => by simp at h) (hq.2.mono (by omega))
    | true =>
      rw [oif_t]
      exact Ok.bind (p_one hq.2 (by omega)) fun u hu => key u.1 u.2 (fun _ => ⟨ht, hi⟩) (hu.mono (by omega))

def chF (t : Int × Int) (l : List (Int × Int)) : Int × Int := l.foldl (fun t x => (min t.1 x.1, t.2 + x.2)) t

def chOk (l : List (Int × Int)) : Bool := l.all svOk && decide (1 ≤ ((l.length : Nat) : Int) ∧ ((l.length : Nat) : Int) ≤ 8)

theorem chOk_in {l : List (Int × Int)} (h : chOk l = true) : (∀ x ∈ l, 1 ≤ x.1 ∧ x.1 ≤ 100000 ∧ 0 ≤ x.2 ∧ x.2 ≤ 10000) ∧ 1 ≤ l.length ∧ l.length ≤ 8 := by
  simp only [chOk, Bool.and_eq_true, List.all_eq_true, svOk, decide_eq_true_eq] at h
  exact ⟨h.1, by omega, by omega⟩

theorem chF_step {f : (Int × Int) → (Int × Int) → Int × Int} (hf : ∀ t x, (0 ≤ t.2 ∧ t.2 ≤ 1000000) → (0 ≤ x.2 ∧ x.2 ≤ 10000) → f x t = (min t.1 x.1, t.2 + x.2)) : ∀ (l : List (Int × Int)) (i : Nat) (t : Int × Int), (∀ x ∈ l, 0 ≤ x.2 ∧ x.2 ≤ 10000) → 0 ≤ t.2 → t.2 + 10000 * l.length ≤ 1000000 → foldI (fun x _ t => f x t) l i t = chF t l
  | [], i, t, _, _, _ => rfl
  | x :: r, i, t, h, h0, h1 => by
    have hx := h x (by simp)
    simp only [List.length_cons] at h1
    simp only [foldI, chF, List.foldl_cons]
    rw [hf t x ⟨h0, by omega⟩ hx]
    exact chF_step hf r (i + 1) _ (fun y hy => h y (by simp [hy])) (by simp only; omega) (by simp only; omega)

def csV2 (l : List (Int × Int)) : (Int × Int) × Bool := if chOk l && svOk (chF (100000, 0) l) then (chF (100000, 0) l, true) else ((0, 0), false)

theorem q_ChainServices {d : Nat} {l : List (Int × Int)} (hl : l.length < 4194304) : g140 (d + 2) l = some (csV2 l) := by
  rw [e140]; unfold j140_1
  by_cases h : 1 ≤ ((l.length : Nat) : Int) ∧ ((l.length : Nat) : Int) ≤ 8
  case neg =>
    have e0 : csV2 l = ((0, 0), false) := by unfold csV2 chOk; rw [decide_eq_false h, Bool.and_false]; rfl
    rw [e0]
    by_cases h1 : ((l.length : Nat) : Int) < 1
    · rw [decide_eq_true h1]; rfl
    · rw [decide_eq_false h1, decide_eq_true (show ((l.length : Nat) : Int) > 8 by omega)]; rfl
  rw [decide_eq_false (show ¬ ((l.length : Nat) : Int) < 1 by omega), decide_eq_false (show ¬ ((l.length : Nat) : Int) > 8 by omega)]
  simp only [oif_f]
  refine (range_eq (fun (t : Int × Int) (i : Int) => (false, i, t)) l (fun x _ t k => oif (svOk x) (k ((if x.1 < t.1 then x.1 else t.1), IntKind.i64.wrap (t.2 + x.2))) (some ((0, 0), false))) (fun t => j140_0 (d + 1) false t.1 t.2) ?_ ?_ (by rw [fuelN_eq]; exact hl) (100000, 0)).trans ?_
  · intro ag t i x hx; have hi := (List.getElem?_eq_some_iff.1 hx).1; simp only [l140_0, l140_0_b, ltl hx, bltl hx, nn, ofNat_toNat, hx, ob_s, oif_t]; rw [wr1 (by omega)]
    rw [q_IsService, ob_s]; cases svOk x <;> rfl
  · intro ag t; simp only [l140_0, l140_0_b, ltn, oif_f]
  · rw [rangeR_allf (p := svOk) (f := fun x t => ((if x.1 < t.1 then x.1 else t.1), IntKind.i64.wrap (t.2 + x.2)))]
    unfold csV2 chOk
    rw [decide_eq_true h, Bool.and_true]
    cases ha : l.all svOk with
    | false => rfl
    | true =>
    have hin : ∀ x ∈ l, 1 ≤ x.1 ∧ x.1 ≤ 100000 ∧ 0 ≤ x.2 ∧ x.2 ≤ 10000 := by simp only [List.all_eq_true, svOk, decide_eq_true_eq] at ha; exact ha
    have hfold : ∀ (l : List (Int × Int)) (t : Int × Int), l.foldl (fun t x => ((if x.1 < t.1 then x.1 else t.1), IntKind.i64.wrap (t.2 + x.2))) t = foldI (fun x _ t => ((if x.1 < t.1 then x.1 else t.1), IntKind.i64.wrap (t.2 + x.2))) l 0 t := by
      have gen : ∀ (l : List (Int × Int)) (i : Nat) (t : Int × Int), l.foldl (fun t x => ((if x.1 < t.1 then x.1 else t.1), IntKind.i64.wrap (t.2 + x.2))) t = foldI (fun x _ t => ((if x.1 < t.1 then x.1 else t.1), IntKind.i64.wrap (t.2 + x.2))) l i t := by
        intro l
        induction l with
        | nil => intro i t; rfl
        | cons x r ih => intro i t; simp only [List.foldl_cons, foldI]; exact ih (i + 1) _
      exact fun l t => gen l 0 t
    rw [hfold, chF_step (f := fun x t => ((if x.1 < t.1 then x.1 else t.1), IntKind.i64.wrap (t.2 + x.2))) (fun t x ht hx => by
      rw [wr (by omega) (by omega)]; congr 1; split <;> omega) l 0 (100000, 0) (fun x hx => (hin x hx).2.2) (by simp) (by simp; omega)]
    rw [oif_t]; unfold j140_0
    rw [q_IsService, ob_s, Bool.true_and]
    cases svOk (chF (100000, 0) l) <;> rfl

theorem q_bnServices {d : Nat} {l : List (Int × Int)} (hl : l.length < 4194304) : g312 (d + 3) l = some (chOk l) := by
  rw [e312]
  refine (range_eq (fun (t : Bool) (i : Int) => (t, i)) l (fun x _ t k => oif (svOk x) (k t) (some false)) (j312_0 (d + 2) l) ?_ ?_ (by rw [fuelN_eq]; exact hl) false).trans ?_
  · intro ag t i x hx; have hi := (List.getElem?_eq_some_iff.1 hx).1; simp only [l312_0, l312_0_b, ltl hx, bltl hx, nn, ofNat_toNat, hx, ob_s, oif_t]; rw [wr1 (by omega)]
    rw [q_bnService, ob_s]; cases svOk x <;> rfl
  · intro ag t; simp only [l312_0, l312_0_b, ltn, oif_f]
  · rw [rangeR_all (p := svOk)]; unfold j312_0; rw [q_l1In, ob_s]; unfold chOk; cases l.all svOk <;> rfl

theorem q_bnChain {d : Nat} {l : List (Int × Int)} (h : chOk l = true) : g313 (d + 2) l = some (chF (100000, 0) l) := by
  obtain ⟨hin, h1, h8⟩ := chOk_in h
  rw [e313]
  cases l with
  | nil => simp at h1
  | cons x r =>
    have hx := hin x (by simp)
    rw [List.getElem?_cons_zero, ob_s, show Nat.ble 1 (x :: r).length = true by rw [Nat.ble_eq]; exact h1, oif_t]
    refine (range_eq (fun (t : Int × Int) (i : Int) => (i, t)) ((x :: r).drop 1) (fun y _ t k => k (min t.1 y.1, IntKind.i64.wrap (t.2 + y.2))) (fun t => j313_0 (d + 1) t.1 t.2) ?_ ?_ (by rw [fuelN_eq]; simp at h8 ⊢; omega) x).trans ?_
    · intro ag t i y hy
      have hi := (List.getElem?_eq_some_iff.1 hy).1
      simp only [l313_0, l313_0_b, ltl hy, nn, ofNat_toNat, hy, ob_s, oif_t, q_l1Least]
      rw [wr1 (by simp at hi h8; omega)]
    · intro ag t; simp only [l313_0, l313_0_b, ltn, oif_f]
    · rw [rangeR_fold (f := fun (y : Int × Int) _ (t : Int × Int) => (min t.1 y.1, IntKind.i64.wrap (t.2 + y.2)))]
      simp only [List.drop_succ_cons, List.drop_zero]
      rw [chF_step (f := fun (y t : Int × Int) => (min t.1 y.1, IntKind.i64.wrap (t.2 + y.2))) (fun t x ht hx => by rw [wr (by omega) (by omega)]) r 0 x (fun y hy => (hin y (by simp [hy])).2.2) (by omega) (by simp at h8; omega)]
      unfold j313_0
      have : chF (100000, 0) (x :: r) = chF x r := by
        simp only [chF, List.foldl_cons]
        congr 1
        obtain ⟨a, b⟩ := x
        simp only at hx ⊢
        congr 1 <;> omega
      rw [this]

theorem q_sChainServices {d : Nat} {l : List (Int × Int)} (hl : l.length < 4194304) : g141 (d + 4) l = some (csV2 l) := by
  rw [e141, q_bnServices hl, ob_s]
  unfold csV2
  cases h : chOk l with
  | false => rfl
  | true => rw [Bool.not_true, oif_f, q_bnChain h, ob_s, q_bnService, ob_s, ob_s, Bool.true_and]; cases svOk (chF (100000, 0) l) <;> rfl

/-- The sum of the delays along a chain. -/
def cdF (r : Int) : Int → List (Int × Int) → Option Int
  | _, [] => some 0
  | b, [s] => some (dlV (b, r) s)
  | b, s :: s2 :: l => if inOk (backV (b, r) s, r) then (cdF r (backV (b, r) s) (s2 :: l)).map (dlV (b, r) s + ·) else none

def cdV (a : Int × Int) (l : List (Int × Int)) : Int × Int × Bool :=
  if chOk l && (svOk (chF (100000, 0) l) && both a (chF (100000, 0) l)) then match cdF a.2 a.1 l with
    | some v => (v, dlV a (chF (100000, 0) l), true)
    | none => (0, 0, false)
  else (0, 0, false)

theorem chF_le : ∀ {l : List (Int × Int)} {t : Int × Int}, (chF t l).1 ≤ t.1 ∧ ∀ x ∈ l, (chF t l).1 ≤ x.1
  | [], t => ⟨Int.le_refl _, by simp⟩
  | x :: r, t => by
    obtain ⟨h1, h2⟩ := chF_le (l := r) (t := (min t.1 x.1, t.2 + x.2))
    simp only [chF, List.foldl_cons] at h1 h2 ⊢
    refine ⟨by omega, fun y hy => ?_⟩
    rcases List.mem_cons.1 hy with rfl | hy
    · omega
    · exact h2 y hy

theorem bothAll {a : Int × Int} {l : List (Int × Int)} (hc : chOk l = true) (hb : both a (chF (100000, 0) l) = true) : ∀ x ∈ l, ∀ b, inOk (b, a.2) = true → both (b, a.2) x = true ∧ svOk x = true := by
  obtain ⟨hin, _, _⟩ := chOk_in hc
  obtain ⟨h1, h2, h3⟩ := both_in hb
  intro x hx b hi
  have h4 := (chF_le (l := l) (t := (100000, 0))).2 x hx
  have h5 := hin x hx
  have hs : svOk x = true := by simp [svOk]; omega
  refine ⟨?_, hs⟩
  simp only [both, hi, hs, Bool.true_and, decide_eq_true_eq]; omega

theorem dl_in {b r : Int} {s : Int × Int} (hi : inOk (b, r) = true) (hs : svOk s = true) : 0 ≤ dlV (b, r) s ∧ dlV (b, r) s ≤ 2000000000 := by
  simp only [inOk, svOk, decide_eq_true_eq] at hi hs
  obtain ⟨h1, h2⟩ := upV_in (a := b) (b := s.1) (by omega) (by omega)
  unfold dlV; simp only; omega

theorem q_sChainDelays {d : Nat} {a : Int × Int} {l : List (Int × Int)} (hl : l.length < 4194304) : g138 (d + 5) a l = some (cdV a l) := by
  rw [e138, q_bnServices hl, ob_s]; unfold j138_1 cdV
  cases hc : chOk l with
  | false => rfl
  | true =>
  rw [Bool.not_true, oif_f, q_bnChain hc, ob_s, q_bnService, ob_s, Bool.true_and]
  cases hs : svOk (chF (100000, 0) l) with
  | false => rfl
  | true =>
  rw [Bool.not_true, oif_f, ob_s, q_bnBoth, ob_s, Bool.true_and]
  cases hb : both a (chF (100000, 0) l) with
  | false => rfl
  | true =>
  rw [Bool.not_true, oif_f, if_pos rfl]
  obtain ⟨hin, h1, h8⟩ := chOk_in hc
  obtain ⟨b1, b2, b3⟩ := both_in hb
  have hall := bothAll hc hb
  have fin : ∀ (v : Int), j138_0 (d + 4) a l 0 0 false v 0 0 = some (v, dlV a (chF (100000, 0) l), true) ∧ ∀ x y, j138_0 (d + 4) a l 0 0 false v x y = some (v, dlV a (chF (100000, 0) l), true) := by
    intro v
    unfold j138_0
    rw [q_bnChain hc, ob_s, q_bnDelay (by omega) (by omega) hs, ob_s]
    exact ⟨rfl, fun _ _ => rfl⟩
  refine (iter_eq (fun q => match cdF a.2 q.2.2.2.2.2.1 (l.drop q.2.2.2.2.1.toNat) with
      | some v => some (q.2.2.2.1 + v, dlV a (chF (100000, 0) l), true)
      | none => some (0, 0, false)) (fun q => l.length - q.2.2.2.2.1.toNat) (fun q => ∃ (i : Nat) (v b : Int), q = (0, 0, false, v, (i : Int), (b, a.2)) ∧ i < l.length ∧ inOk (b, a.2) = true ∧ 0 ≤ v ∧ v ≤ 2000000000 * i) ?_ fuelN (0, 0, false, 0, 0, a) ⟨0, 0, a.1, rfl, by omega, by simp [inOk]; omega, by omega, by omega⟩ (by rw [fuelN_eq]; simp; omega)).trans ?_
  · rintro _ ag ⟨i, v, b, rfl, hlt, hi, hv, hv2⟩ hag
    simp only [l138_0, l138_0_b, ofNat_toNat]
    have hx : l[i]? = some l[i] := List.getElem?_eq_getElem hlt
    obtain ⟨hbx, hsx⟩ := hall _ (List.getElem_mem hlt) b hi
    obtain ⟨d1, d2⟩ := dl_in hi hsx
    obtain ⟨c1, c2, c3⟩ := both_in hbx
    have hxi := hin _ (List.getElem_mem hlt)
    rw [ltl hx, oif_t, nn, oif_t, hx, ob_s, q_bnDelay (by simp only; omega) (by simp only; omega) hsx, ob_s, wr (n := ((l.length : Nat) : Int) - 1) (by omega) (by omega), wr (n := v + _) (by omega) (by omega)]
    rw [List.drop_eq_getElem_cons hlt]
    rcases Nat.lt_or_ge (i + 1) l.length with hlt2 | hge
    · have e1 : ((i : Int) == ((l.length : Nat) : Int) - 1) = false := by simp; omega
      have eb : g316 (d + 4) (b, a.2) l[i] = some (backV (b, a.2) l[i]) := by rw [e316, backV_wr hbx]
      rw [e1, oif_f, eb, ob_s, q_bnInflow, ob_s, List.drop_eq_getElem_cons hlt2]
      simp only [cdF]
      cases hk : inOk (backV (b, a.2) l[i], a.2) with
      | false => rfl
      | true =>
        rw [Bool.not_true, oif_f, wr1 (by omega), hag _ ⟨i + 1, _, _, rfl, hlt2, hk, by omega, by omega⟩ (by simp only [ofNat_toNat]; omega)]
        simp only [ofNat_toNat, if_true]
        rw [List.drop_eq_getElem_cons hlt2]
        cases cdF a.2 (backV (b, a.2) l[i]) (l[i + 1] :: l.drop (i + 1 + 1)) with
        | none => rfl
        | some w => simp only [Option.map_some, Int.add_assoc]
    · have hn : l.drop (i + 1) = [] := List.drop_eq_nil_of_le hge
      have e1 : ((i : Int) == ((l.length : Nat) : Int) - 1) = true := by simp; omega
      rw [e1, oif_t, hn]
      simp only [cdF]
      exact (fin _).2 _ _
  · simp only [Int.toNat_zero, List.drop_zero, Int.zero_add]
    cases cdF a.2 a.1 l <;> rfl

theorem q_ChainDelays {d : Nat} {a : Int × Int} {l : List (Int × Int)} (hl : l.length < 4194304) : g137 (d + 5) a l = some (cdV a l) := by
  rw [e137, q_ChainServices hl, ob_s]; unfold cdV csV2
  cases hc : chOk l with
  | false => rfl
  | true =>
  cases hs : svOk (chF (100000, 0) l) with
  | false => rfl
  | true =>
  simp only [Bool.and_self, if_true, Bool.not_true, oif_f, q_DelayBound, ob_s]
  cases hb : both a (chF (100000, 0) l) with
  | false => simp only [dbV, hb, Bool.false_eq_true, if_false, Bool.not_false, oif_t, Bool.and_false]
  | true =>
  simp only [dbV, hb, if_true, Bool.not_true, oif_f, Bool.and_self]
  obtain ⟨hin, h1, h8⟩ := chOk_in hc
  obtain ⟨b1, b2, b3⟩ := both_in hb
  have hall := bothAll hc hb
  have step : ∀ (f : Nat) (i : Nat) (ok : Bool) (v b : Int), i < l.length → l.length < f + i → inOk (b, a.2) = true → 0 ≤ v → v ≤ 2000000000 * i → (i = 0 ∨ ∃ (p : Int × Int) (b0 : Int), l[i - 1]? = some p ∧ inOk (b0, a.2) = true ∧ backV (b0, a.2) p = b ∧ both (b0, a.2) p = true) →
      ∀ b1, (i = 0 → b1 = b) → (∀ p b0, i ≠ 0 → l[i - 1]? = some p → inOk (b0, a.2) = true → backV (b0, a.2) p = b → both (b0, a.2) p = true → b1 = b0 → True) →
      (i ≠ 0 → ∃ p, l[i - 1]? = some p ∧ inOk (b1, a.2) = true ∧ backV (b1, a.2) p = b ∧ both (b1, a.2) p = true) →
      iterP (l137_0 (d + 4) l (j137_0 (d + 4) (dlV a (chF (100000, 0) l), true))) f (0, 0, false, ok, v, (i : Int), (b1, a.2)) = match cdF a.2 b (l.drop i) with
      | some w => some (v + w, dlV a (chF (100000, 0) l), true)
      | none => some (0, 0, false) := by
    intro f
    induction f with
    | zero => intro i ok v b hlt hf; omega
    | succ f ih =>
      intro i ok v b hlt hf hi hv hv2 _ b1 hb1 _ hb2
      have hx : l[i]? = some l[i] := List.getElem?_eq_getElem hlt
      obtain ⟨hbx, hsx⟩ := hall _ (List.getElem_mem hlt) b hi
      obtain ⟨d1, d2⟩ := dl_in hi hsx
      have main : ∀ (ok1 ok2 : Bool), j137_1 (d + 4) (iterP (l137_0 (d + 4) l (j137_0 (d + 4) (dlV a (chF (100000, 0) l), true))) f) 0 0 false v (i : Int) l[i] ok1 ok2 b a.2 = match cdF a.2 b (l.drop i) with
          | some w => some (v + w, dlV a (chF (100000, 0) l), true)
          | none => some (0, 0, false) := by
        intro ok1 ok2
        unfold j137_1
        rw [q_DelayBound, ob_s]
        simp only [dbV, hbx, if_true, Bool.not_true, oif_f]
        rw [wr (n := v + _) (by omega) (by omega), wr1 (by omega), List.drop_eq_getElem_cons hlt]
        rcases Nat.lt_or_ge (i + 1) l.length with hlt2 | hge
        · rw [List.drop_eq_getElem_cons hlt2]
          simp only [cdF]
          cases hk : inOk (backV (b, a.2) l[i], a.2) with
          | true =>
            have := ih (i + 1) ok1 (v + dlV (b, a.2) l[i]) (backV (b, a.2) l[i]) hlt2 (by omega) hk (by omega) (by omega) (.inr ⟨l[i], b, by simpa using hx, hi, rfl, hbx⟩) b (by omega) (fun _ _ _ _ _ _ _ _ => trivial) (fun _ => ⟨l[i], by simpa using hx, hi, rfl, hbx⟩)
            rw [this, List.drop_eq_getElem_cons hlt2]
            simp only [if_true]
            cases cdF a.2 (backV (b, a.2) l[i]) (l[i + 1] :: l.drop (i + 1 + 1)) with
            | none => rfl
            | some w => simp only [Option.map_some, Int.add_assoc]
          | false =>
            cases f with
            | zero => omega
            | succ f =>
              have hx2 : l[i + 1]? = some l[i + 1] := List.getElem?_eq_getElem hlt2
              simp only [iterP, l137_0, l137_0_b]
              rw [ltl hx2, oif_t, nn, oif_t, ofNat_toNat, hx2, ob_s, decide_eq_true (show ((i + 1 : Nat) : Int) > 0 by omega), oif_t, show IntKind.i64.wrap (((i + 1 : Nat) : Int) - 1) = (i : Int) by rw [wr (by omega) (by omega)]; omega, nn, oif_t, ofNat_toNat, hx, ob_s, q_OutputInflow, ob_s]
              simp only [outV, hbx, hk, Bool.and_false, Bool.false_eq_true, if_false, Bool.not_false, oif_t]
        · have hn : l.drop (i + 1) = [] := List.drop_eq_nil_of_le hge
          rw [hn]; simp only [cdF]
          cases f with
          | zero => omega
          | succ f =>
            have : i + 1 = l.length := by omega
            simp only [iterP, l137_0, l137_0_b]
            rw [this, ltn, oif_f]; rfl
      simp only [iterP, l137_0, l137_0_b, ofNat_toNat]
      rw [ltl hx, oif_t, nn, oif_t, hx, ob_s]
      cases i with
      | zero =>
        rw [decide_eq_false (by omega), oif_f, hb1 rfl]
        exact main ok false
      | succ i =>
        obtain ⟨p, p1, p2, p3, p4⟩ := hb2 (by omega)
        rw [decide_eq_true (by omega), oif_t, show IntKind.i64.wrap (((i + 1 : Nat) : Int) - 1) = (i : Int) by rw [wr (by omega) (by omega)]; omega, nn, oif_t, ofNat_toNat]
        simp only [Nat.add_sub_cancel] at p1
        rw [p1, ob_s, q_OutputInflow, ob_s]
        simp only [outV, p4, p3, hi, Bool.and_self, if_true, Bool.not_true, oif_f]
        exact main true true
  have := step fuelN 0 true 0 a.1 (by omega) (by rw [fuelN_eq]; omega) (by simp [inOk]; omega) (by omega) (by omega) (.inl rfl) a.1 (fun _ => rfl) (fun _ _ h => absurd rfl h) (fun h => absurd rfl h)
  refine Eq.trans this ?_
  simp only [List.drop_zero, Int.zero_add]
  cases cdF a.2 a.1 l <;> rfl

theorem upV_mono {a b r : Int} (h : a ≤ b) (hr : 1 ≤ r) : upV a r ≤ upV b r := Int.ediv_le_ediv (by omega) (by omega)

/-- A burst is paid once. -/
theorem cdF_more {r : Int} : ∀ (l : List (Int × Int)) (b b0 v : Int) (t : Int × Int), cdF r b l = some v → 0 ≤ b0 → b0 ≤ b → (∀ x ∈ l, 1 ≤ x.1 ∧ 0 ≤ x.2) → 0 ≤ r → 1 ≤ t.1 → (chF t l).2 + upV b0 (chF t l).1 ≤ t.2 + upV b0 t.1 + v
  | [], b, b0, v, t, h, h0, hb, hx, hr, ht => by
    simp only [cdF, Option.some.injEq] at h
    subst h; simp [chF]
  | s :: l, b, b0, v, t, h, h0, hb, hx, hr, ht => by
    have hs := hx s (by simp)
    have hu : upV b0 (min t.1 s.1) ≤ upV b0 t.1 + upV b s.1 := by
      have h1 := (upV_in h0 ht).1
      have h2 := (upV_in h0 hs.1).1
      have h3 := upV_mono hb hs.1
      rcases Int.le_total t.1 s.1 with h | h
      · rw [show min t.1 s.1 = t.1 by omega]; omega
      · rw [show min t.1 s.1 = s.1 by omega]; omega
    have key : ∀ (b' w : Int), cdF r b' l = some w → b0 ≤ b' → (chF t (s :: l)).2 + upV b0 (chF t (s :: l)).1 ≤ t.2 + upV b0 t.1 + (dlV (b, r) s + w) := by
      intro b' w h hb'
      have := cdF_more l b' b0 w (min t.1 s.1, t.2 + s.2) h h0 hb' (fun x hx' => hx x (by simp [hx'])) hr (by simp only; omega)
      simp only [chF, List.foldl_cons] at this ⊢
      unfold dlV; simp only at this ⊢; omega
    cases l with
    | nil =>
      simp only [cdF, Option.some.injEq] at h
      subst h
      have := key b 0 rfl hb
      simpa using this
    | cons s2 l =>
      simp only [cdF] at h
      split at h
      · cases hc : cdF r (backV (b, r) s) (s2 :: l) with
        | none => rw [hc] at h; simp at h
        | some w =>
          rw [hc] at h
          simp only [Option.map_some, Option.some.injEq] at h
          have hbb : b ≤ backV (b, r) s := by
            have := Int.mul_nonneg hr hs.2
            unfold backV; simp only; omega
          rw [← h]; exact key _ w hc (by omega)
      · simp at h

theorem cdV_once {a : Int × Int} {l : List (Int × Int)} (h : (cdV a l).2.2 = true) : (cdV a l).2.1 ≤ (cdV a l).1 := by
  unfold cdV at h ⊢
  split at h
  · rename_i hc
    rw [if_pos hc]
    simp only [Bool.and_eq_true] at hc
    obtain ⟨hin, h1, h8⟩ := chOk_in hc.1
    obtain ⟨b1, b2, b3⟩ := both_in hc.2.2
    cases hcd : cdF a.2 a.1 l with
    | none => rw [hcd] at h; simp at h
    | some v =>
      simp only
      cases l with
      | nil => simp at h1
      | cons s l =>
        have hs := hin s (by simp)
        have e : chF (100000, 0) (s :: l) = chF (s.1, s.2) l := by
          simp only [chF, List.foldl_cons]
          congr 1
          congr 1 <;> omega
        rw [e]
        have hx : ∀ x ∈ l, 1 ≤ x.1 ∧ 0 ≤ x.2 := fun x hx => by have := hin x (by simp [hx]); omega
        unfold dlV
        cases l with
        | nil => simp only [cdF, Option.some.injEq] at hcd; subst hcd; simp [chF, dlV]
        | cons s2 l =>
          simp only [cdF] at hcd
          split at hcd
          · cases hc2 : cdF a.2 (backV (a.1, a.2) s) (s2 :: l) with
            | none => rw [hc2] at hcd; simp at hcd
            | some w =>
              rw [hc2] at hcd
              simp only [Option.map_some, Option.some.injEq] at hcd
              have hbb : a.1 ≤ backV (a.1, a.2) s := by
                have := Int.mul_nonneg b1.2.2.1 hs.2.2.1
                unfold backV; simp only; omega
              have := cdF_more (s2 :: l) _ a.1 w (s.1, s.2) hc2 b1.1 hbb hx b1.2.2.1 hs.1
              rw [← hcd]; unfold dlV; simp only at this ⊢; omega
          · simp at hcd
  · simp at h

theorem p_services {d m : Nat} {c : List Int × Int × Int} (hc : CurOk m c) (hm : m < 50000) : Ok (g310 (d + 5) c) fun r => r.1.length ≤ 20 ∧ CurOk (m + 1000) r.2 := by
  rw [e310]
  refine Ok.bind (p_pick hc (by omega)) fun r hr => ?_
  refine Ok.bind (p_one hr.2.2 (by omega)) fun q hq => ?_
  have key : ∀ (n : Int) (c : List Int × Int × Int), n ≤ 20 → CurOk (m + 20) c → Ok (j310_1 (d + 4) n c.1 c.2.1 c.2.2) fun r => r.1.length ≤ 20 ∧ CurOk (m + 1000) r.2 := by
    intro n c hn hc
    unfold j310_1
    refine iter_ok (fun k s => s.2.1 ≤ (k : Int) ∧ s.1.length + k ≤ 20 ∧ CurOk (m + 20 + 20 * s.1.length) s.2.2) ?_ _ 20 _ (by rw [fuelN_eq]; omega) ⟨hn, by simp, by simpa using hc⟩
    rintro k ⟨l, n, x⟩ ag ⟨h1, h2, h3⟩ hag
    simp only at h1 h2 h3
    simp only [l310_0, l310_0_b]
    refine Ok.oif (fun h => ?_) (fun h => ?_)
    · simp at h
      refine Ok.bind (p_service h3 (by omega)) fun u hu => ?_
      rw [room (by simp; omega), oif_t]
      exact hag (k - 1) _ (by omega) ⟨by simp only; rw [wr (by omega) (by omega)]; omega, by simp; omega, by simpa [Nat.mul_add, Nat.add_assoc] using hu⟩
    · unfold j310_0
      exact Ok.some ⟨by simp only; omega, CurOk.mono (c := (x.1, x.2.1, x.2.2)) h3 (by omega)⟩
  refine Ok.oif (fun _ => ?_) (fun _ => ?_)
  · refine Ok.bind (p_among hq (by omega) (by simp)) fun u hu => ?_
    refine key u.1 u.2 ?_ (hu.2.mono (by omega))
    have := hu.1; simp at this; omega
  · have h1 := hr.1; have h2 := hr.2.1
    rw [wr (by omega) (by omega)]
    exact key _ q.2 (by omega) (hq.mono (by omega))

theorem p_DrawChainDelays {d : Nat} {x : List Int} (hx : Bytes x) : Ok (g136 (d + 6) x) fun r => r.2.length ≤ 20 := by
  rw [e136]
  refine Ok.bind (p_inflow (CurOk.new hx) (by omega)) fun r hr => ?_
  exact Ok.bind (p_services hr (by omega)) fun q hq => Ok.some hq.1

theorem p_DrawChainServices {d : Nat} {x : List Int} (hx : Bytes x) : Ok (g139 (d + 6) x) fun r => r.length ≤ 20 := by
  rw [e139]
  exact Ok.bind (p_services (CurOk.new hx) (by omega)) fun q hq => Ok.some hq.1

end Go.Proofs.Ytcoojpojnmnboaa
