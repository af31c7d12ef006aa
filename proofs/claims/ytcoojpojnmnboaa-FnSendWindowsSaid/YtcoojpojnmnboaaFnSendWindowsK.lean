/-
  What the cursor's functions and the small ones give by value.
  Conditions: the cursor has not been moved 2^62 times.
  Comparing and adding up lists of numbers; ranges.
  Conditions: the lists are shorter than the fuel.
  Inflows and services: what is valid, bounds, sums, leftovers, in both packages; the draws.
  Conditions: none, but those of the cursor for the draws.
  Traces of arrivals: least bursts, slowest sends, in both packages; the draws.
  Conditions: none, but those of the cursor for the draws.
  Buckets: filling, spending, waiting, in both packages; the draws.
  Conditions: those of the cursor for the draws.
  Sends: valid ones, in both packages; the draws.
  Conditions: none, but those of the cursor for the draws.
  Policers over sends: filling, colours, runs, bytes of colours, in both packages; the draws.
  Conditions: none, but those of the cursor for the draws.
  Sends through a bucket: runs, conformity, the least cap, the worst window, in both packages; the draws.
  Conditions: none, but those of the cursor for the draws.
-/
import Derived.Test.YtcoojpojnmnboaaFnSendWindowsRes
import Derived.Test.YtcoojpojnmnboaaPKit2
set_option linter.all false
namespace Go.Proofs.Ytcoojpojnmnboaa
open Go.Ev Go.Pv

theorem p_next {d m : Nat} {c : List Int × Int × Int} (hc : CurOk m c) (hm : m < 4611686018427387904) : Ok (g352 (d + 1) c) fun r => 0 ≤ r.1 ∧ r.1 < 256 ∧ CurOk (m + 1) r.2 := by
  obtain ⟨hb, h0, h1⟩ := hc
  obtain ⟨code, at', seed⟩ := c
  simp only at hb h0 h1
  have hw : IntKind.i64.wrap (at' + 1) = at' + 1 := wr (by omega) (by omega)
  rw [e352]
  have fin : ∀ n : Int, (at' < code.length → 0 ≤ n ∧ n < 256) → Ok (j352_0 d (code, at', seed) n) fun r => 0 ≤ r.1 ∧ r.1 < 256 ∧ CurOk (m + 1) r.2 := by
    intro n hn
    unfold j352_0
    simp only [hw]
    refine Ok.oif (fun h => ?_) (fun h => ?_)
    · simp only [decide_eq_true_eq] at h
      obtain ⟨a, b⟩ := hn (by omega)
      exact Ok.some ⟨a, b, hb, by simp only; omega, by simp only; omega⟩
    · exact Ok.some ⟨(seedByte _).1, (seedByte _).2, hb, by simp only; omega, by simp only; omega⟩
  refine Ok.oif (fun h => ?_) (fun h => ?_)
  · simp only [decide_eq_true_eq] at h
    refine Ok.oif (fun _ => ?_) (fun h2 => by simp only [decide_eq_false_iff_not] at h2; omega)
    have hlt : at'.toNat < code.length := by omega
    simp only
    rw [List.getElem?_eq_getElem hlt]
    have hx := hb _ (List.getElem_mem hlt)
    refine Ok.bind (Ok.some rfl) (fun a ha => ?_)
    subst ha
    exact fin _ (fun _ => by rw [wr (by omega) (by omega)]; exact hx)
  · simp only [decide_eq_false_iff_not] at h
    exact fin 0 (fun h' => absurd h' h)

theorem p_pick {d m : Nat} {c : List Int × Int × Int} {n : Int} (hc : CurOk m c) (hm : m + 1 < 4611686018427387904) : Ok (g203 (d + 2) c n) fun r => 0 ≤ r.1 ∧ (r.1 < n ∨ r.1 = 0) ∧ CurOk (m + 2) r.2 := by
  rw [e203]
  refine Ok.oif (fun h => ?_) (fun h => ?_)
  · exact Ok.some ⟨by simp, .inr rfl, hc.mono (by omega)⟩
  · simp only [decide_eq_false_iff_not] at h
    refine Ok.bind (p_next hc (by omega)) (fun r hr => ?_)
    obtain ⟨h1, h2, h3⟩ := hr
    have hn : (n == 0) = false := by simp; omega
    refine Ok.oif (fun h4 => ?_) (fun h4 => ?_)
    · refine Ok.bind (p_next h3 (by omega)) (fun q hq => ?_)
      obtain ⟨h5, h6, h7⟩ := hq
      rw [hn]
      rw [wr (n := r.1 * 256) (by omega) (by omega), wr (by omega) (by omega)]
      exact Ok.some ⟨Int.tmod_nonneg _ (by omega), .inl (Int.tmod_lt_of_pos _ (by omega)), h7.mono (by omega)⟩
    · rw [hn]
      exact Ok.some ⟨Int.tmod_nonneg _ (by omega), .inl (Int.tmod_lt_of_pos _ (by omega)), h3.mono (by omega)⟩

theorem p_among {d m : Nat} {c : List Int × Int × Int} {l : List Int} (hc : CurOk m c) (hm : m + 1 < 4611686018427387904) (hl : 0 < l.length) : Ok (g190 (d + 3) c l) fun r => r.1 ∈ l ∧ CurOk (m + 2) r.2 := by
  rw [e190]
  refine Ok.bind (p_pick hc hm) (fun r hr => ?_)
  obtain ⟨h1, h2, h3⟩ := hr
  refine Ok.oif (fun _ => ?_) (fun h => by simp only [decide_eq_false_iff_not] at h; omega)
  have hlt : r.1.toNat < l.length := by omega
  rw [List.getElem?_eq_getElem hlt]
  exact Ok.bind (Ok.some rfl) (fun a ha => by subst ha; exact Ok.some ⟨List.getElem_mem hlt, h3⟩)

theorem p_one {d m : Nat} {c : List Int × Int × Int} {n : Int} (hc : CurOk m c) (hm : m + 1 < 4611686018427387904) : Ok (g230 (d + 3) c n) fun r => CurOk (m + 2) r.2 := by
  rw [e230]
  exact Ok.bind (p_pick hc hm) (fun r hr => Ok.some hr.2.2)

theorem q_l1In {d : Nat} {x y z : Int} : g211 (d + 1) x y z = some (decide (y ≤ x ∧ x ≤ z)) := by
  rw [e211]; simp only [oif_ss]; congr 1; rw [Bool.eq_iff_iff]; simp

theorem q_l1Least {d : Nat} {x y : Int} : g274 (d + 1) x y = some (min x y) := by
  rw [e274]; simp only [oif_ss]; congr 1; split <;> simp_all <;> omega

theorem q_isTicks {d : Nat} {x : Int} : g205 (d + 1) x = some (decide (0 ≤ x ∧ x ≤ 100000)) := by
  rw [e205]; simp only [oif_ss]; congr 1; rw [Bool.eq_iff_iff]; simp

def szOk (s : Int) : Bool := decide (1 ≤ s ∧ s ≤ 1500)

theorem q_isSize {d : Nat} {x : Int} : g249 (d + 1) x = some (szOk x) := by
  rw [e249]; simp only [oif_ss]; congr 1; rw [Bool.eq_iff_iff]; simp [szOk]

theorem q_l1Most {d : Nat} {x y : Int} : g204 (d + 1) x y = some (max x y) := by
  rw [e204]; simp only [oif_ss]; congr 1; simp only [decide_eq_true_eq]; split <;> omega

theorem q_qBools {d : Nat} {l : List Bool} (hl : l.length < 4194304) : g60 (d + 1) l l = some true := by
  rw [e60, bne_self_eq_false, oif_f]
  refine (range_eq (fun (t : Bool) (i : Int) => (t, i)) l (fun x i t k => k t) (j60_0 d) ?_ ?_ (by rw [fuelN_eq]; exact hl) false).trans ?_
  · intro ag t i x hx; have hi := (List.getElem?_eq_some_iff.1 hx).1; simp only [l60_0, l60_0_b, ltl hx, bltl hx, nn, ofNat_toNat, hx, ob_s, oif_t]; rw [wr1 (by omega)]
    simp only [beq_self_eq_true, Bool.not_true, oif_f]
  · intro ag t; simp only [l60_0, l60_0_b, ltn, oif_f]
  · rw [rangeR_fold (f := fun _ _ t => t)]; rfl

def inOk (a : Int × Int) : Bool := decide (0 ≤ a.1 ∧ a.1 ≤ 1000000000 ∧ 0 ≤ a.2 ∧ a.2 ≤ 100000)

def svOk (s : Int × Int) : Bool := decide (1 ≤ s.1 ∧ s.1 ≤ 100000 ∧ 0 ≤ s.2 ∧ s.2 ≤ 10000)

def both (a s : Int × Int) : Bool := inOk a && (svOk s && decide (a.2 ≤ s.1))

theorem both_in {a s : Int × Int} (h : both a s = true) : (0 ≤ a.1 ∧ a.1 ≤ 1000000000 ∧ 0 ≤ a.2 ∧ a.2 ≤ 100000) ∧ (1 ≤ s.1 ∧ s.1 ≤ 100000 ∧ 0 ≤ s.2 ∧ s.2 ≤ 10000) ∧ a.2 ≤ s.1 := by
  simpa [both, inOk, svOk, and_assoc] using h

theorem mul_in {a b A B : Int} (h1 : 0 ≤ a) (h2 : a ≤ A) (h3 : 0 ≤ b) (h4 : b ≤ B) : 0 ≤ a * b ∧ a * b ≤ A * B :=
  ⟨Int.mul_nonneg h1 h3, Int.mul_le_mul h2 h4 h3 (by omega)⟩

def backV (a s : Int × Int) : Int := a.1 + a.2 * s.2

theorem backV_in {a s : Int × Int} (h : both a s = true) : 0 ≤ a.2 * s.2 ∧ a.2 * s.2 ≤ 1000000000 := by
  obtain ⟨h1, h2, _⟩ := both_in h
  exact mul_in (A := 100000) (B := 10000) h1.2.2.1 h1.2.2.2 h2.2.2.1 h2.2.2.2

theorem backV_wr {a s : Int × Int} (h : both a s = true) : IntKind.i64.wrap (a.1 + IntKind.i64.wrap (a.2 * s.2)) = backV a s := by
  obtain ⟨h1, h2, _⟩ := both_in h
  obtain ⟨m1, m2⟩ := backV_in h
  rw [wr (n := a.2 * s.2) (by omega) (by omega), wr (by omega) (by omega)]; rfl

def bbV (a s : Int × Int) : Int × Bool := if both a s then (backV a s, true) else (0, false)

def upV (a b : Int) : Int := (a + b - 1) / b

theorem upV_in {a b : Int} (h1 : 0 ≤ a) (h2 : 1 ≤ b) : 0 ≤ upV a b ∧ upV a b ≤ a + b := by
  unfold upV
  have h3 : 0 ≤ (a + b - 1) / b := Int.ediv_nonneg (by omega) (by omega)
  have h4 : (a + b - 1) / b ≤ a + b - 1 := Int.ediv_le_self _ (by omega)
  omega

theorem upV_wr {a b : Int} (h1 : 0 ≤ a) (h2 : a ≤ 1000000000000) (h3 : 1 ≤ b) (h4 : b ≤ 1000000000000) : IntKind.i64.wrap ((IntKind.i64.wrap ((IntKind.i64.wrap (a + b)) - 1)).tdiv b) = upV a b := by
  obtain ⟨h5, h6⟩ := upV_in h1 h3
  rw [wr (n := a + b) (by omega) (by omega), wr (n := a + b - 1) (by omega) (by omega), Int.tdiv_eq_ediv_of_nonneg (by omega)]
  exact wr (n := upV a b) (by omega) (by omega)

def dlV (a s : Int × Int) : Int := s.2 + upV a.1 s.1

def dbV (a s : Int × Int) : Int × Bool := if both a s then (dlV a s, true) else (0, false)

theorem dlV_wr {a s : Int × Int} (h1 : 0 ≤ a.1) (h2 : a.1 ≤ 1000000000000) (h3 : svOk s = true) : IntKind.i64.wrap (s.2 + upV a.1 s.1) = dlV a s := by
  simp only [svOk, decide_eq_true_eq] at h3
  obtain ⟨h5, h6⟩ := upV_in h1 h3.1
  exact wr (n := s.2 + upV a.1 s.1) (by omega) (by omega)

def greV (a s : Int × Int) (t : Int) : Int := max 0 (a.1 + a.2 * t - s.1 * max 0 (t - s.2))

def gbV (a s : Int × Int) (t : Int) : Int × Bool := if both a s && decide (0 ≤ t ∧ t ≤ 100000) then (greV a s t, true) else (0, false)

theorem gre_wr {a s : Int × Int} {t : Int} (h : both a s = true) (h0 : 0 ≤ t) (h9 : t ≤ 100000) : IntKind.i64.wrap (t - s.2) = t - s.2 ∧ IntKind.i64.wrap (IntKind.i64.wrap (a.1 + IntKind.i64.wrap (a.2 * t)) - IntKind.i64.wrap (s.1 * max 0 (t - s.2))) = a.1 + a.2 * t - s.1 * max 0 (t - s.2) := by
  obtain ⟨h1, h2, h3⟩ := both_in h
  obtain ⟨m1, m2⟩ := mul_in (A := 100000) (B := 100000) h1.2.2.1 h1.2.2.2 h0 h9
  obtain ⟨m3, m4⟩ := mul_in (a := s.1) (b := max 0 (t - s.2)) (A := 100000) (B := 100000) (by omega) h2.2.1 (by omega) (by omega)
  refine ⟨wr (by omega) (by omega), ?_⟩
  rw [wr (n := a.2 * t) (by omega) (by omega), wr (n := s.1 * max 0 (t - s.2)) (by omega) (by omega), wr (n := a.1 + a.2 * t) (by omega) (by omega), wr (by omega) (by omega)]

theorem greedy_le {a s : Int × Int} {t : Int} (h : both a s = true) (h0 : 0 ≤ t) : greV a s t ≤ backV a s := by
  obtain ⟨h1, h2, h3⟩ := both_in h
  obtain ⟨m1, m2⟩ := backV_in h
  unfold greV backV
  by_cases ht : t ≤ s.2
  · have e1 : max 0 (t - s.2) = 0 := by omega
    have m3 : a.2 * t ≤ a.2 * s.2 := Int.mul_le_mul_of_nonneg_left ht h1.2.2.1
    rw [e1]; omega
  · have e1 : max 0 (t - s.2) = t - s.2 := by omega
    have m3 : a.2 * (t - s.2) ≤ s.1 * (t - s.2) := Int.mul_le_mul_of_nonneg_right h3 (by omega)
    have m4 : a.2 * (t - s.2) = a.2 * t - a.2 * s.2 := Int.mul_sub _ _ _
    rw [e1]; omega

def outV (a s : Int × Int) : (Int × Int) × Bool := if both a s && inOk (backV a s, a.2) then ((backV a s, a.2), true) else ((0, 0), false)

def lvV (s a : Int × Int) : (Int × Int) × Bool := if both a s && !(a.2 == s.1) && svOk (s.1 - a.2, upV (a.1 + s.1 * s.2) (s.1 - a.2)) then ((s.1 - a.2, upV (a.1 + s.1 * s.2) (s.1 - a.2)), true) else ((0, 0), false)

theorem lv_wr {a s : Int × Int} (h : both a s = true) (hn : ¬ a.2 = s.1) : IntKind.i64.wrap (a.1 + IntKind.i64.wrap (s.1 * s.2)) = a.1 + s.1 * s.2 ∧ IntKind.i64.wrap (s.1 - a.2) = s.1 - a.2 ∧ 0 ≤ a.1 + s.1 * s.2 ∧ a.1 + s.1 * s.2 ≤ 1000000000000 ∧ 1 ≤ s.1 - a.2 ∧ s.1 - a.2 ≤ 1000000000000 := by
  obtain ⟨h1, h2, h3⟩ := both_in h
  obtain ⟨m1, m2⟩ := mul_in (a := s.1) (b := s.2) (A := 100000) (B := 10000) (by omega) h2.2.1 h2.2.2.1 h2.2.2.2
  rw [wr (n := s.1 * s.2) (by omega) (by omega)]
  exact ⟨wr (by omega) (by omega), wr (by omega) (by omega), by omega, by omega, by omega, by omega⟩

theorem lv_slow {s a : Int × Int} (h : (lvV s a).2 = true) : (lvV s a).1.1 = s.1 - a.2 ∧ s.2 ≤ (lvV s a).1.2 ∧ s.1 ≤ 100000 ∧ 0 ≤ a.2 ∧ a.2 ≤ s.1 := by
  unfold lvV at h ⊢
  split at h
  · rename_i hc
    simp only [hc, if_true]
    simp only [Bool.and_eq_true, Bool.not_eq_true', beq_eq_false_iff_ne, ne_eq] at hc
    obtain ⟨⟨hb, hn⟩, _⟩ := hc
    obtain ⟨h1, h2, h3⟩ := both_in hb
    refine ⟨trivial, ?_, by omega, by omega, by omega⟩
    unfold upV
    rw [Int.le_ediv_iff_mul_le (by omega)]
    have m1 : s.2 * (s.1 - a.2) = s.1 * s.2 - s.2 * a.2 := by rw [Int.mul_sub, Int.mul_comm s.2 s.1]
    have m2 : 0 ≤ s.2 * a.2 := Int.mul_nonneg (by omega) (by omega)
    omega
  · simp at h

theorem rangeR_allf {α τ β : Type} {p : α → Bool} {f : α → τ → τ} {no : Option β} {fin : τ → Option β} : ∀ (l : List α) (i : Nat) (t : τ),
    rangeR (fun x _ t k => oif (p x) (k (f x t)) no) fin l i t = oif (l.all p) (fin (l.foldl (fun t x => f x t) t)) no
  | [], i, t => rfl
  | x :: r, i, t => by
    simp only [rangeR, List.all_cons, List.foldl_cons]
    cases p x with
    | true => simp only [oif_t, Bool.true_and]; exact rangeR_allf r (i + 1) (f x t)
    | false => rfl

def sumIn (l : List (Int × Int)) : Int × Int := l.foldl (fun t x => (IntKind.i64.wrap (t.1 + x.1), IntKind.i64.wrap (t.2 + x.2))) (0, 0)

def adV (l : List (Int × Int)) : (Int × Int) × Bool := if decide (1 ≤ ((l.length : Nat) : Int) ∧ ((l.length : Nat) : Int) ≤ 8) && l.all inOk && inOk (sumIn l) then (sumIn l, true) else ((0, 0), false)

/-- A trace whose times are not below a time. -/
def trF : Int → List (Int × Int) → Bool
  | _, [] => true
  | t, x :: r => decide (t ≤ x.1 ∧ x.1 ≤ 100000) && (szOk x.2 && trF x.1 r)

def trOk (l : List (Int × Int)) : Bool := trF 0 l && decide (((l.length : Nat) : Int) ≤ 40)

theorem trF_in : ∀ {l : List (Int × Int)} {t : Int}, trF t l = true → ∀ x ∈ l, t ≤ x.1 ∧ x.1 ≤ 100000 ∧ 1 ≤ x.2 ∧ x.2 ≤ 1500
  | [], _, _, x, hx => by simp at hx
  | y :: r, t, h, x, hx => by
    simp only [trF, szOk, Bool.and_eq_true, decide_eq_true_eq] at h
    rcases List.mem_cons.1 hx with rfl | hx
    · omega
    · have := trF_in h.2.2 x hx; omega

/-- The greatest need of a window that is open. -/
def winM (rate t0 : Int) : Int → Int → List (Int × Int) → Int
  | _, m, [] => m
  | s, m, x :: r => winM rate t0 (s + x.2) (max m (s + x.2 - rate * (x.1 - t0))) r

def bvF (rate : Int) : Int → List (Int × Int) → Int
  | m, [] => m
  | m, x :: r => bvF rate (winM rate x.1 0 m (x :: r)) r

def bv (rate : Int) (l : List (Int × Int)) : Int := bvF rate 0 l

theorem win_wr {rate t0 s : Int} {x : Int × Int} (hr : 0 ≤ rate ∧ rate ≤ 100000) (ht : 0 ≤ t0 ∧ t0 ≤ 100000) (hs : 0 ≤ s ∧ s ≤ 1000000) (hx : 0 ≤ x.1 ∧ x.1 ≤ 100000 ∧ 1 ≤ x.2 ∧ x.2 ≤ 1500) :
    IntKind.i64.wrap (s + x.2) = s + x.2 ∧ IntKind.i64.wrap (s + x.2 - IntKind.i64.wrap (rate * IntKind.i64.wrap (x.1 - t0))) = s + x.2 - rate * (x.1 - t0) := by
  have e1 : IntKind.i64.wrap (x.1 - t0) = x.1 - t0 := wr (by omega) (by omega)
  have m1 : rate * (x.1 - t0) ≤ 100000 * 100000 := by
    rcases Int.le_total 0 (x.1 - t0) with h | h
    · exact Int.mul_le_mul hr.2 (by omega) h (by omega)
    · have := Int.mul_nonneg hr.1 (show 0 ≤ t0 - x.1 by omega)
      have e : rate * (x.1 - t0) = -(rate * (t0 - x.1)) := by rw [← Int.mul_neg]; congr 1; omega
      omega
  have m2 : -(100000 * 100000) ≤ rate * (x.1 - t0) := by
    rcases Int.le_total 0 (x.1 - t0) with h | h
    · have := Int.mul_nonneg hr.1 h; omega
    · have := Int.mul_le_mul hr.2 (show t0 - x.1 ≤ 100000 by omega) (by omega) (by omega)
      have e : rate * (x.1 - t0) = -(rate * (t0 - x.1)) := by rw [← Int.mul_neg]; congr 1; omega
      omega
  rw [e1, wr (n := rate * (x.1 - t0)) (by omega) (by omega)]
  exact ⟨wr (by omega) (by omega), wr (by omega) (by omega)⟩

def winS (rate t0 : Int) (x : Int × Int) (t : Int × Int) : Int × Int := (max t.1 (IntKind.i64.wrap (IntKind.i64.wrap (t.2 + x.2) - IntKind.i64.wrap (rate * IntKind.i64.wrap (x.1 - t0)))), IntKind.i64.wrap (t.2 + x.2))

theorem win_fold {rate t0 : Int} (hr : 0 ≤ rate ∧ rate ≤ 100000) (ht : 0 ≤ t0 ∧ t0 ≤ 100000) : ∀ (r : List (Int × Int)) (i : Nat) (m s : Int), (∀ x ∈ r, 0 ≤ x.1 ∧ x.1 ≤ 100000 ∧ 1 ≤ x.2 ∧ x.2 ≤ 1500) → 0 ≤ s → s + 1500 * r.length ≤ 1000000 →
    (foldI (fun x _ t => winS rate t0 x t) r i (m, s)).1 = winM rate t0 s m r
  | [], i, m, s, _, _, _ => rfl
  | x :: r, i, m, s, h, h0, h1 => by
    have hx := h x (by simp)
    simp only [List.length_cons] at h1
    obtain ⟨w1, w2⟩ := win_wr hr ht (s := s) ⟨h0, by omega⟩ hx
    simp only [foldI, winM, winS, w1, w2]
    exact win_fold hr ht r (i + 1) _ _ (fun y hy => h y (by simp [hy])) (by omega) (by omega)

theorem tr_len {l : List (Int × Int)} (h : trOk l = true) : l.length ≤ 40 := by
  simp only [trOk, Bool.and_eq_true, decide_eq_true_eq] at h; omega

theorem tr_in {l : List (Int × Int)} (h : trOk l = true) : ∀ x ∈ l, 0 ≤ x.1 ∧ x.1 ≤ 100000 ∧ 1 ≤ x.2 ∧ x.2 ≤ 1500 := by
  simp only [trOk, Bool.and_eq_true, decide_eq_true_eq] at h
  intro x hx
  have := trF_in h.1 x hx; omega

/-- No window from a place on needs more. -/
def wb (rate B t0 : Int) : Int → List (Int × Int) → Prop
  | _, [] => True
  | s, x :: r => s + x.2 - rate * (x.1 - t0) ≤ B ∧ wb rate B t0 (s + x.2) r

def allW (rate B : Int) : List (Int × Int) → Prop
  | [] => True
  | x :: r => wb rate B x.1 0 (x :: r) ∧ allW rate B r

theorem wb_mono {rate B C t0 : Int} (h : B ≤ C) : ∀ {r : List (Int × Int)} {s : Int}, wb rate B t0 s r → wb rate C t0 s r
  | [], _, _ => trivial
  | x :: r, s, hw => ⟨by have := hw.1; omega, wb_mono h hw.2⟩

theorem winM_wb {rate t0 : Int} : ∀ (r : List (Int × Int)) (s m : Int), m ≤ winM rate t0 s m r ∧ wb rate (winM rate t0 s m r) t0 s r
  | [], s, m => ⟨Int.le_refl _, trivial⟩
  | x :: r, s, m => by
    obtain ⟨h1, h2⟩ := winM_wb (rate := rate) (t0 := t0) r (s + x.2) (max m (s + x.2 - rate * (x.1 - t0)))
    simp only [winM]
    exact ⟨by omega, by omega, h2⟩

theorem bvF_all {rate : Int} : ∀ (l : List (Int × Int)) (m : Int), m ≤ bvF rate m l ∧ allW rate (bvF rate m l) l
  | [], m => ⟨Int.le_refl _, trivial⟩
  | x :: r, m => by
    obtain ⟨h1, h2⟩ := winM_wb (rate := rate) (t0 := x.1) (x :: r) 0 m
    obtain ⟨h3, h4⟩ := bvF_all (rate := rate) r (winM rate x.1 0 m (x :: r))
    simp only [bvF]
    exact ⟨by omega, wb_mono h3 h2, h4⟩

theorem winM_le {rate t0 : Int} (hr : 0 ≤ rate) : ∀ (r : List (Int × Int)) (s m B : Int), trF t0 r = true → m ≤ B → s + 1500 * r.length ≤ B → winM rate t0 s m r ≤ B
  | [], s, m, B, _, h, _ => h
  | x :: r, s, m, B, ht, h, h1 => by
    have hx := trF_in ht x (by simp)
    have h0 := Int.mul_nonneg hr (show 0 ≤ x.1 - t0 by omega)
    simp only [List.length_cons] at h1
    simp only [winM]
    refine winM_le hr r _ _ B ?_ (by omega) (by omega)
    have mono : ∀ {r : List (Int × Int)} {a b : Int}, a ≤ b → trF b r = true → trF a r = true := by
      intro r a b hab h
      cases r with
      | nil => rfl
      | cons y r => simp only [trF, Bool.and_eq_true, decide_eq_true_eq] at h ⊢; exact ⟨by omega, h.2⟩
    simp only [trF, Bool.and_eq_true] at ht
    exact mono hx.1 ht.2.2

theorem bvF_le {rate : Int} (hr : 0 ≤ rate) : ∀ (l : List (Int × Int)) (t m B : Int), trF t l = true → m ≤ B → 1500 * (l.length : Int) ≤ B → bvF rate m l ≤ B
  | [], t, m, B, _, h, _ => h
  | x :: r, t, m, B, ht, h, h1 => by
    have hx := trF_in ht x (by simp)
    simp only [trF, Bool.and_eq_true, decide_eq_true_eq] at ht
    simp only [bvF]
    have h1' := h1
    simp only [List.length_cons] at h1
    refine bvF_le hr r x.1 _ B ht.2.2 (winM_le hr (x :: r) 0 m B ?_ h (by omega)) (by omega)
    simp only [trF, Bool.and_eq_true, decide_eq_true_eq]
    exact ⟨by omega, ht.2⟩

theorem bv_in {rate : Int} {l : List (Int × Int)} (hr : 0 ≤ rate) (hl : trOk l = true) : 0 ≤ bv rate l ∧ bv rate l ≤ 60000 ∧ allW rate (bv rate l) l := by
  have hk := tr_len hl
  simp only [trOk, Bool.and_eq_true] at hl
  obtain ⟨h1, h2⟩ := bvF_all (rate := rate) l 0
  exact ⟨h1, bvF_le hr l 0 0 60000 hl.1 (by omega) (by omega), h2⟩

def lbV (rate : Int) (l : List (Int × Int)) : Int × Bool := if decide (0 ≤ rate ∧ rate ≤ 100000) && trOk l then (bv rate l, true) else (0, false)

def ctV (a : Int × Int) (l : List (Int × Int)) : Bool × Bool := if inOk a && trOk l then (decide (bv a.2 l ≤ a.1), true) else (false, false)

/-- When each is sent at the latest. -/
def ssF (s : Int × Int) : Int → Int → Int → List (Int × Int) → List Int
  | _, _, _, [] => []
  | f, u, e, x :: r =>
    let f' := if x.1 > e then x.1 else f
    let u' := (if x.1 > e then 0 else u) + x.2
    (f' + s.2 + upV u' s.1) :: ssF s f' u' (f' + s.2 + upV u' s.1) r

def ssV (s : Int × Int) (l : List (Int × Int)) : List Int × Bool := if svOk s && trOk l then (ssF s 0 0 (-1) l, true) else ([], false)

theorem ssF_len {s : Int × Int} : ∀ {l : List (Int × Int)} {f u e : Int}, (ssF s f u e l).length = l.length
  | [], _, _, _ => rfl
  | x :: r, f, u, e => by simp [ssF, ssF_len]

theorem ss_wr {s : Int × Int} {f u : Int} {x : Int × Int} (hs : svOk s = true) (hf : 0 ≤ f ∧ f ≤ 100000) (hu : 0 ≤ u ∧ u ≤ 1000000) (hx : 0 ≤ x.1 ∧ x.1 ≤ 100000 ∧ 1 ≤ x.2 ∧ x.2 ≤ 1500) :
    IntKind.i64.wrap (u + x.2) = u + x.2 ∧ IntKind.i64.wrap (IntKind.i64.wrap (f + s.2) + upV (u + x.2) s.1) = f + s.2 + upV (u + x.2) s.1 ∧ (1 ≤ s.1 ∧ s.1 ≤ 100000) ∧ 0 ≤ f + s.2 + upV (u + x.2) s.1 ∧ f + s.2 + upV (u + x.2) s.1 ≤ 10000000 := by
  simp only [svOk, decide_eq_true_eq] at hs
  obtain ⟨h1, h2⟩ := upV_in (a := u + x.2) (b := s.1) (by omega) hs.1
  rw [wr (n := f + s.2) (by omega) (by omega)]
  exact ⟨wr (by omega) (by omega), wr (by omega) (by omega), by omega, by omega, by omega⟩

def bkOk (b : Int × Int × Int) : Bool := decide (0 ≤ b.1 ∧ b.1 ≤ 100000 ∧ 0 ≤ b.2.1 ∧ b.2.1 ≤ 1000000 ∧ 0 ≤ b.2.2 ∧ b.2.2 ≤ b.2.1)

theorem q_buSize {d : Nat} {x : Int} : g354 (d + 2) x = some (szOk x) := by
  rw [e354]; simp only [q_l1In, ob_s]; rfl

theorem q_isFlowRate {d : Nat} {x : Int} : g218 (d + 1) x = some (decide (0 ≤ x ∧ x ≤ 100000)) := by
  rw [e218]; simp only [oif_ss]; congr 1; rw [Bool.eq_iff_iff]; simp

theorem q_buRate {d : Nat} {x : Int} : g223 (d + 2) x = some (decide (0 ≤ x ∧ x ≤ 100000)) := by
  rw [e223]; simp only [q_l1In, ob_s]

theorem q_IsBucket {d : Nat} {b : Int × Int × Int} : g61 (d + 2) b = some (bkOk b) := by
  rw [e61]; simp only [q_isFlowRate, ob_s, oif_ss]; congr 1; rw [Bool.eq_iff_iff]; simp [bkOk]; omega

theorem q_buGood {d : Nat} {b : Int × Int × Int} : g228 (d + 3) b = some (bkOk b) := by
  rw [e228]; simp only [q_buRate, q_l1In, ob_s, oif_ss]; congr 1; rw [Bool.eq_iff_iff]; simp [bkOk]; omega

def tkOk (n : Int) : Bool := decide (0 ≤ n ∧ n ≤ 100000)

def fillV (b : Int × Int × Int) (n : Int) : (Int × Int × Int) × Bool := if bkOk b && tkOk n then ((b.1, b.2.1, min b.2.1 (b.2.2 + b.1 * n)), true) else ((0, 0, 0), false)

theorem mulB {a b : Int} (h1 : 0 ≤ a) (h2 : a ≤ 100000) (h3 : 0 ≤ b) (h4 : b ≤ 100000) : 0 ≤ a * b ∧ a * b ≤ 10000000000 :=
  ⟨Int.mul_nonneg h1 h3, by have := Int.mul_le_mul h2 h4 h3 (by omega : (0 : Int) ≤ 100000); omega⟩

def waitN (b : Int × Int × Int) (n : Int) : Int := (n - b.2.2 + b.1 - 1) / b.1

/-- The waiting time for n tokens in a good bucket. -/
def waitV (b : Int × Int × Int) (n : Int) : Int × Bool := if n ≤ b.2.2 then (0, true) else if b.2.1 < n ∨ b.1 = 0 then (0, false) else (waitN b n, true)

theorem waitN_wr {b : Int × Int × Int} {n : Int} (hb : bkOk b = true) (h1 : b.2.2 < n) (h2 : n ≤ b.2.1) (h3 : b.1 ≠ 0) :
    IntKind.i64.wrap ((IntKind.i64.wrap ((IntKind.i64.wrap ((IntKind.i64.wrap (n - b.2.2)) + b.1)) - 1)).tdiv b.1) = waitN b n ∧ 0 ≤ waitN b n := by
  simp only [bkOk, decide_eq_true_eq] at hb
  rw [wr (n := n - b.2.2) (by omega) (by omega), wr (n := n - b.2.2 + b.1) (by omega) (by omega), wr (n := n - b.2.2 + b.1 - 1) (by omega) (by omega)]
  rw [Int.tdiv_eq_ediv_of_nonneg (by omega)]
  have h4 : 0 ≤ (n - b.2.2 + b.1 - 1) / b.1 := Int.ediv_nonneg (by omega) (by omega)
  have h5 : (n - b.2.2 + b.1 - 1) / b.1 ≤ n - b.2.2 + b.1 - 1 := Int.ediv_le_self _ (by omega)
  rw [wr (by omega) (by omega)]
  exact ⟨rfl, h4⟩

def wtV (b : Int × Int × Int) (n : Int) : Int × Bool := if bkOk b && szOk n then waitV b n else (0, false)

def tfV (b : Int × Int × Int) : Int × Bool := if bkOk b then waitV b b.2.1 else (0, false)

theorem p_bucket {d m : Nat} {c : List Int × Int × Int} (hc : CurOk m c) (hm : m + 20 < 4611686018427387904) : Ok (g226 (d + 4) c) fun r => CurOk (m + 12) r.2 := by
  rw [e226]
  refine Ok.bind (p_among hc (by omega) (by simp)) (fun r1 h1 => ?_)
  refine Ok.bind (p_among h1.2 (by omega) (by simp)) (fun r2 h2 => ?_)
  refine Ok.bind (p_pick h2.2 (by omega)) (fun r3 h3 => ?_)
  refine Ok.bind (Ok.eq q_l1Least (Q := fun _ => True) trivial) (fun r4 _ => ?_)
  refine Ok.bind (p_among h3.2.2 (by omega) (by simp)) (fun r5 h5 => ?_)
  refine Ok.bind (p_pick h5.2 (by omega)) (fun r6 h6 => ?_)
  refine Ok.oif (fun _ => ?_) (fun _ => Ok.oif (fun _ => ?_) (fun _ => Ok.oif (fun _ => ?_) (fun _ => ?_)))
  · exact Ok.bind (p_among h6.2.2 (by omega) (by simp)) (fun q hq => Ok.some (hq.2.mono (by omega)))
  · exact Ok.bind (p_among h6.2.2 (by omega) (by simp)) (fun q hq => Ok.some (hq.2.mono (by omega)))
  · exact Ok.bind (p_among h6.2.2 (by omega) (by simp)) (fun q hq => Ok.some (hq.2.mono (by omega)))
  · exact Ok.some (h6.2.2.mono (by omega))

def canV (b : Int × Int × Int) (n : Int) : Bool × Bool := if bkOk b && szOk n then (decide (n ≤ b.2.2), true) else (false, false)

def spV (b : Int × Int × Int) (n : Int) : (Int × Int × Int) × Bool := if bkOk b && (szOk n && decide (n ≤ b.2.2)) then ((b.1, b.2.1, b.2.2 - n), true) else ((0, 0, 0), false)

def fuV (a b : Int) : (Int × Int × Int) × Bool := if bkOk (a, b, b) then ((a, b, b), true) else ((0, 0, 0), false)

def sdOk (l : List (Int × Int)) : Bool := trF 0 l && decide (((l.length : Nat) : Int) ≤ 60)

theorem sd_len {l : List (Int × Int)} (h : sdOk l = true) : l.length ≤ 60 := by
  simp only [sdOk, Bool.and_eq_true, decide_eq_true_eq] at h; omega

theorem sd_in {l : List (Int × Int)} (h : sdOk l = true) : ∀ x ∈ l, 0 ≤ x.1 ∧ x.1 ≤ 100000 ∧ 1 ≤ x.2 ∧ x.2 ≤ 1500 := by
  simp only [sdOk, Bool.and_eq_true, decide_eq_true_eq] at h
  intro x hx
  have := trF_in h.1 x hx; omega

theorem q_areSends {d : Nat} {l : List (Int × Int)} (hl : l.length < 4194304) : g219 (d + 2) l = some (sdOk l) := by
  rw [e219]
  let pv : Nat → Int := fun i => if i = 0 then 0 else (l.getD (i - 1) (0, 0)).1
  refine (iter_eq (fun s => oif (trF (pv s.2.toNat) (l.drop s.2.toNat)) (j219_0 (d + 1) l false) (some false)) (fun s => l.length - s.2.toNat) (fun s => ∃ i : Nat, s = (false, (i : Int)) ∧ i ≤ l.length ∧ 0 ≤ pv i) ?_ fuelN (false, 0) ⟨0, rfl, by omega, by simp [pv]⟩ (by rw [fuelN_eq]; simp; omega)).trans ?_
  · rintro _ ag ⟨i, rfl, h1, h2⟩ hag
    simp only [l219_0, l219_0_b, ofNat_toNat]
    rcases Nat.lt_or_ge i l.length with hlt | hge
    · have hx : l[i]? = some l[i] := List.getElem?_eq_getElem hlt
      have hd := List.drop_eq_getElem_cons hlt
      have nx : pv (i + 1) = l[i].1 := by simp [pv, List.getD, hx]
      rw [ltl hx, oif_t, nn, oif_t, hx, ob_s, hd]
      simp only [trF, q_isSize, q_isTicks, ob_s, j219_1]
      rw [wr1 (by omega)]
      have hn : 0 ≤ l[i].1 → ag (false, ((i + 1 : Nat) : Int)) = oif (trF l[i].1 (l.drop (i + 1))) (j219_0 (d + 1) l false) (some false) := fun h => by
        rw [hag (false, ((i + 1 : Nat) : Int)) ⟨i + 1, rfl, by omega, by rw [nx]; exact h⟩ (by simp only [ofNat_toNat]; omega)]
        simp only [ofNat_toNat, nx]
      have hp : decide ((i : Int) > 0) = true → decide (0 ≤ IntKind.i64.wrap ((i : Int) - 1)) = true ∧ l[(IntKind.i64.wrap ((i : Int) - 1)).toNat]? = some (l.getD (i - 1) (0, 0)) ∧ pv i = (l.getD (i - 1) (0, 0)).1 := by
        intro h
        simp only [decide_eq_true_eq] at h
        have hi : i ≠ 0 := by omega
        have e1 : IntKind.i64.wrap ((i : Int) - 1) = ((i - 1 : Nat) : Int) := by rw [wr (by omega) (by omega)]; omega
        rw [e1, ofNat_toNat]
        refine ⟨by simp, ?_, by simp [pv, hi]⟩
        have : i - 1 < l.length := by omega
        simp [List.getD, List.getElem?_eq_getElem this]
      cases szOk l[i].2 with
      | false => simp only [Bool.not_false, oif_t, Bool.false_and, Bool.and_false, oif_f]
      | true =>
        simp only [Bool.not_true, oif_f, Bool.true_and]
        by_cases c1 : 0 ≤ l[i].1 ∧ l[i].1 ≤ 100000
        · rw [decide_eq_true c1]
          simp only [Bool.not_true, oif_f]
          cases c3 : decide ((i : Int) > 0) with
          | true =>
            obtain ⟨p1, p2, p3⟩ := hp c3
            rw [oif_t, p1, oif_t, p2, ob_s, p3]
            by_cases c4 : l[i].1 < (l.getD (i - 1) (0, 0)).1
            · rw [decide_eq_true c4, oif_t, decide_eq_false (by omega)]; rfl
            · rw [decide_eq_false c4, oif_f, decide_eq_true (by omega), Bool.true_and]; exact hn (by omega)
          | false =>
            have hi : i = 0 := by simp at c3; omega
            have : pv i = 0 := by simp [pv, hi]
            rw [oif_f, decide_eq_true (by omega), Bool.true_and]; exact hn (by omega)
        · rw [decide_eq_false c1, decide_eq_false (show ¬ (pv i ≤ l[i].1 ∧ l[i].1 ≤ 100000) by omega)]
          simp only [Bool.not_false, oif_t, Bool.false_and, oif_f]
    · have : i = l.length := by omega
      subst this
      rw [ltn, oif_f, List.drop_length]; rfl
  · have e0 : pv 0 = 0 := by simp [pv]
    simp only [Int.toNat_zero, e0, List.drop_zero]
    unfold sdOk j219_0; cases trF 0 l <;> rfl

theorem q_buSends {d : Nat} {l : List (Int × Int)} (hl : l.length < 4194304) : g224 (d + 3) l = some (sdOk l) := by
  rw [e224]
  let pv : Nat → Int := fun i => if i = 0 then 0 else (l.getD (i - 1) (0, 0)).1
  refine (iter_eq (fun s => oif (trF (pv s.2.toNat) (l.drop s.2.toNat)) (j224_0 (d + 2) l false) (some false)) (fun s => l.length - s.2.toNat) (fun s => ∃ i : Nat, s = (false, (i : Int)) ∧ i ≤ l.length ∧ 0 ≤ pv i) ?_ fuelN (false, 0) ⟨0, rfl, by omega, by simp [pv]⟩ (by rw [fuelN_eq]; simp; omega)).trans ?_
  · rintro _ ag ⟨i, rfl, h1, h2⟩ hag
    simp only [l224_0, l224_0_b, ofNat_toNat]
    rcases Nat.lt_or_ge i l.length with hlt | hge
    · have hx : l[i]? = some l[i] := List.getElem?_eq_getElem hlt
      have hd := List.drop_eq_getElem_cons hlt
      have nx : pv (i + 1) = l[i].1 := by simp [pv, List.getD, hx]
      rw [ltl hx, oif_t, nn, oif_t, hx, ob_s, hd]
      simp only [trF, q_buSize, q_l1In, ob_s, j224_1]
      rw [wr1 (by omega)]
      have hn : 0 ≤ l[i].1 → ag (false, ((i + 1 : Nat) : Int)) = oif (trF l[i].1 (l.drop (i + 1))) (j224_0 (d + 2) l false) (some false) := fun h => by
        rw [hag (false, ((i + 1 : Nat) : Int)) ⟨i + 1, rfl, by omega, by rw [nx]; exact h⟩ (by simp only [ofNat_toNat]; omega)]
        simp only [ofNat_toNat, nx]
      have hp : decide ((i : Int) > 0) = true → decide (0 ≤ IntKind.i64.wrap ((i : Int) - 1)) = true ∧ l[(IntKind.i64.wrap ((i : Int) - 1)).toNat]? = some (l.getD (i - 1) (0, 0)) ∧ pv i = (l.getD (i - 1) (0, 0)).1 := by
        intro h
        simp only [decide_eq_true_eq] at h
        have hi : i ≠ 0 := by omega
        have e1 : IntKind.i64.wrap ((i : Int) - 1) = ((i - 1 : Nat) : Int) := by rw [wr (by omega) (by omega)]; omega
        rw [e1, ofNat_toNat]
        refine ⟨by simp, ?_, by simp [pv, hi]⟩
        have : i - 1 < l.length := by omega
        simp [List.getD, List.getElem?_eq_getElem this]
      cases szOk l[i].2 with
      | false => simp only [Bool.not_false, oif_t, Bool.false_and, Bool.and_false, oif_f]
      | true =>
        simp only [Bool.not_true, oif_f, Bool.true_and]
        by_cases c1 : 0 ≤ l[i].1 ∧ l[i].1 ≤ 100000
        · rw [decide_eq_true c1]
          simp only [Bool.not_true, oif_f]
          cases c3 : decide ((i : Int) > 0) with
          | true =>
            obtain ⟨p1, p2, p3⟩ := hp c3
            rw [oif_t, p1, oif_t, p2, ob_s, p3]
            by_cases c4 : (l.getD (i - 1) (0, 0)).1 > l[i].1
            · rw [decide_eq_true c4, oif_t, decide_eq_false (by omega)]; rfl
            · rw [decide_eq_false c4, oif_f, decide_eq_true (by omega), Bool.true_and]; exact hn (by omega)
          | false =>
            have hi : i = 0 := by simp at c3; omega
            have : pv i = 0 := by simp [pv, hi]
            rw [oif_f, decide_eq_true (by omega), Bool.true_and]; exact hn (by omega)
        · rw [decide_eq_false c1, decide_eq_false (show ¬ (pv i ≤ l[i].1 ∧ l[i].1 ≤ 100000) by omega)]
          simp only [Bool.not_false, oif_t, Bool.false_and, oif_f]
    · have : i = l.length := by omega
      subst this
      rw [ltn, oif_f, List.drop_length]; rfl
  · have e0 : pv 0 = 0 := by simp [pv]
    simp only [Int.toNat_zero, e0, List.drop_zero]
    unfold sdOk j224_0; cases trF 0 l <;> rfl

theorem p_sends1 {d m : Nat} {c : List Int × Int × Int} {l : List (Int × Int)} (hc : CurOk m c) (hm : m < 200000) (hl : l.length ≤ 62) : Ok (j217_0 (d + 3) c.1 c.2.1 c.2.2 l) fun r => r.1.length ≤ 62 ∧ CurOk (m + 20) r.2 := by
  unfold j217_0
  refine Ok.oif (fun h => ?_) (fun h => Ok.some ⟨hl, hc.mono (by omega)⟩)
  simp at h
  refine Ok.bind (p_pick hc (by omega)) fun u hu => ?_
  obtain ⟨u1, u2, u3⟩ := hu
  have hlt : u.1.toNat < l.length := by omega
  rw [decide_eq_true u1, oif_t, blt_of hlt, oif_t, List.getElem?_eq_getElem hlt]
  refine Ok.bind (p_pick u3 (by omega)) fun v hv => ?_
  refine Ok.oif (fun _ => ?_) (fun _ => Ok.oif (fun _ => ?_) (fun _ => Ok.oif (fun _ => ?_) (fun _ => ?_)))
  · exact Ok.bind (p_among hv.2.2 (by omega) (by simp)) fun w hw => by rw [ob_s]; exact Ok.some ⟨by simpa using hl, hw.2.mono (by omega)⟩
  · exact Ok.bind (p_among hv.2.2 (by omega) (by simp)) fun w hw => by rw [ob_s]; exact Ok.some ⟨by simpa using hl, hw.2.mono (by omega)⟩
  · refine Ok.bind (p_among hv.2.2 (by omega) (by simp)) fun w hw => ?_
    have e1 : IntKind.i64.wrap (((l.length : Nat) : Int) - 1) = ((l.length - 1 : Nat) : Int) := by rw [wr (by omega) (by omega)]; omega
    have hlt2 : l.length - 1 < l.length := by omega
    rw [e1, nn, oif_t, ofNat_toNat, blt_of hlt2, oif_t, List.getElem?_eq_getElem hlt2, ob_s]
    exact Ok.some ⟨by simpa using hl, hw.2.mono (by omega)⟩
  · exact Ok.some ⟨hl, hv.2.2.mono (by omega)⟩

theorem p_sends {d m : Nat} {c : List Int × Int × Int} (hc : CurOk m c) (hm : m < 100000) : Ok (g217 (d + 4) c) fun r => r.1.length ≤ 62 ∧ CurOk (m + 1000) r.2 := by
  rw [e217]
  refine Ok.bind (p_pick hc (by omega)) fun r hr => ?_
  refine Ok.bind (p_pick hr.2.2 (by omega)) fun r3 hr3 => ?_
  refine Ok.bind (p_one hr3.2.2 (by omega)) fun q hq => ?_
  have key : ∀ (n : Int) (c : List Int × Int × Int), n ≤ 62 → CurOk (m + 20) c → Ok (j217_1 (d + 3) r n c.1 c.2.1 c.2.2) fun r => r.1.length ≤ 62 ∧ CurOk (m + 1000) r.2 := by
    intro n c hn hc
    unfold j217_1
    refine iter_ok (fun k s => s.1.length + k = 62 ∧ CurOk (m + 20 + 4 * s.1.length) s.2.2) ?_ _ 62 _ (by rw [fuelN_eq]; omega) ⟨by simp, by simpa using hc⟩
    rintro k ⟨l, t, x⟩ ag ⟨h2, h3⟩ hag
    simp only at h2 h3
    simp only [l217_0, l217_0_b]
    refine Ok.oif (fun h => ?_) (fun h => ?_)
    · simp at h
      refine Ok.bind (p_among h3 (by omega) (by simp)) fun u hu => ?_
      rw [room (by simp; omega), oif_t]
      refine Ok.bind (p_among hu.2 (by omega) (by simp)) fun v hv => ?_
      exact hag (k - 1) _ (by omega) ⟨by simp; omega, by simpa [Nat.mul_add, Nat.add_assoc] using hv.2⟩
    · exact (p_sends1 (c := (x.1, x.2.1, x.2.2)) h3 (by omega) (by omega)).mono fun r hr => ⟨hr.1, hr.2.mono (by omega)⟩
  obtain ⟨a1, a2, _⟩ := hr3
  refine Ok.oif (fun _ => ?_) (fun _ => ?_)
  · refine Ok.bind (p_pick hq (by omega)) fun u hu => ?_
    obtain ⟨u1, u2, u3⟩ := hu
    refine key _ u.2 ?_ (u3.mono (by omega))
    rw [wr (by omega) (by omega)]; omega
  · exact key r3.1 q.2 (by omega) (hq.mono (by omega))

def poOk (p : (Int × Int × Int) × Int × Int × Int) : Bool := bkOk p.1 && (bkOk p.2 && decide (p.1.1 ≤ p.2.1))

def coOk (c : Int) : Bool := decide (0 ≤ c ∧ c ≤ 2)

def cosOk (l : List Int) : Bool := l.all coOk && decide (((l.length : Nat) : Int) ≤ 60)

theorem po_in {p : (Int × Int × Int) × Int × Int × Int} (h : poOk p = true) : bkOk p.1 = true ∧ bkOk p.2 = true ∧ (0 ≤ p.1.1 ∧ p.1.1 ≤ 100000 ∧ 0 ≤ p.1.2.1 ∧ p.1.2.1 ≤ 1000000 ∧ 0 ≤ p.1.2.2 ∧ p.1.2.2 ≤ p.1.2.1) ∧ (0 ≤ p.2.1 ∧ p.2.1 ≤ 100000 ∧ 0 ≤ p.2.2.1 ∧ p.2.2.1 ≤ 1000000 ∧ 0 ≤ p.2.2.2 ∧ p.2.2.2 ≤ p.2.2.1) ∧ p.1.1 ≤ p.2.1 := by
  simp only [poOk, Bool.and_eq_true, decide_eq_true_eq] at h
  have h1 := h.1; have h2 := h.2.1
  simp only [bkOk, decide_eq_true_eq] at h1 h2
  exact ⟨h.1, h.2.1, h1, h2, h.2.2⟩

def fillB (b : Int × Int × Int) (n : Int) : Int × Int × Int := (b.1, b.2.1, min b.2.1 (b.2.2 + b.1 * n))

theorem fillB_in {b : Int × Int × Int} {n : Int} (hb : bkOk b = true) (h0 : 0 ≤ n) (h1 : n ≤ 100000) : bkOk (fillB b n) = true ∧ IntKind.i64.wrap (b.2.2 + IntKind.i64.wrap (b.1 * n)) = b.2.2 + b.1 * n := by
  have hb' := hb
  simp only [bkOk, decide_eq_true_eq] at hb'
  obtain ⟨m1, m2⟩ := mulB hb'.1 hb'.2.1 h0 h1
  refine ⟨by unfold fillB bkOk; rw [decide_eq_true_eq]; simp only; omega, ?_⟩
  rw [wr (n := b.1 * n) (by omega) (by omega), wr (by omega) (by omega)]

theorem q_filled {d : Nat} {b : Int × Int × Int} {n : Int} (hb : bkOk b = true) (h0 : 0 ≤ n) (h1 : n ≤ 100000) : g254 (d + 1) b.2.2 b.1 b.2.1 n = some (fillB b n).2.2 := by
  rw [e254, (fillB_in hb h0 h1).2]; congr 1; unfold fillB; simp only; split <;> omega

theorem q_buFill {d : Nat} {b : Int × Int × Int} {n : Int} (hb : bkOk b = true) (h0 : 0 ≤ n) (h1 : n ≤ 100000) : g258 (d + 2) b n = some (fillB b n) := by
  rw [e258, (fillB_in hb h0 h1).2, q_l1Least, ob_s]; rfl

def colV (p : (Int × Int × Int) × Int × Int × Int) (s g : Int) : Int := if g = 0 ∨ p.2.2.2 < s then 0 else if g = 1 ∨ p.1.2.2 < s then 1 else 2

def aftV (p : (Int × Int × Int) × Int × Int × Int) (s c : Int) : (Int × Int × Int) × Int × Int × Int := ((p.1.1, p.1.2.1, if c = 2 then p.1.2.2 - s else p.1.2.2), (p.2.1, p.2.2.1, if c = 0 then p.2.2.2 else p.2.2.2 - s))

theorem col_cases {p : (Int × Int × Int) × Int × Int × Int} {s g : Int} : (colV p s g = 0) ∨ (colV p s g = 1 ∧ s ≤ p.2.2.2) ∨ (colV p s g = 2 ∧ s ≤ p.2.2.2 ∧ s ≤ p.1.2.2) := by
  unfold colV
  split
  · exact .inl rfl
  · split
    · exact .inr (.inl ⟨rfl, by omega⟩)
    · exact .inr (.inr ⟨rfl, by omega, by omega⟩)

theorem aft_ok {p : (Int × Int × Int) × Int × Int × Int} {s g : Int} (hp : poOk p = true) (hs : szOk s = true) : poOk (aftV p s (colV p s g)) = true := by
  obtain ⟨_, _, h1, h2, h3⟩ := po_in hp
  simp only [szOk, decide_eq_true_eq] at hs
  have : ∀ p : (Int × Int × Int) × Int × Int × Int, (0 ≤ p.1.1 ∧ p.1.1 ≤ 100000 ∧ 0 ≤ p.1.2.1 ∧ p.1.2.1 ≤ 1000000 ∧ 0 ≤ p.1.2.2 ∧ p.1.2.2 ≤ p.1.2.1) → (0 ≤ p.2.1 ∧ p.2.1 ≤ 100000 ∧ 0 ≤ p.2.2.1 ∧ p.2.2.1 ≤ 1000000 ∧ 0 ≤ p.2.2.2 ∧ p.2.2.2 ≤ p.2.2.1) → p.1.1 ≤ p.2.1 → poOk p = true := fun p a b c => by
    simp only [poOk, bkOk, Bool.and_eq_true, decide_eq_true_eq]; exact ⟨a, b, c⟩
  rcases col_cases (p := p) (s := s) (g := g) with h | ⟨h, k⟩ | ⟨h, k, k2⟩ <;> rw [h] <;> refine this _ ?_ ?_ ?_ <;> simp [aftV] <;> omega

/-- A run: the policer behind it and the colours. -/
def rpF : (Int × Int × Int) × Int × Int × Int → Int → List (Int × Int) → List Int → ((Int × Int × Int) × Int × Int × Int) × List Int
  | p, now, x :: r, g :: gs =>
    let q := (fillB p.1 (x.1 - now), fillB p.2 (x.1 - now))
    let c := colV q x.2 g
    let w := rpF (aftV q x.2 c) x.1 r gs
    (w.1, c :: w.2)
  | p, _, _, _ => (p, [])

def glV (l : List (Int × Int)) (g : List Int) : List Int := if g.length = 0 then List.replicate l.length 2 else g

def rpOk (p : (Int × Int × Int) × Int × Int × Int) (l : List (Int × Int)) (g : List Int) : Bool := poOk p && (sdOk l && (g.all coOk && decide (g.length = 0 ∨ g.length = l.length)))

def rpV (p : (Int × Int × Int) × Int × Int × Int) (l : List (Int × Int)) (g : List Int) : ((Int × Int × Int) × Int × Int × Int) × List Int × Bool := if rpOk p l g then ((rpF p 0 l (glV l g)).1, (rpF p 0 l (glV l g)).2, true) else (((0, 0, 0), 0, 0, 0), [], false)

theorem gl_len {l : List (Int × Int)} {g : List Int} (h : g.length = 0 ∨ g.length = l.length) : (glV l g).length = l.length := by
  unfold glV; split
  · simp
  · omega

theorem gl_get {l : List (Int × Int)} {g : List Int} (h : g.length = 0 ∨ g.length = l.length) {i : Nat} (hi : i < l.length) : (decide (((g.length : Nat) : Int) > 0) = true → g[i]? = some ((glV l g).getD i 0)) ∧ (decide (((g.length : Nat) : Int) > 0) = false → (glV l g).getD i 0 = 2) := by
  refine ⟨fun hg => ?_, fun hg => ?_⟩
  · simp only [decide_eq_true_eq] at hg
    have h0 : g.length ≠ 0 := by omega
    have hlt : i < g.length := by omega
    unfold glV; rw [if_neg h0]; simp [List.getD, List.getElem?_eq_getElem hlt]
  · simp only [decide_eq_false_iff_not] at hg
    have h0 : g.length = 0 := by omega
    unfold glV; rw [if_pos h0]; simp [List.getD, hi]

/-- Bytes of a colour. -/
def byF (k : Int) : List (Int × Int) → List Int → Int
  | x :: r, c :: cs => (if c = k then x.2 else 0) + byF k r cs
  | _, _ => 0

def byV (l : List (Int × Int)) (cs : List Int) : List Int × Bool := if sdOk l && (cs.all coOk && decide (cs.length = l.length)) then ([byF 0 l cs, byF 1 l cs, byF 2 l cs], true) else ([], false)

theorem co_cases {c : Int} (h : coOk c = true) : c = 0 ∨ c = 1 ∨ c = 2 := by simp only [coOk, decide_eq_true_eq] at h; omega

theorem byF_in {k : Int} : ∀ {l : List (Int × Int)} {cs : List Int}, (∀ x ∈ l, 0 ≤ x.1 ∧ x.1 ≤ 100000 ∧ 1 ≤ x.2 ∧ x.2 ≤ 1500) → 0 ≤ byF k l cs ∧ byF k l cs ≤ 1500 * l.length
  | [], cs, _ => by cases cs <;> simp [byF]
  | x :: r, [], _ => by simp [byF]; omega
  | x :: r, c :: cs, h => by
    have h1 := h x (by simp)
    have h2 := byF_in (k := k) (l := r) (cs := cs) (fun y hy => h y (by simp [hy]))
    simp only [byF, List.length_cons]
    split <;> omega

/-- The counts of colours. -/
def cnF (k : Int) : List Int → Int
  | [] => 0
  | c :: cs => (if c = k then 1 else 0) + cnF k cs

theorem cnF_in {k : Int} : ∀ {cs : List Int}, 0 ≤ cnF k cs ∧ cnF k cs ≤ cs.length
  | [] => by simp [cnF]
  | c :: cs => by
    have := cnF_in (k := k) (cs := cs)
    simp only [cnF, List.length_cons]
    split <;> omega

theorem cnF_sum : ∀ {cs : List Int}, (∀ c ∈ cs, coOk c = true) → cnF 0 cs + cnF 1 cs + cnF 2 cs = cs.length
  | [], _ => rfl
  | c :: cs, h => by
    have := cnF_sum (cs := cs) (fun c hc => h c (by simp [hc]))
    simp only [cnF, List.length_cons]
    rcases co_cases (h c (by simp)) with rfl | rfl | rfl <;> simp <;> omega

def ccV (l : List Int) : List Int × Bool := if cosOk l then ([cnF 0 l, cnF 1 l, cnF 2 l], true) else ([], false)

def bnV (b : Int × Int × Int) (n : Int) : Int := b.1 * n + b.2.1

theorem bn_wr {b : Int × Int × Int} {n : Int} (hb : bkOk b = true) (hn : tkOk n = true) : IntKind.i64.wrap (IntKind.i64.wrap (b.1 * n) + b.2.1) = bnV b n := by
  simp only [bkOk, tkOk, decide_eq_true_eq] at hb hn
  obtain ⟨m1, m2⟩ := mulB hb.1 hb.2.1 hn.1 hn.2
  rw [wr (n := b.1 * n) (by omega) (by omega)]
  exact wr (n := b.1 * n + b.2.1) (by omega) (by omega)

def grnV (p : (Int × Int × Int) × Int × Int × Int) (n : Int) : Int × Bool := if poOk p && tkOk n then (bnV p.1 n, true) else (0, false)

def nrdV (p : (Int × Int × Int) × Int × Int × Int) (n : Int) : Int × Bool := if poOk p && tkOk n then (bnV p.2 n, true) else (0, false)

/-- The tick of the last send. -/
def lastT : Int → List (Int × Int) → Int
  | t, [] => t
  | _, x :: r => lastT x.1 r

theorem lastT_get : ∀ (l : List (Int × Int)) (t : Int) (h : 0 < l.length), lastT t l = (l[l.length - 1]'(by omega)).1
  | [x], t, _ => rfl
  | x :: y :: r, t, _ => by
    have := lastT_get (y :: r) x.1 (by simp)
    simp only [lastT, List.length_cons] at this ⊢
    exact this

theorem lastT_le : ∀ {l : List (Int × Int)} {t : Int}, trF t l = true → t ≤ lastT t l ∧ (t ≤ 100000 → lastT t l ≤ 100000)
  | [], t, _ => ⟨Int.le_refl _, fun h => h⟩
  | x :: r, t, h => by
    simp only [trF, Bool.and_eq_true, decide_eq_true_eq] at h
    have := lastT_le h.2.2
    simp only [lastT]
    exact ⟨by omega, fun _ => this.2 h.1.2⟩

/-- Green bytes, and those that are not red, keep their bounds. -/
theorem rp_bytes : ∀ (l : List (Int × Int)) (gs : List Int) (p : (Int × Int × Int) × Int × Int × Int) (now : Int), poOk p = true → trF now l = true → 0 ≤ now → gs.length = l.length →
    byF 2 l (rpF p now l gs).2 ≤ p.1.2.2 + p.1.1 * (lastT now l - now) ∧ byF 2 l (rpF p now l gs).2 + byF 1 l (rpF p now l gs).2 ≤ p.2.2.2 + p.2.1 * (lastT now l - now) ∧
    (rpF p now l gs).2.length = l.length ∧ (∀ c ∈ (rpF p now l gs).2, coOk c = true) ∧ poOk (rpF p now l gs).1 = true
  | [], gs, p, now, hp, _, _, _ => by
    obtain ⟨_, _, h1, h2, _⟩ := po_in hp
    cases gs <;> simp [rpF, byF, lastT, hp] <;> omega
  | x :: r, [], p, now, _, _, _, h => by simp at h
  | x :: r, g :: gs, p, now, hp, ht, h0, hlen => by
    have hx := trF_in ht x (by simp)
    simp only [trF, Bool.and_eq_true, decide_eq_true_eq] at ht
    obtain ⟨b1, b2, h1, h2, h3⟩ := po_in hp
    obtain ⟨f1, _⟩ := fillB_in b1 (n := x.1 - now) (by omega) (by omega)
    obtain ⟨f2, _⟩ := fillB_in b2 (n := x.1 - now) (by omega) (by omega)
    have hq : poOk (fillB p.1 (x.1 - now), fillB p.2 (x.1 - now)) = true := by
      simp only [poOk, f1, f2, Bool.true_and, decide_eq_true_eq]; exact h3
    have hsz : szOk x.2 = true := ht.2.1
    obtain ⟨i1, i2, i3, i4, i5⟩ := rp_bytes r gs _ x.1 (aft_ok (g := g) hq hsz) ht.2.2 (by omega) (by simpa using hlen)
    have e1 : p.1.1 * (lastT x.1 r - now) = p.1.1 * (x.1 - now) + p.1.1 * (lastT x.1 r - x.1) := by rw [← Int.mul_add]; congr 1; omega
    have e2 : p.2.1 * (lastT x.1 r - now) = p.2.1 * (x.1 - now) + p.2.1 * (lastT x.1 r - x.1) := by rw [← Int.mul_add]; congr 1; omega
    have t1 : (fillB p.1 (x.1 - now)).2.2 ≤ p.1.2.2 + p.1.1 * (x.1 - now) := by unfold fillB; simp only; omega
    have t2 : (fillB p.2 (x.1 - now)).2.2 ≤ p.2.2.2 + p.2.1 * (x.1 - now) := by unfold fillB; simp only; omega
    simp only [rpF, byF, lastT, List.length_cons, e1, e2]
    have hcc := col_cases (p := (fillB p.1 (x.1 - now), fillB p.2 (x.1 - now))) (s := x.2) (g := g)
    simp only at hcc
    have a1 : (aftV (fillB p.1 (x.1 - now), fillB p.2 (x.1 - now)) x.2 (colV (fillB p.1 (x.1 - now), fillB p.2 (x.1 - now)) x.2 g)).1.1 = p.1.1 := rfl
    have a2 : (aftV (fillB p.1 (x.1 - now), fillB p.2 (x.1 - now)) x.2 (colV (fillB p.1 (x.1 - now), fillB p.2 (x.1 - now)) x.2 g)).1.2.2 = if colV (fillB p.1 (x.1 - now), fillB p.2 (x.1 - now)) x.2 g = 2 then (fillB p.1 (x.1 - now)).2.2 - x.2 else (fillB p.1 (x.1 - now)).2.2 := rfl
    have a3 : (aftV (fillB p.1 (x.1 - now), fillB p.2 (x.1 - now)) x.2 (colV (fillB p.1 (x.1 - now), fillB p.2 (x.1 - now)) x.2 g)).2.1 = p.2.1 := rfl
    have a4 : (aftV (fillB p.1 (x.1 - now), fillB p.2 (x.1 - now)) x.2 (colV (fillB p.1 (x.1 - now), fillB p.2 (x.1 - now)) x.2 g)).2.2.2 = if colV (fillB p.1 (x.1 - now), fillB p.2 (x.1 - now)) x.2 g = 0 then (fillB p.2 (x.1 - now)).2.2 else (fillB p.2 (x.1 - now)).2.2 - x.2 := rfl
    rw [a1, a2] at i1
    rw [a3, a4] at i2
    refine ⟨?_, ?_, by omega, ?_, i5⟩
    · rcases hcc with h | ⟨h, k⟩ | ⟨h, k, k2⟩
      · rw [h] at i1
        have n1 : ¬ (0 : Int) = 2 := by decide
        rw [if_neg n1] at i1; rw [h, if_neg n1]
        omega
      · rw [h] at i1
        have n1 : ¬ (1 : Int) = 2 := by decide
        rw [if_neg n1] at i1; rw [h, if_neg n1]
        omega
      · rw [h] at i1
        rw [if_pos rfl] at i1; rw [h, if_pos rfl]
        omega
    · rcases hcc with h | ⟨h, k⟩ | ⟨h, k, k2⟩
      · rw [h] at i2
        have n1 : ¬ (0 : Int) = 2 := by decide
        have n2 : ¬ (0 : Int) = 1 := by decide
        rw [if_pos rfl] at i2; rw [h, if_neg n1, if_neg n2]; omega
      · rw [h] at i2
        have n1 : ¬ (1 : Int) = 2 := by decide
        have n2 : ¬ (1 : Int) = 0 := by decide
        rw [if_neg n2] at i2; rw [h, if_neg n1, if_pos rfl]; omega
      · rw [h] at i2
        have n1 : ¬ (2 : Int) = 1 := by decide
        have n2 : ¬ (2 : Int) = 0 := by decide
        rw [if_neg n2] at i2; rw [h, if_pos rfl, if_neg n1]; omega
    · intro c hc
      rcases List.mem_cons.1 hc with rfl | hc
      · rcases hcc with h | ⟨h, k⟩ | ⟨h, k, k2⟩ <;> rw [h] <;> rfl
      · exact i4 c hc

/-- A run: the bucket behind it and what was sent. -/
def rnF : Int × Int × Int → Int → List (Int × Int) → (Int × Int × Int) × List Bool
  | b, _, [] => (b, [])
  | b, now, x :: r =>
    if x.2 ≤ (fillB b (x.1 - now)).2.2 then
      ((rnF (b.1, b.2.1, (fillB b (x.1 - now)).2.2 - x.2) x.1 r).1, true :: (rnF (b.1, b.2.1, (fillB b (x.1 - now)).2.2 - x.2) x.1 r).2)
    else ((rnF (fillB b (x.1 - now)) x.1 r).1, false :: (rnF (fillB b (x.1 - now)) x.1 r).2)

theorem rnF_len : ∀ {l : List (Int × Int)} {b : Int × Int × Int} {now : Int}, (rnF b now l).2.length = l.length
  | [], _, _ => rfl
  | x :: r, b, now => by simp only [rnF]; split <;> simp [rnF_len]

theorem bk_in {b : Int × Int × Int} (h : bkOk b = true) : 0 ≤ b.1 ∧ b.1 ≤ 100000 ∧ 0 ≤ b.2.1 ∧ b.2.1 ≤ 1000000 ∧ 0 ≤ b.2.2 ∧ b.2.2 ≤ b.2.1 := by simpa [bkOk] using h

theorem bk_spend {b : Int × Int × Int} {n s : Int} (h : bkOk (fillB b n) = true) (h0 : 0 ≤ s) (h1 : s ≤ (fillB b n).2.2) : bkOk (b.1, b.2.1, (fillB b n).2.2 - s) = true := by
  have h2 := bk_in h
  have e1 : (fillB b n).1 = b.1 := rfl
  have e2 : (fillB b n).2.1 = b.2.1 := rfl
  rw [e1, e2] at h2
  unfold bkOk; rw [decide_eq_true_eq]; simp only; omega

theorem q_runSends {d : Nat} {b : Int × Int × Int} {l : List (Int × Int)} (hb : bkOk b = true) (hs : sdOk l = true) : g227 (d + 2) b l = some (rnF b 0 l) := by
  rw [e227]
  have hk := sd_len hs
  have hin := sd_in hs
  have hs' := hs
  simp only [sdOk, Bool.and_eq_true] at hs'
  have e4 : (Nat.ble l.length l.length && Nat.ble (l.length * 1) roomMax) = true := by
    rw [Bool.and_eq_true, Nat.ble_eq, Nat.ble_eq]; unfold roomMax; omega
  simp only [nn, oif_t, ofNat_toNat, e4]
  refine (iter_eq (fun s => some ((rnF s.2.2.1 s.1 (l.drop s.2.1.toNat)).1, s.2.2.2.take s.2.1.toNat ++ (rnF s.2.2.1 s.1 (l.drop s.2.1.toNat)).2)) (fun s => l.length - s.2.1.toNat) (fun s => ∃ (i : Nat) (pre : List Bool), s.2.1 = (i : Int) ∧ i ≤ l.length ∧ pre.length = i ∧ s.2.2.2 = pre ++ List.replicate (l.length - i) false ∧ bkOk s.2.2.1 = true ∧ 0 ≤ s.1 ∧ trF s.1 (l.drop i) = true) ?_ fuelN (0, 0, b, List.replicate l.length false) ⟨0, [], rfl, by omega, rfl, rfl, hb, by simp, by simpa using hs'.1⟩ (by rw [fuelN_eq]; simp; omega)).trans (by simp)
  rintro ⟨now, n, b, out⟩ ag ⟨i, pre, hn, h1, h2, h3, h4, h5, h6⟩ hag
  simp only at hn h3 h4 h5 h6
  subst hn
  simp only [l227_0, l227_0_b, ofNat_toNat]
  have htk : out.take i = pre := by rw [h3, ← h2, List.take_left]
  rcases Nat.lt_or_ge i l.length with hlt | hge
  · have hx : l[i]? = some l[i] := List.getElem?_eq_getElem hlt
    have hxi := hin _ (List.getElem_mem hlt)
    rw [List.drop_eq_getElem_cons hlt] at h6
    have h6' := trF_in h6 l[i] List.mem_cons_self
    simp only [trF, Bool.and_eq_true] at h6
    obtain ⟨f1, _⟩ := fillB_in h4 (n := l[i].1 - now) (by omega) (by omega)
    have hf := bk_in f1
    have hrep : List.replicate (l.length - i) false = false :: List.replicate (l.length - (i + 1)) false := by
      rw [show l.length - i = l.length - (i + 1) + 1 by omega, List.replicate_succ]
    have hlo : i < out.length := by rw [h3]; simp; omega
    have hoi : out[i]? = some false := by rw [h3, hrep, List.getElem?_append_right (by omega), h2, Nat.sub_self]; rfl
    rw [ltl hx, oif_t, nn, oif_t, hx, ob_s, wr (n := l[i].1 - now) (by omega) (by omega), q_filled h4 (by omega) (by omega), ob_s, wr1 (by omega), htk]
    rw [List.drop_eq_getElem_cons hlt]
    simp only [rnF]
    by_cases hc : l[i].2 ≤ (fillB b (l[i].1 - now)).2.2
    · rw [decide_eq_true (show (fillB b (l[i].1 - now)).2.2 ≥ l[i].2 from hc), oif_t, oif_t, blt_of hlo, oif_t, hoi, ob_s, wr (n := (fillB b (l[i].1 - now)).2.2 - l[i].2) (by omega) (by omega), if_pos hc]
      have hset : out.set i true = (pre ++ [true]) ++ List.replicate (l.length - (i + 1)) false := by
        rw [h3, hrep, ← h2, List.set_append_right _ _ (Nat.le_refl _), Nat.sub_self, List.set_cons_zero, List.append_assoc]; rfl
      rw [hag _ ⟨i + 1, pre ++ [true], rfl, by omega, by simp [h2], hset, bk_spend f1 (by omega) hc, by simp only; omega, h6.2.2⟩ (by simp only [ofNat_toNat]; omega)]
      simp only [ofNat_toNat]
      have : (out.set i true).take (i + 1) = pre ++ [true] := by rw [hset, show i + 1 = (pre ++ [true]).length by simp [h2], List.take_left]
      rw [this, List.append_assoc]; rfl
    · rw [decide_eq_false (show ¬ (fillB b (l[i].1 - now)).2.2 ≥ l[i].2 from hc), oif_f, if_neg hc]
      have hout : out = (pre ++ [false]) ++ List.replicate (l.length - (i + 1)) false := by rw [h3, hrep]; simp
      change ag (l[i].1, ((i + 1 : Nat) : Int), fillB b (l[i].1 - now), out) = _
      rw [hag _ ⟨i + 1, pre ++ [false], rfl, by omega, by simp [h2], hout, f1, by simp only; omega, h6.2.2⟩ (by simp only [ofNat_toNat]; omega)]
      simp only [ofNat_toNat]
      have : out.take (i + 1) = pre ++ [false] := by rw [hout, show i + 1 = (pre ++ [false]).length by simp [h2], List.take_left]
      rw [this, List.append_assoc]; rfl
  · have : i = l.length := by omega
    subst this
    rw [ltn, oif_f, List.drop_length, htk]
    have : out = pre := by rw [h3]; simp
    simp [rnF, j227_0, this]

theorem q_buRun {d : Nat} {b : Int × Int × Int} {l : List (Int × Int)} (hb : bkOk b = true) (hs : sdOk l = true) : g229 (d + 3) b l = some (rnF b 0 l) := by
  rw [e229]
  have hk := sd_len hs
  have hin := sd_in hs
  have hs' := hs
  simp only [sdOk, Bool.and_eq_true] at hs'
  refine (iter_eq (fun s => some ((rnF s.2.2.2 s.2.1 (l.drop s.2.2.1.toNat)).1, s.1 ++ (rnF s.2.2.2 s.2.1 (l.drop s.2.2.1.toNat)).2)) (fun s => l.length - s.2.2.1.toNat) (fun s => ∃ (i : Nat), s.2.2.1 = (i : Int) ∧ i ≤ l.length ∧ s.1.length = i ∧ bkOk s.2.2.2 = true ∧ 0 ≤ s.2.1 ∧ trF s.2.1 (l.drop i) = true) ?_ fuelN ([], 0, 0, b) ⟨0, rfl, by omega, rfl, hb, by simp, by simpa using hs'.1⟩ (by rw [fuelN_eq]; simp; omega)).trans (by simp)
  rintro ⟨out, now, n, b⟩ ag ⟨i, hn, h1, h3, h4, h5, h6⟩ hag
  simp only at hn h3 h4 h5 h6
  subst hn
  simp only [l229_0, l229_0_b, ofNat_toNat]
  rcases Nat.lt_or_ge i l.length with hlt | hge
  · have hx : l[i]? = some l[i] := List.getElem?_eq_getElem hlt
    have hxi := hin _ (List.getElem_mem hlt)
    rw [List.drop_eq_getElem_cons hlt] at h6
    have h6' := trF_in h6 l[i] List.mem_cons_self
    simp only [trF, Bool.and_eq_true] at h6
    obtain ⟨f1, _⟩ := fillB_in h4 (n := l[i].1 - now) (by omega) (by omega)
    have hf := bk_in f1
    rw [ltl hx, oif_t, nn, oif_t, hx, ob_s, wr (n := l[i].1 - now) (by omega) (by omega), q_buFill h4 (by omega) (by omega), ob_s]
    rw [List.drop_eq_getElem_cons hlt]
    simp only [rnF]
    unfold j229_1
    by_cases hc : l[i].2 ≤ (fillB b (l[i].1 - now)).2.2
    · rw [decide_eq_true (show (fillB b (l[i].1 - now)).2.2 ≥ l[i].2 from hc), oif_t, room (by simp; omega), oif_t, wr1 (by omega), wr (n := (fillB b (l[i].1 - now)).2.2 - l[i].2) (by omega) (by omega), if_pos hc]
      have hag' := hag (out ++ [true], l[i].1, ((i + 1 : Nat) : Int), (b.1, b.2.1, (fillB b (l[i].1 - now)).2.2 - l[i].2)) ⟨i + 1, rfl, by omega, by simp [h3], bk_spend f1 (by omega) hc, by simp only; omega, h6.2.2⟩ (by simp only [ofNat_toNat]; omega)
      simp only [ofNat_toNat, List.append_assoc, List.singleton_append] at hag'
      exact hag'
    · rw [decide_eq_false (show ¬ (fillB b (l[i].1 - now)).2.2 ≥ l[i].2 from hc), oif_f, room (by simp; omega), oif_t, wr1 (by omega), if_neg hc]
      have hag' := hag (out ++ [false], l[i].1, ((i + 1 : Nat) : Int), fillB b (l[i].1 - now)) ⟨i + 1, rfl, by omega, by simp [h3], f1, by simp only; omega, h6.2.2⟩ (by simp only [ofNat_toNat]; omega)
      simp only [ofNat_toNat, List.append_assoc, List.singleton_append] at hag'
      exact hag'
  · have : i = l.length := by omega
    subst this
    rw [ltn, oif_f, List.drop_length]
    simp [rnF, j229_0]

def cfV (b : Int × Int × Int) (l : List (Int × Int)) : Bool := (rnF b 0 l).2.all id

theorem q_conforms {d : Nat} {b : Int × Int × Int} {l : List (Int × Int)} (hb : bkOk b = true) (hs : sdOk l = true) : g222 (d + 3) b l = some (cfV b l) := by
  have hk := sd_len hs
  have hlen : (rnF b 0 l).2.length = l.length := rnF_len
  rw [e222, q_runSends hb hs, ob_s]
  refine (range_eq (fun (t : Bool) (i : Int) => (t, i)) (rnF b 0 l).2 (fun x _ t k => oif (id x) (k t) (some false)) (fun _ => some true) ?_ ?_ (by rw [fuelN_eq, hlen]; omega) false).trans ?_
  · intro ag t i x hx
    have hi := (List.getElem?_eq_some_iff.1 hx).1
    simp only [l222_0, l222_0_b, ltl hx, bltl hx, nn, ofNat_toNat, hx, ob_s, oif_t]
    rw [wr1 (by omega)]; cases x <;> rfl
  · intro ag t; simp only [l222_0, l222_0_b, ltn, oif_f]; rfl
  · rw [rangeR_all (p := id)]; unfold cfV; cases (rnF b 0 l).2.all id <;> rfl

theorem q_buAll {d : Nat} {b : Int × Int × Int} {l : List (Int × Int)} (hb : bkOk b = true) (hs : sdOk l = true) : g231 (d + 4) b l = some (cfV b l) := by
  have hk := sd_len hs
  have hlen : (rnF b 0 l).2.length = l.length := rnF_len
  rw [e231, q_buRun hb hs, ob_s]
  refine (range_eq (fun (t : Bool) (i : Int) => (t, i)) (rnF b 0 l).2 (fun x _ t k => oif (id x) (k t) (some false)) (fun _ => some true) ?_ ?_ (by rw [fuelN_eq, hlen]; omega) false).trans ?_
  · intro ag t i x hx
    have hi := (List.getElem?_eq_some_iff.1 hx).1
    simp only [l231_0, l231_0_b, ltl hx, bltl hx, nn, ofNat_toNat, hx, ob_s, oif_t]
    rw [wr1 (by omega)]; cases x <;> rfl
  · intro ag t; simp only [l231_0, l231_0_b, ltn, oif_f]; rfl
  · rw [rangeR_all (p := id)]; unfold cfV; cases (rnF b 0 l).2.all id <;> rfl

def csfV (b : Int × Int × Int) (l : List (Int × Int)) : Bool × Bool := if bkOk b && sdOk l then (cfV b l, true) else (false, false)

theorem q_Conforms {d : Nat} {b : Int × Int × Int} {l : List (Int × Int)} (hl : l.length < 4194304) : g58 (d + 4) b l = some (csfV b l) := by
  rw [e58, q_IsBucket, ob_s]; unfold csfV
  cases hb : bkOk b with
  | false => rfl
  | true =>
  rw [Bool.not_true, oif_f, q_areSends hl, ob_s]
  cases hs : sdOk l with
  | false => rfl
  | true => rw [Bool.not_true, oif_f, q_conforms hb hs, ob_s]; rfl

theorem q_sConforms {d : Nat} {b : Int × Int × Int} {l : List (Int × Int)} (hl : l.length < 4194304) : g59 (d + 5) b l = some (csfV b l) := by
  rw [e59, q_buGood, ob_s]; unfold csfV
  cases hb : bkOk b with
  | false => rfl
  | true =>
  rw [Bool.not_true, oif_f, q_buSends hl, ob_s]
  cases hs : sdOk l with
  | false => rfl
  | true => rw [Bool.not_true, oif_f, q_buAll hb hs, ob_s]; rfl

def rbV (b : Int × Int × Int) (l : List (Int × Int)) : (Int × Int × Int) × List Bool × Bool := if bkOk b && sdOk l then ((rnF b 0 l).1, (rnF b 0 l).2, true) else ((0, 0, 0), [], false)

theorem q_RunBucket {d : Nat} {b : Int × Int × Int} {l : List (Int × Int)} (hl : l.length < 4194304) : g55 (d + 3) b l = some (rbV b l) := by
  rw [e55, q_IsBucket, ob_s]; unfold rbV
  cases hb : bkOk b with
  | false => rfl
  | true =>
  rw [Bool.not_true, oif_f, q_areSends hl, ob_s]
  cases hs : sdOk l with
  | false => rfl
  | true => rw [Bool.not_true, oif_f, q_runSends hb hs, ob_s]; rfl

theorem q_sRunBucket {d : Nat} {b : Int × Int × Int} {l : List (Int × Int)} (hl : l.length < 4194304) : g56 (d + 4) b l = some (rbV b l) := by
  rw [e56, q_buGood, ob_s]; unfold rbV
  cases hb : bkOk b with
  | false => rfl
  | true =>
  rw [Bool.not_true, oif_f, q_buSends hl, ob_s]
  cases hs : sdOk l with
  | false => rfl
  | true => rw [Bool.not_true, oif_f, q_buRun hb hs, ob_s]; rfl

theorem wb_shift {rate : Int} : ∀ (r : List (Int × Int)) (B C t u s v : Int), B - s - rate * t = C - v - rate * u → (wb rate B t s r ↔ wb rate C u v r)
  | [], _, _, _, _, _, _, _ => Iff.rfl
  | x :: r, B, C, t, u, s, v, h => by
    simp only [wb]
    have e1 : rate * (x.1 - t) = rate * x.1 - rate * t := Int.mul_sub _ _ _
    have e2 : rate * (x.1 - u) = rate * x.1 - rate * u := Int.mul_sub _ _ _
    rw [wb_shift r B C t u (s + x.2) (v + x.2) (by omega)]
    constructor <;> rintro ⟨h1, h2⟩ <;> exact ⟨by omega, h2⟩

theorem wb_min {rate t : Int} : ∀ (r : List (Int × Int)) (A B s : Int), wb rate (min A B) t s r ↔ wb rate A t s r ∧ wb rate B t s r
  | [], _, _, _ => ⟨fun _ => ⟨trivial, trivial⟩, fun _ => trivial⟩
  | x :: r, A, B, s => by
    simp only [wb]
    rw [wb_min r A B (s + x.2)]
    constructor
    · rintro ⟨h1, h2, h3⟩; exact ⟨⟨by omega, h2⟩, by omega, h3⟩
    · rintro ⟨⟨h1, h2⟩, h3, h4⟩; exact ⟨by omega, h2, h4⟩

/-- All are sent just where no window needs more. -/
theorem all_sent : ∀ (l : List (Int × Int)) (b : Int × Int × Int) (now : Int), ((rnF b now l).2.all id = true ↔ wb b.1 b.2.2 now 0 l ∧ allW b.1 b.2.1 l)
  | [], b, now => ⟨fun _ => ⟨trivial, trivial⟩, fun _ => rfl⟩
  | x :: r, b, now => by
    have e0 : (fillB b (x.1 - now)).2.2 = min b.2.1 (b.2.2 + b.1 * (x.1 - now)) := rfl
    have e1 : b.1 * (x.1 - now) = b.1 * x.1 - b.1 * now := Int.mul_sub _ _ _
    have e2 : b.1 * (x.1 - x.1) = 0 := by simp
    simp only [rnF, wb, allW, Int.zero_add]
    by_cases hc : x.2 ≤ (fillB b (x.1 - now)).2.2
    · rw [if_pos hc]
      simp only [List.all_cons, id, Bool.true_and]
      have ih := all_sent r (b.1, b.2.1, (fillB b (x.1 - now)).2.2 - x.2) x.1
      simp only at ih
      rw [ih]
      have em : (fillB b (x.1 - now)).2.2 - x.2 = min (b.2.1 - x.2) (b.2.2 + b.1 * (x.1 - now) - x.2) := by rw [e0]; omega
      rw [em, wb_min, wb_shift r (b.2.1 - x.2) b.2.1 x.1 x.1 0 x.2 (by omega), wb_shift r (b.2.2 + b.1 * (x.1 - now) - x.2) b.2.2 x.1 now 0 x.2 (by omega)]
      rw [e0] at hc
      constructor
      · rintro ⟨⟨h1, h2⟩, h3⟩; exact ⟨⟨by omega, h2⟩, ⟨by omega, h1⟩, h3⟩
      · rintro ⟨⟨h1, h2⟩, ⟨h3, h4⟩, h5⟩; exact ⟨⟨h4, h2⟩, h5⟩
    · rw [if_neg hc]
      simp only [List.all_cons, id, Bool.false_and]
      rw [e0] at hc
      constructor
      · intro h; simp at h
      · rintro ⟨⟨h1, h2⟩, ⟨h3, h4⟩, h5⟩; omega

theorem winM_min {rate t0 n : Int} : ∀ (r : List (Int × Int)) (s m : Int), wb rate n t0 s r → m ≤ n → winM rate t0 s m r ≤ n
  | [], s, m, _, h => h
  | x :: r, s, m, hw, h => by
    simp only [winM]
    exact winM_min r _ _ hw.2 (by have := hw.1; omega)

theorem bvF_min {rate n : Int} : ∀ (l : List (Int × Int)) (m : Int), allW rate n l → m ≤ n → bvF rate m l ≤ n
  | [], m, _, h => h
  | x :: r, m, hw, h => by
    simp only [bvF]
    exact bvF_min r _ hw.2 (winM_min (x :: r) 0 m hw.1 h)

theorem allW_mono {rate B C : Int} (h : B ≤ C) : ∀ {l : List (Int × Int)}, allW rate B l → allW rate C l
  | [], _ => trivial
  | x :: r, hw => ⟨wb_mono h hw.1, allW_mono h hw.2⟩

theorem wb_early {rate n t : Int} (hr : 0 ≤ rate) : ∀ (r : List (Int × Int)) (u s : Int), u ≤ t → wb rate n t s r → wb rate n u s r
  | [], _, _, _, _ => trivial
  | x :: r, u, s, hu, hw => by
    have h1 := hw.1
    have h2 : rate * (x.1 - t) ≤ rate * (x.1 - u) := Int.mul_le_mul_of_nonneg_left (by omega) hr
    exact ⟨by omega, wb_early hr r u _ hu hw.2⟩

/-- A full bucket is enough just where its cap is at least the greatest need. -/
theorem cf_iff {rate n : Int} {l : List (Int × Int)} (hr : 0 ≤ rate) (hn : 0 ≤ n) (hs : sdOk l = true) : cfV (rate, n, n) l = decide (bv rate l ≤ n) := by
  rw [Bool.eq_iff_iff, decide_eq_true_eq]
  unfold cfV
  rw [all_sent]
  simp only
  constructor
  · rintro ⟨_, h⟩; exact bvF_min l 0 h hn
  · intro h
    have hw := allW_mono h (bvF_all (rate := rate) l 0).2
    refine ⟨?_, hw⟩
    cases l with
    | nil => trivial
    | cons x r =>
      have := sd_in hs x (by simp)
      exact wb_early hr (x :: r) 0 0 (by omega) hw.1

theorem bv_sd {rate : Int} {l : List (Int × Int)} (hr : 0 ≤ rate) (hs : sdOk l = true) : 0 ≤ bv rate l ∧ bv rate l ≤ 90000 := by
  have hk := sd_len hs
  simp only [sdOk, Bool.and_eq_true] at hs
  exact ⟨(bvF_all (rate := rate) l 0).1, bvF_le hr l 0 0 90000 hs.1 (by omega) (by omega)⟩

def lcV (rate : Int) (l : List (Int × Int)) : Int × Bool := if decide (0 ≤ rate ∧ rate ≤ 100000) && sdOk l then (bv rate l, true) else (0, false)

theorem q_LeastCap {d : Nat} {rate : Int} {l : List (Int × Int)} (hl : l.length < 4194304) : g50 (d + 6) rate l = some (lcV rate l) := by
  rw [e50, q_isFlowRate, ob_s]; unfold lcV j50_0
  by_cases hr : 0 ≤ rate ∧ rate ≤ 100000
  case neg => rw [decide_eq_false hr]; rfl
  rw [decide_eq_true hr, Bool.not_true, oif_f, q_areSends hl, ob_s, Bool.true_and]
  cases hs : sdOk l with
  | false => rfl
  | true =>
  rw [Bool.not_true, oif_f, if_pos rfl]
  obtain ⟨b1, b2⟩ := bv_sd hr.1 hs
  refine search_ok (c := bv rate l) (top := 90000) (K := fun n => some (n, true)) ?_ ?_ fuelN 0 90000 (by omega) (by omega) b1 (by omega) (by rw [fuelN_eq]; omega)
  · intro ag lo hi h1 h2 h3
    have hm : 0 ≤ (lo + hi) / 2 ∧ (lo + hi) / 2 ≤ 90000 := by omega
    simp only [l50i220_0, l50i220_0_b]
    rw [decide_eq_true h3, oif_t, wr (n := lo + hi) (by omega) (by omega), Int.tdiv_eq_ediv_of_nonneg (by omega), wr (n := (lo + hi) / 2) (by omega) (by omega), q_conforms (by unfold bkOk; rw [decide_eq_true_eq]; simp only; omega) hs, ob_s, cf_iff hr.1 (by omega) hs, wr (n := (lo + hi) / 2 - 1) (by omega) (by omega), wr (n := (lo + hi) / 2 + 1) (by omega) (by omega)]
    by_cases hc : bv rate l ≤ (lo + hi) / 2
    · rw [decide_eq_true hc, oif_t, if_pos hc]
    · rw [decide_eq_false hc, oif_f, if_neg hc]
  · intro ag lo hi h1 h2
    simp only [l50i220_0, l50i220_0_b]
    rw [decide_eq_false (by omega), oif_f]; rfl

/-- The worst window: first, last, need. -/
def wwI (rate t0 : Int) (i : Nat) : Nat → Int → Int × Int × Int → List (Int × Int) → Int × Int × Int
  | _, _, a, [] => a
  | k, s, a, x :: r => wwI rate t0 i (k + 1) (s + x.2) (if a.2.2 < 0 ∨ s + x.2 - rate * (x.1 - t0) > a.2.2 then ((i : Int), (k : Int), s + x.2 - rate * (x.1 - t0)) else a) r

def wwO (rate : Int) : Nat → Int × Int × Int → List (Int × Int) → Int × Int × Int
  | _, a, [] => a
  | i, a, x :: r => wwO rate (i + 1) (wwI rate x.1 i i 0 a (x :: r)) r

theorem wwI_max {rate t0 : Int} {i : Nat} : ∀ (r : List (Int × Int)) (k : Nat) (s : Int) (a : Int × Int × Int), 0 ≤ a.2.2 → (wwI rate t0 i k s a r).2.2 = winM rate t0 s a.2.2 r
  | [], _, _, _, _ => rfl
  | x :: r, k, s, a, h => by
    simp only [wwI, winM]
    by_cases hc : s + x.2 - rate * (x.1 - t0) > a.2.2
    · rw [if_pos (.inr hc), wwI_max r _ _ _ (by simp only; omega)]
      congr 1; simp only; omega
    · rw [if_neg (by omega), wwI_max r _ _ _ h]
      congr 1; omega

theorem wwO_max {rate : Int} : ∀ (l : List (Int × Int)) (i : Nat) (a : Int × Int × Int), 0 ≤ a.2.2 → (wwO rate i a l).2.2 = bvF rate a.2.2 l
  | [], _, _, _ => rfl
  | x :: r, i, a, h => by
    simp only [wwO, bvF]
    have e := wwI_max (rate := rate) (t0 := x.1) (i := i) (x :: r) i 0 a h
    have := (winM_wb (rate := rate) (t0 := x.1) (x :: r) 0 a.2.2).1
    rw [wwO_max r (i + 1) _ (by rw [e]; omega), e]

def ww (rate : Int) (l : List (Int × Int)) : Int × Int × Int := wwO rate 0 (0, 0, -1) l

theorem ww_first {rate : Int} {x : Int × Int} {r : List (Int × Int)} (hx : 1 ≤ x.2) : ww rate (x :: r) = wwO rate 0 (0, 0, x.2) (x :: r) := by
  simp only [ww, wwO, wwI]
  have e0 : rate * (x.1 - x.1) = 0 := by simp
  congr 2
  rw [e0]
  simp only [Int.zero_add, Int.sub_zero]
  rw [if_pos (.inl (by omega)), if_neg (by omega)]; rfl

theorem ww_need {rate : Int} {l : List (Int × Int)} (hs : sdOk l = true) : max 0 (ww rate l).2.2 = bv rate l ∧ (l ≠ [] → (ww rate l).2.2 = bv rate l) := by
  cases l with
  | nil => exact ⟨by simp [ww, wwO, bv, bvF]; omega, fun h => absurd rfl h⟩
  | cons x r =>
    have hx := sd_in hs x (by simp)
    have e : (ww rate (x :: r)).2.2 = bv rate (x :: r) := by
      rw [ww_first hx.2.2.1, wwO_max _ _ _ (by simp only; omega)]
      unfold bv
      simp only [bvF, winM]
      have e0 : rate * (x.1 - x.1) = 0 := by simp
      rw [e0]; congr 2; omega
    have := (bvF_all (rate := rate) (x :: r) 0).1
    refine ⟨?_, fun _ => e⟩
    rw [e]; unfold bv; omega

/-- The sum of the first sizes. -/
def ps (l : List (Int × Int)) (k : Nat) : Int := ((l.take k).map (·.2)).sum

theorem ps_succ {l : List (Int × Int)} {k : Nat} (h : k < l.length) : ps l (k + 1) = ps l k + l[k].2 := by
  unfold ps
  rw [List.take_succ, List.getElem?_eq_getElem h]
  simp only [Option.toList_some, List.map_append, List.map_cons, List.map_nil, List.sum_append, List.sum_cons, List.sum_nil]; omega

def wGood (rate : Int) (l : List (Int × Int)) (a : Int × Int × Int) : Prop := ∃ (f t : Nat), ∃ (hf : f < l.length) (ht : t < l.length), a.1 = (f : Int) ∧ a.2.1 = (t : Int) ∧ f ≤ t ∧ a.2.2 = ps l (t + 1) - ps l f - rate * (l[t].1 - l[f].1)

theorem wwI_good {rate : Int} {l : List (Int × Int)} {i : Nat} (hi : i < l.length) : ∀ (r : List (Int × Int)) (k : Nat) (a : Int × Int × Int), r = l.drop k → i ≤ k → (wGood rate l a ∨ a.2.2 < 0 ∧ r ≠ []) → wGood rate l (wwI rate l[i].1 i k (ps l k - ps l i) a r)
  | [], k, a, hr, hk, ha => by
    rcases ha with ha | ⟨_, ha⟩
    · exact ha
    · exact absurd rfl ha
  | x :: r, k, a, hr, hk, ha => by
    have hlt : k < l.length := by
      rcases Nat.lt_or_ge k l.length with h | h
      · exact h
      · rw [List.drop_eq_nil_of_le h] at hr; simp at hr
    rw [List.drop_eq_getElem_cons hlt] at hr
    obtain ⟨rfl, hr2⟩ := List.cons.inj hr
    simp only [wwI]
    have e : ps l k - ps l i + l[k].2 = ps l (k + 1) - ps l i := by rw [ps_succ hlt]; omega
    rw [e]
    refine wwI_good hi _ (k + 1) _ hr2 (by omega) (.inl ?_)
    split
    · exact ⟨i, k, hi, hlt, rfl, rfl, hk, rfl⟩
    · rename_i hc
      rcases ha with ha | ⟨h1, _⟩
      · exact ha
      · exact absurd (.inl h1) hc

theorem wwO_good {rate : Int} {l : List (Int × Int)} : ∀ (r : List (Int × Int)) (i : Nat) (a : Int × Int × Int), r = l.drop i → (wGood rate l a ∨ a.2.2 < 0 ∧ r ≠ []) → wGood rate l (wwO rate i a r)
  | [], i, a, hr, ha => by
    rcases ha with ha | ⟨_, ha⟩
    · exact ha
    · exact absurd rfl ha
  | x :: r, i, a, hr, ha => by
    have hlt : i < l.length := by
      rcases Nat.lt_or_ge i l.length with h | h
      · exact h
      · rw [List.drop_eq_nil_of_le h] at hr; simp at hr
    have hr0 := hr
    rw [List.drop_eq_getElem_cons hlt] at hr
    obtain ⟨rfl, hr2⟩ := List.cons.inj hr
    simp only [wwO]
    have := wwI_good (rate := rate) hlt _ i a hr0 (Nat.le_refl _) ha
    rw [Int.sub_self] at this
    exact wwO_good _ (i + 1) _ hr2 (.inl this)

theorem ww_wr {rate s : Int} {x y : Int × Int} (hr : 0 ≤ rate ∧ rate ≤ 100000) (hs : 0 ≤ s ∧ s ≤ 1000000) (hx : 0 ≤ x.1 ∧ x.1 ≤ 100000 ∧ 1 ≤ x.2 ∧ x.2 ≤ 1500) (hy : 0 ≤ y.1 ∧ y.1 ≤ 100000) :
    IntKind.i64.wrap (s + x.2) = s + x.2 ∧ IntKind.i64.wrap (s + x.2 - IntKind.i64.wrap (rate * IntKind.i64.wrap (x.1 - y.1))) = s + x.2 - rate * (x.1 - y.1) := win_wr hr hy hs hx

theorem q_buWorst {d : Nat} {rate : Int} {l : List (Int × Int)} (hr : 0 ≤ rate ∧ rate ≤ 100000) (hs : sdOk l = true) : g225 (d + 1) rate l = some (ww rate l) := by
  rw [e225]
  have hk := sd_len hs
  have hin := sd_in hs
  refine (iter_eq (fun q => some (wwO rate q.2.2.2.toNat (q.1, q.2.1, q.2.2.1) (l.drop q.2.2.2.toNat))) (fun q => l.length - q.2.2.2.toNat) (fun q => ∃ i : Nat, q.2.2.2 = (i : Int) ∧ i ≤ l.length) ?_ fuelN (0, 0, (-1), 0) ⟨0, rfl, by omega⟩ (by rw [fuelN_eq]; simp; omega)).trans (by simp [ww])
  rintro ⟨f, t, m, n⟩ ag ⟨i, hn, h1⟩ hag
  simp only at hn
  subst hn
  simp only [l225_0, l225_0_b, ofNat_toNat]
  rcases Nat.lt_or_ge i l.length with hlt | hge
  · have hx : l[i]? = some l[i] := List.getElem?_eq_getElem hlt
    have hxi := hin _ (List.getElem_mem hlt)
    rw [ltl hx, oif_t]
    refine (iter_eq (fun q => some (wwO rate (i + 1) (wwI rate l[i].1 i q.2.2.2.2.toNat q.2.2.2.1 (q.1, q.2.1, q.2.2.1) (l.drop q.2.2.2.2.toNat)) (l.drop (i + 1)))) (fun q => l.length - q.2.2.2.2.toNat) (fun q => ∃ k : Nat, q.2.2.2.2 = (k : Int) ∧ k ≤ l.length ∧ 0 ≤ q.2.2.2.1 ∧ q.2.2.2.1 ≤ 1500 * (k : Int)) ?_ fuelN (f, t, m, 0, (i : Int)) ⟨i, rfl, by omega, by simp, by simp only; omega⟩ (by rw [fuelN_eq]; simp; omega)).trans ?_
    · rintro ⟨f, t, m, s, n⟩ ag2 ⟨k, hn, g1, g2, g3⟩ hag2
      simp only at hn g2 g3
      subst hn
      simp only [l225_1, l225_1_b, ofNat_toNat]
      rcases Nat.lt_or_ge k l.length with hlt2 | hge2
      · have hy : l[k]? = some l[k] := List.getElem?_eq_getElem hlt2
        have hyk := hin _ (List.getElem_mem hlt2)
        obtain ⟨w1, w2⟩ := ww_wr (s := s) hr ⟨g2, by omega⟩ hyk (y := l[i]) (by omega)
        rw [ltl hy, oif_t, nn, oif_t, hy, ob_s, oif_t, ob_s, nn, oif_t, hx, ob_s]
        unfold j225_2
        rw [w1, w2, wr1 (by omega), List.drop_eq_getElem_cons hlt2]
        simp only [wwI]
        have hag2' : ∀ a : Int × Int × Int, ag2 (a.1, a.2.1, a.2.2, s + l[k].2, ((k + 1 : Nat) : Int)) = some (wwO rate (i + 1) (wwI rate l[i].1 i (k + 1) (s + l[k].2) a (l.drop (k + 1))) (l.drop (i + 1))) := fun a => by
          rw [hag2 _ ⟨k + 1, rfl, by omega, by simp only; omega, by simp only; omega⟩ (by simp only [ofNat_toNat]; omega)]
          simp only [ofNat_toNat]
        by_cases c1 : m < 0
        · rw [decide_eq_true c1, oif_t, oif_t, if_pos (.inl c1)]
          exact hag2' ((i : Int), (k : Int), _)
        · rw [decide_eq_false c1, oif_f]
          by_cases c2 : s + l[k].2 - rate * (l[k].1 - l[i].1) > m
          · rw [decide_eq_true c2, oif_t, if_pos (.inr c2)]
            exact hag2' ((i : Int), (k : Int), _)
          · rw [decide_eq_false c2, oif_f, if_neg (by omega)]
            exact hag2' (f, t, m)
      · have : k = l.length := by omega
        subst this
        rw [ltn, oif_f, List.drop_length]
        unfold j225_1
        rw [wr1 (by omega), hag _ ⟨i + 1, rfl, by omega⟩ (by simp only [ofNat_toNat]; omega)]
        simp only [ofNat_toNat, wwI]
    · simp only [ofNat_toNat]
      conv => rhs; rw [List.drop_eq_getElem_cons hlt]
      simp only [wwO]
      rw [← List.drop_eq_getElem_cons hlt]
  · have : i = l.length := by omega
    subst this
    rw [ltn, oif_f, List.drop_length]; rfl

theorem q_sLeastCap {d : Nat} {rate : Int} {l : List (Int × Int)} (hl : l.length < 4194304) : g51 (d + 4) rate l = some (lcV rate l) := by
  rw [e51, q_buRate, ob_s]; unfold lcV
  by_cases hr : 0 ≤ rate ∧ rate ≤ 100000
  case neg => rw [decide_eq_false hr]; rfl
  rw [decide_eq_true hr, Bool.not_true, oif_f, q_buSends hl, ob_s, Bool.true_and]
  cases hs : sdOk l with
  | false => rfl
  | true => rw [Bool.not_true, oif_f, q_buWorst hr hs, ob_s, q_l1Most, ob_s, (ww_need hs).1]; rfl

def wwV (rate : Int) (l : List (Int × Int)) : Int × Int × Bool := if decide (0 ≤ rate ∧ rate ≤ 100000) && (sdOk l && !(((l.length : Nat) : Int) == 0)) then ((ww rate l).1, (ww rate l).2.1, true) else (0, 0, false)

theorem q_sWorstWindow {d : Nat} {rate : Int} {l : List (Int × Int)} (hl : l.length < 4194304) : g53 (d + 4) rate l = some (wwV rate l) := by
  rw [e53, q_buRate, ob_s]; unfold wwV
  by_cases hr : 0 ≤ rate ∧ rate ≤ 100000
  case neg => rw [decide_eq_false hr]; rfl
  rw [decide_eq_true hr, Bool.not_true, oif_f, q_buSends hl, ob_s, Bool.true_and]
  cases hs : sdOk l with
  | false => rfl
  | true =>
  rw [Bool.not_true, oif_f, Bool.true_and]
  cases h0 : (((l.length : Nat) : Int) == 0) with
  | true => rfl
  | false => rw [oif_f, q_buWorst hr hs, ob_s]; rfl

theorem q_WorstWindow {d : Nat} {rate : Int} {l : List (Int × Int)} (hl : l.length < 4194304) : g52 (d + 3) rate l = some (wwV rate l) := by
  rw [e52, q_isFlowRate, ob_s]; unfold wwV j52_2
  by_cases hr : 0 ≤ rate ∧ rate ≤ 100000
  case neg => rw [decide_eq_false hr]; rfl
  rw [decide_eq_true hr, Bool.not_true, oif_f, q_areSends hl, ob_s, Bool.true_and]
  cases hs : sdOk l with
  | false => rfl
  | true =>
  rw [Bool.not_true, oif_f, Bool.true_and]
  cases h0 : (((l.length : Nat) : Int) == 0) with
  | true => rfl
  | false =>
  rw [oif_f, Bool.not_false, if_pos rfl]
  have hk := sd_len hs
  have hin := sd_in hs
  cases l with
  | nil => simp at h0
  | cons x r =>
  have hx0 := hin x (by simp)
  rw [List.getElem?_cons_zero, ob_s, ww_first hx0.2.2.1]
  generalize hL : x :: r = l at *
  refine (iter_eq (fun q => some ((wwO rate q.2.2.2.toNat (q.1, q.2.1, q.2.2.1) (l.drop q.2.2.2.toNat)).1, (wwO rate q.2.2.2.toNat (q.1, q.2.1, q.2.2.1) (l.drop q.2.2.2.toNat)).2.1, true)) (fun q => l.length - q.2.2.2.toNat) (fun q => ∃ i : Nat, q.2.2.2 = (i : Int) ∧ i ≤ l.length ∧ 0 ≤ q.2.2.1) ?_ fuelN (0, 0, x.2, 0) ⟨0, rfl, by omega, by simp only; omega⟩ (by rw [fuelN_eq]; simp; omega)).trans (by simp)
  rintro ⟨f, t, m, n⟩ ag ⟨i, hn, h1, hm⟩ hag
  simp only at hn hm
  subst hn
  simp only [l52_0, l52_0_b, ofNat_toNat]
  rcases Nat.lt_or_ge i l.length with hlt | hge
  · have hx : l[i]? = some l[i] := List.getElem?_eq_getElem hlt
    have hxi := hin _ (List.getElem_mem hlt)
    rw [ltl hx, oif_t]
    refine (iter_eq (fun q => some ((wwO rate (i + 1) (wwI rate l[i].1 i q.2.2.2.2.toNat q.2.2.2.1 (q.1, q.2.1, q.2.2.1) (l.drop q.2.2.2.2.toNat)) (l.drop (i + 1))).1, (wwO rate (i + 1) (wwI rate l[i].1 i q.2.2.2.2.toNat q.2.2.2.1 (q.1, q.2.1, q.2.2.1) (l.drop q.2.2.2.2.toNat)) (l.drop (i + 1))).2.1, true)) (fun q => l.length - q.2.2.2.2.toNat) (fun q => ∃ k : Nat, q.2.2.2.2 = (k : Int) ∧ k ≤ l.length ∧ 0 ≤ q.2.2.2.1 ∧ q.2.2.2.1 ≤ 1500 * (k : Int) ∧ 0 ≤ q.2.2.1) ?_ fuelN (f, t, m, 0, (i : Int)) ⟨i, rfl, by omega, by simp, by simp only; omega, hm⟩ (by rw [fuelN_eq]; simp; omega)).trans ?_
    · rintro ⟨f, t, m, s, n⟩ ag2 ⟨k, hn, g1, g2, g3, g4⟩ hag2
      simp only at hn g2 g3 g4
      subst hn
      simp only [l52_1, l52_1_b, ofNat_toNat]
      rcases Nat.lt_or_ge k l.length with hlt2 | hge2
      · have hy : l[k]? = some l[k] := List.getElem?_eq_getElem hlt2
        have hyk := hin _ (List.getElem_mem hlt2)
        obtain ⟨w1, w2⟩ := ww_wr (s := s) hr ⟨g2, by omega⟩ hyk (y := l[i]) (by omega)
        rw [ltl hy, oif_t, nn, oif_t, hy, ob_s, oif_t, ob_s, nn, oif_t, hx, ob_s, w1, w2, wr1 (by omega), List.drop_eq_getElem_cons hlt2]
        simp only [wwI]
        have hag2' : ∀ a : Int × Int × Int, 0 ≤ a.2.2 → ag2 (a.1, a.2.1, a.2.2, s + l[k].2, ((k + 1 : Nat) : Int)) = some ((wwO rate (i + 1) (wwI rate l[i].1 i (k + 1) (s + l[k].2) a (l.drop (k + 1))) (l.drop (i + 1))).1, (wwO rate (i + 1) (wwI rate l[i].1 i (k + 1) (s + l[k].2) a (l.drop (k + 1))) (l.drop (i + 1))).2.1, true) := fun a ha => by
          rw [hag2 _ ⟨k + 1, rfl, by omega, by simp only; omega, by simp only; omega, ha⟩ (by simp only [ofNat_toNat]; omega)]
          simp only [ofNat_toNat]
        by_cases c2 : s + l[k].2 - rate * (l[k].1 - l[i].1) > m
        · rw [decide_eq_true c2, oif_t, if_pos (.inr c2)]
          exact hag2' ((i : Int), (k : Int), _) (by simp only; omega)
        · rw [decide_eq_false c2, oif_f, if_neg (by omega)]
          exact hag2' (f, t, m) g4
      · have : k = l.length := by omega
        subst this
        rw [ltn, oif_f, List.drop_length]
        unfold j52_1
        rw [wr1 (by omega), hag _ ⟨i + 1, rfl, by omega, g4⟩ (by simp only [ofNat_toNat]; omega)]
        simp only [ofNat_toNat, wwI]
    · simp only [ofNat_toNat]
      conv => rhs; rw [List.drop_eq_getElem_cons hlt]
      simp only [wwO]
      rw [← List.drop_eq_getElem_cons hlt]
  · have : i = l.length := by omega
    subst this
    rw [ltn, oif_f, List.drop_length]; rfl

/-- Sent bytes are spent tokens. -/
def sentB : List (Int × Int) → List Bool → Int
  | x :: r, b :: bs => (if b then x.2 else 0) + sentB r bs
  | _, _ => 0

theorem rn_bytes : ∀ (l : List (Int × Int)) (b : Int × Int × Int) (now : Int), bkOk b = true → trF now l = true → 0 ≤ now → sentB l (rnF b now l).2 ≤ b.2.2 + b.1 * (lastT now l - now) ∧ bkOk (rnF b now l).1 = true
  | [], b, now, hb, _, _ => by
    have := bk_in hb
    simp [rnF, sentB, lastT, hb]; omega
  | x :: r, b, now, hb, ht, h0 => by
    have hx := trF_in ht x (by simp)
    simp only [trF, Bool.and_eq_true] at ht
    obtain ⟨f1, _⟩ := fillB_in hb (n := x.1 - now) (by omega) (by omega)
    have e0 : (fillB b (x.1 - now)).2.2 = min b.2.1 (b.2.2 + b.1 * (x.1 - now)) := rfl
    have e1 : b.1 * (lastT x.1 r - now) = b.1 * (x.1 - now) + b.1 * (lastT x.1 r - x.1) := by rw [← Int.mul_add]; congr 1; omega
    simp only [rnF, lastT]
    by_cases hc : x.2 ≤ (fillB b (x.1 - now)).2.2
    · rw [if_pos hc]
      obtain ⟨i1, i2⟩ := rn_bytes r _ x.1 (bk_spend f1 (by omega) hc) ht.2.2 (by omega)
      simp only at i1
      refine ⟨?_, i2⟩
      simp only [sentB, if_true]
      omega
    · rw [if_neg hc]
      obtain ⟨i1, i2⟩ := rn_bytes r _ x.1 f1 ht.2.2 (by omega)
      have e2 : (fillB b (x.1 - now)).1 = b.1 := rfl
      rw [e2] at i1
      refine ⟨?_, i2⟩
      simp only [sentB, Bool.false_eq_true, if_false]
      omega

theorem sentB_in : ∀ {l : List (Int × Int)} {bs : List Bool}, (∀ x ∈ l, 0 ≤ x.1 ∧ x.1 ≤ 100000 ∧ 1 ≤ x.2 ∧ x.2 ≤ 1500) → 0 ≤ sentB l bs ∧ sentB l bs ≤ 1500 * l.length
  | [], bs, _ => by cases bs <;> simp [sentB]
  | x :: r, [], _ => by simp [sentB]; omega
  | x :: r, b :: bs, h => by
    have h1 := h x (by simp)
    have h2 := sentB_in (l := r) (bs := bs) (fun y hy => h y (by simp [hy]))
    simp only [sentB, List.length_cons]
    split <;> omega

theorem p_DrawLeastCap {d : Nat} {x : List Int} (hx : Bytes x) : Ok (g49 (d + 5) x) fun r => r.2.length ≤ 62 := by
  rw [e49]
  refine Ok.bind (p_among (CurOk.new hx) (by omega) (by simp)) fun r hr => ?_
  exact Ok.bind (p_sends hr.2 (by omega)) fun q hq => Ok.some hq.1

theorem p_DrawRunBucket {d : Nat} {x : List Int} (hx : Bytes x) : Ok (g54 (d + 5) x) fun r => r.2.length ≤ 62 := by
  rw [e54]
  refine Ok.bind (p_bucket (CurOk.new hx) (by omega)) fun r hr => ?_
  exact Ok.bind (p_sends hr (by omega)) fun q hq => Ok.some hq.1

theorem p_DrawConforms {d : Nat} {x : List Int} (hx : Bytes x) : Ok (g57 (d + 5) x) fun r => r.2.length ≤ 62 := by
  rw [e57]
  refine Ok.bind (p_bucket (CurOk.new hx) (by omega)) fun r hr => ?_
  refine Ok.bind (p_sends hr (by omega)) fun q hq => ?_
  rw [q_buGood, ob_s]
  have key : ∀ (b : Bool) (c : List Int × Int × Int), (b = true → bkOk r.1 = true ∧ sdOk q.1 = true) → CurOk 2000 c → Ok (j57_0 (d + 4) r q b c.1 c.2.1 c.2.2) fun r => r.2.length ≤ 62 := by
    intro b c hb hc
    unfold j57_0
    refine Ok.oif (fun h => ?_) (fun _ => Ok.some hq.1)
    obtain ⟨h1, h2⟩ := hb h
    have := bk_in h1
    rw [q_buWorst (by omega) h2, ob_s]
    refine Ok.bind (p_pick hc (by omega)) fun u hu => ?_
    rw [q_l1Most, ob_s]
    exact Ok.some hq.1
  cases hb : bkOk r.1 with
  | false => rw [oif_f]; exact key false q.2 (fun h => by simp at h) (hq.2.mono (by omega))
  | true =>
    rw [oif_t, q_buSends (by omega), ob_s]
    cases hs : sdOk q.1 with
    | false => rw [oif_f]; exact key false q.2 (fun h => by simp at h) (hq.2.mono (by omega))
    | true =>
      rw [oif_t]
      exact Ok.bind (p_one hq.2 (by omega)) fun u hu => key u.1 u.2 (fun _ => ⟨hb, hs⟩) (hu.mono (by omega))

end Go.Proofs.Ytcoojpojnmnboaa
