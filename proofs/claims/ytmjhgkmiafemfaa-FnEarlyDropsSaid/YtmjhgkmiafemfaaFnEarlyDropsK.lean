/-
  What the cursor's functions and the small ones give by value.
  Conditions: the cursor has not been moved 2^62 times.
  Comparing and adding up lists of numbers; ranges.
  Conditions: the lists are shorter than the fuel.
  Droppers: averages, in both packages; the draws.
  Conditions: none, but those of the cursor for the draws.
  Droppers: chances, keyed numbers, decisions, in both packages.
  Conditions: none, but those of the cursor for the draws.
-/
import Derived.Test.YtmjhgkmiafemfaaFnEarlyDropsRes
import Derived.Test.YtmjhgkmiafemfaaPKit2
set_option linter.all false
namespace Go.Proofs.Ytmjhgkmiafemfaa
open Go.Ev Go.Pv

theorem p_next {d m : Nat} {c : List Int × Int × Int} (hc : CurOk m c) (hm : m < 4611686018427387904) : Ok (g289 (d + 1) c) fun r => 0 ≤ r.1 ∧ r.1 < 256 ∧ CurOk (m + 1) r.2 := by
  obtain ⟨hb, h0, h1⟩ := hc
  obtain ⟨code, at', seed⟩ := c
  simp only at hb h0 h1
  have hw : IntKind.i64.wrap (at' + 1) = at' + 1 := wr (by omega) (by omega)
  rw [e289]
  have fin : ∀ n : Int, (at' < code.length → 0 ≤ n ∧ n < 256) → Ok (j289_0 d (code, at', seed) n) fun r => 0 ≤ r.1 ∧ r.1 < 256 ∧ CurOk (m + 1) r.2 := by
    intro n hn
    unfold j289_0
    simp only [hw]
    refine Ok.oif (fun h => ?_) (fun h => ?_)
    · simp only [decide_eq_true_eq] at h
      obtain ⟨a, b⟩ := hn (by omega)
      exact Ok.some ⟨a, b, hb, by simp only; omega, by simp only; omega⟩
    · exact Ok.some ⟨(seedByte _).1, (seedByte _).2, hb, by simp only; omega, by simp only; omega⟩
  refine Ok.oif (fun h => ?_) (fun h => ?_)
  · simp only [decide_eq_true_eq] at h
    refine Ok.oif (fun _ => ?_) (fun h2 => by simp only [decide_eq_false_iff_not] at h2; omega)
    have hlt : at'.toNat < code.length := by omega
    simp only
    rw [List.getElem?_eq_getElem hlt]
    have hx := hb _ (List.getElem_mem hlt)
    refine Ok.bind (Ok.some rfl) (fun a ha => ?_)
    subst ha
    exact fin _ (fun _ => by rw [wr (by omega) (by omega)]; exact hx)
  · simp only [decide_eq_false_iff_not] at h
    exact fin 0 (fun h' => absurd h' h)

theorem p_pick {d m : Nat} {c : List Int × Int × Int} {n : Int} (hc : CurOk m c) (hm : m + 1 < 4611686018427387904) : Ok (g177 (d + 2) c n) fun r => 0 ≤ r.1 ∧ (r.1 < n ∨ r.1 = 0) ∧ CurOk (m + 2) r.2 := by
  rw [e177]
  refine Ok.oif (fun h => ?_) (fun h => ?_)
  · exact Ok.some ⟨by simp, .inr rfl, hc.mono (by omega)⟩
  · simp only [decide_eq_false_iff_not] at h
    refine Ok.bind (p_next hc (by omega)) (fun r hr => ?_)
    obtain ⟨h1, h2, h3⟩ := hr
    have hn : (n == 0) = false := by simp; omega
    refine Ok.oif (fun h4 => ?_) (fun h4 => ?_)
    · refine Ok.bind (p_next h3 (by omega)) (fun q hq => ?_)
      obtain ⟨h5, h6, h7⟩ := hq
      rw [hn]
      rw [wr (n := r.1 * 256) (by omega) (by omega), wr (by omega) (by omega)]
      exact Ok.some ⟨Int.tmod_nonneg _ (by omega), .inl (Int.tmod_lt_of_pos _ (by omega)), h7.mono (by omega)⟩
    · rw [hn]
      exact Ok.some ⟨Int.tmod_nonneg _ (by omega), .inl (Int.tmod_lt_of_pos _ (by omega)), h3.mono (by omega)⟩

theorem p_among {d m : Nat} {c : List Int × Int × Int} {l : List Int} (hc : CurOk m c) (hm : m + 1 < 4611686018427387904) (hl : 0 < l.length) : Ok (g158 (d + 3) c l) fun r => r.1 ∈ l ∧ CurOk (m + 2) r.2 := by
  rw [e158]
  refine Ok.bind (p_pick hc hm) (fun r hr => ?_)
  obtain ⟨h1, h2, h3⟩ := hr
  refine Ok.oif (fun _ => ?_) (fun h => by simp only [decide_eq_false_iff_not] at h; omega)
  have hlt : r.1.toNat < l.length := by omega
  rw [List.getElem?_eq_getElem hlt]
  exact Ok.bind (Ok.some rfl) (fun a ha => by subst ha; exact Ok.some ⟨List.getElem_mem hlt, h3⟩)

theorem p_one {d m : Nat} {c : List Int × Int × Int} {n : Int} (hc : CurOk m c) (hm : m + 1 < 4611686018427387904) : Ok (g211 (d + 3) c n) fun r => CurOk (m + 2) r.2 := by
  rw [e211]
  exact Ok.bind (p_pick hc hm) (fun r hr => Ok.some hr.2.2)

theorem q_l1In {d : Nat} {x y z : Int} : g179 (d + 1) x y z = some (decide (y ≤ x ∧ x ≤ z)) := by
  rw [e179]; simp only [oif_ss]; congr 1; rw [Bool.eq_iff_iff]; simp

def szOk (s : Int) : Bool := decide (1 ≤ s ∧ s ≤ 1500)

theorem q_l1All {d : Nat} {l : List Int} {a b : Int} (hl : l.length < 4194304) : g228 (d + 2) l a b = some (l.all fun x => decide (a ≤ x ∧ x ≤ b)) := by
  rw [e228]
  refine (range_eq (fun (t : Bool) (i : Int) => (t, i)) l (fun x _ t k => oif (decide (a ≤ x ∧ x ≤ b)) (k t) (some false)) (j228_0 (d + 1)) ?_ ?_ (by rw [fuelN_eq]; exact hl) false).trans ?_
  · intro ag t i x hx; have hi := (List.getElem?_eq_some_iff.1 hx).1; simp only [l228_0, l228_0_b, ltl hx, bltl hx, nn, ofNat_toNat, hx, ob_s, oif_t]; rw [wr1 (by omega)]
    rw [q_l1In, ob_s]; cases decide (a ≤ x ∧ x ≤ b) <;> rfl
  · intro ag t; simp only [l228_0, l228_0_b, ltn, oif_f]
  · rw [rangeR_all (p := fun x => decide (a ≤ x ∧ x ≤ b))]; cases l.all _ <;> rfl

theorem q_sameInts {d : Nat} {l : List Int} (hl : l.length < 4194304) : g16 (d + 1) l l = some true := by
  rw [e16, bne_self_eq_false, oif_f]
  refine (range_eq (fun (t : Bool) (i : Int) => (t, i)) l (fun x i t k => k t) (j16_0 d) ?_ ?_ (by rw [fuelN_eq]; exact hl) false).trans ?_
  · intro ag t i x hx; have hi := (List.getElem?_eq_some_iff.1 hx).1; simp only [l16_0, l16_0_b, ltl hx, bltl hx, nn, ofNat_toNat, hx, ob_s, oif_t]; rw [wr1 (by omega)]
    simp only [bne_self_eq_false, oif_f]
  · intro ag t; simp only [l16_0, l16_0_b, ltn, oif_f]
  · rw [rangeR_fold (f := fun _ _ t => t)]; rfl

theorem q_big {d : Nat} {x y : List Int} : ∃ b, g12 (d + 1) x y = some b := by
  rw [e12]; simp only [oif_ss]; exact ⟨_, rfl⟩

def elOk (e : Int × Int × Int × Int) : Bool := decide (0 ≤ e.1 ∧ e.1 < e.2.1 ∧ e.2.1 ≤ 60 ∧ 1 ≤ e.2.2.1 ∧ e.2.2.1 ≤ 256 ∧ 1 ≤ e.2.2.2 ∧ e.2.2.2 ≤ 1000)

def avOk (n : Int) : Bool := decide (0 ≤ n ∧ n ≤ 15360)

def lnOk (n : Int) : Bool := decide (0 ≤ n ∧ n ≤ 60)

def lnsOk (l : List Int) : Bool := l.all lnOk && decide (((l.length : Nat) : Int) ≤ 60)

theorem q_IsEarly {d : Nat} {e : Int × Int × Int × Int} : g194 (d + 1) e = some (elOk e) := by
  rw [e194]; simp only [oif_ss]; congr 1; rw [Bool.eq_iff_iff]; simp [elOk]

theorem q_isAverage {d : Nat} {n : Int} : g195 (d + 1) n = some (avOk n) := by
  rw [e195]; simp only [oif_ss]; congr 1; rw [Bool.eq_iff_iff]; simp [avOk]

theorem q_isLength {d : Nat} {n : Int} : g293 (d + 1) n = some (lnOk n) := by
  rw [e293]; simp only [oif_ss]; congr 1; rw [Bool.eq_iff_iff]; simp [lnOk]

theorem q_rdGood {d : Nat} {e : Int × Int × Int × Int} : g198 (d + 2) e = some (elOk e) := by
  rw [e198]; simp only [q_l1In, ob_s]
  by_cases h : 1 ≤ e.2.1 ∧ e.2.1 ≤ 60
  · rw [wr (n := e.2.1 - 1) (by omega) (by omega)]
    simp only [oif_ss]; congr 1; rw [Bool.eq_iff_iff]; simp [elOk]; omega
  · have : elOk e = false := by simp only [elOk, decide_eq_false_iff_not]; omega
    rw [decide_eq_false h, this]; rfl

theorem q_rdAverage {d : Nat} {n : Int} : g199 (d + 2) n = some (avOk n) := by
  rw [e199, q_l1In, ob_s]; rfl

/-- The next average. -/
def nx (e : Int × Int × Int × Int) (a n : Int) : Int := a + (e.2.2.1 * (256 * n - a)) / 256

theorem nx_in {e : Int × Int × Int × Int} {a n : Int} (he : elOk e = true) (ha : avOk a = true) (hn : lnOk n = true) :
    0 ≤ nx e a n ∧ nx e a n ≤ 15360 ∧ -3932160 ≤ e.2.2.1 * (256 * n - a) ∧ e.2.2.1 * (256 * n - a) ≤ 3932160 ∧ (a ≤ 256 * n → a ≤ nx e a n ∧ nx e a n ≤ 256 * n) ∧ (256 * n ≤ a → nx e a n ≤ a ∧ 256 * n ≤ nx e a n) := by
  simp only [elOk, avOk, lnOk, decide_eq_true_eq] at he ha hn
  unfold nx
  generalize e.2.2.1 = w at he ⊢
  have key : 0 ≤ 256 * n - a → 256 * n - a ≤ w * (256 * n - a) * 1 ∧ w * (256 * n - a) ≤ 256 * (256 * n - a) := fun h => by
    have h1 : 1 * (256 * n - a) ≤ w * (256 * n - a) := Int.mul_le_mul_of_nonneg_right (by omega) h
    have h2 : w * (256 * n - a) ≤ 256 * (256 * n - a) := Int.mul_le_mul_of_nonneg_right (by omega) h
    omega
  have key2 : 0 ≤ a - 256 * n → a - 256 * n ≤ w * (a - 256 * n) ∧ w * (a - 256 * n) ≤ 256 * (a - 256 * n) := fun h => by
    have h1 : 1 * (a - 256 * n) ≤ w * (a - 256 * n) := Int.mul_le_mul_of_nonneg_right (by omega) h
    have h2 : w * (a - 256 * n) ≤ 256 * (a - 256 * n) := Int.mul_le_mul_of_nonneg_right (by omega) h
    omega
  have neg : w * (a - 256 * n) = -(w * (256 * n - a)) := by rw [← Int.mul_neg]; congr 1; omega
  rw [neg] at key2
  generalize w * (256 * n - a) = m at key key2 ⊢
  rcases Int.le_total 0 (256 * n - a) with h | h
  · have := key h; omega
  · have := key2 (by omega); omega

theorem floor256 {m : Int} : (if decide (m.tmod 256 < 0) then m.tdiv 256 - 1 else m.tdiv 256) = m / 256 := by
  rcases Int.le_total 0 m with h | h
  · rw [Int.tdiv_eq_ediv_of_nonneg h, Int.tmod_eq_emod_of_nonneg h]
    have := Int.emod_nonneg m (show (256 : Int) ≠ 0 by omega)
    have e : decide (m % 256 < 0) = false := by simp; omega
    simp only [e, Bool.false_eq_true, if_false]
  · have e1 : m.tdiv 256 = -((-m) / 256) := by
      have := Int.neg_tdiv m 256
      rw [← Int.tdiv_eq_ediv_of_nonneg (a := -m) (by omega), this]; omega
    have e2 : m.tmod 256 = -((-m) % 256) := by
      have := Int.neg_tmod m 256
      rw [← Int.tmod_eq_emod_of_nonneg (a := -m) (by omega), this]; omega
    rw [e1, e2]
    split <;> simp_all <;> omega

theorem q_nextAverage {d : Nat} {e : Int × Int × Int × Int} {a n : Int} (he : elOk e = true) (ha : avOk a = true) (hn : lnOk n = true) : g205 (d + 1) e a n = some (nx e a n) := by
  obtain ⟨h1, h2, h3, h4, _⟩ := nx_in he ha hn
  have ha' := ha; have hn' := hn
  simp only [avOk, lnOk, decide_eq_true_eq] at ha' hn'
  have e0 : ((2 : Int) ^ (min (8 : Int).toNat IntKind.i64.bits)) = 256 := by decide
  rw [e205, wr (n := (256 : Int) * n) (by omega) (by omega), wr (n := 256 * n - a) (by omega) (by omega), wr (n := e.2.2.1 * (256 * n - a)) (by omega) (by omega), e0, Int.fdiv_eq_ediv_of_nonneg _ (by omega)]
  exact congrArg some (wr (n := nx e a n) (by omega) (by omega))

theorem q_rdNext {d : Nat} {e : Int × Int × Int × Int} {a n : Int} (he : elOk e = true) (ha : avOk a = true) (hn : lnOk n = true) : g209 (d + 1) e a n = some (nx e a n) := by
  obtain ⟨h1, h2, h3, h4, _⟩ := nx_in he ha hn
  have ha' := ha; have hn' := hn
  simp only [avOk, lnOk, decide_eq_true_eq] at ha' hn'
  have fl := floor256 (m := e.2.2.1 * (256 * n - a))
  have hx : nx e a n = a + (e.2.2.1 * (256 * n - a)) / 256 := rfl
  rw [e209, wr (n := (256 : Int) * n) (by omega) (by omega), wr (n := 256 * n - a) (by omega) (by omega), wr (n := e.2.2.1 * (256 * n - a)) (by omega) (by omega)]
  generalize e.2.2.1 * (256 * n - a) = m at *
  cases hd : decide (m.tmod 256 < 0) with
  | true =>
    simp only [hd, if_true] at fl
    rw [oif_t, wr (n := m.tdiv 256) (by omega) (by omega), wr (n := m.tdiv 256 - 1) (by omega) (by omega), wr (by omega) (by omega), hx, fl]
  | false =>
    simp only [hd, Bool.false_eq_true, if_false] at fl
    rw [oif_f, wr (n := m.tdiv 256) (by omega) (by omega), wr (by omega) (by omega), hx, fl]

def naV (e : Int × Int × Int × Int) (a n : Int) : Int × Bool := if elOk e && (avOk a && lnOk n) then (nx e a n, true) else (0, false)

theorem q_areLengths {d : Nat} {l : List Int} (hl : l.length < 4194304) : g203 (d + 2) l = some (lnsOk l) := by
  rw [e203]
  refine (range_eq (fun (t : Bool) (i : Int) => (t, i)) l (fun x _ t k => oif (lnOk x) (k t) (some false)) (j203_0 (d + 1) l) ?_ ?_ (by rw [fuelN_eq]; exact hl) false).trans ?_
  · intro ag t i x hx; have hi := (List.getElem?_eq_some_iff.1 hx).1; simp only [l203_0, l203_0_b, ltl hx, bltl hx, nn, ofNat_toNat, hx, ob_s, oif_t]; rw [wr1 (by omega)]
    rw [q_isLength, ob_s]; cases lnOk x <;> rfl
  · intro ag t; simp only [l203_0, l203_0_b, ltn, oif_f]
  · rw [rangeR_all (p := lnOk)]; unfold lnsOk j203_0; cases l.all _ <;> rfl

theorem q_rdLengths {d : Nat} {l : List Int} (hl : l.length < 4194304) : g207 (d + 3) l = some (lnsOk l) := by
  rw [e207]; simp only [q_l1All hl, ob_s]
  have e1 : l.all (fun x => decide (0 ≤ x ∧ x ≤ 60)) = l.all lnOk := rfl
  rw [e1]; unfold lnsOk
  cases l.all lnOk <;> cases decide (((l.length : Nat) : Int) ≤ 60) <;> rfl

/-- The averages after each length. -/
def avgL (e : Int × Int × Int × Int) : Int → List Int → List Int
  | _, [] => []
  | a, n :: r => nx e a n :: avgL e (nx e a n) r

theorem avgL_len {e : Int × Int × Int × Int} : ∀ {l : List Int} {a : Int}, (avgL e a l).length = l.length
  | [], _ => rfl
  | n :: r, a => by simp [avgL, avgL_len]

theorem avg_range {e : Int × Int × Int × Int} {G : Int → Int → Option Int} {β : Type} {fin : Int × List Int → Option β} (he : elOk e = true) (hG : ∀ a n, avOk a = true → lnOk n = true → G a n = some (nx e a n)) :
    ∀ (l : List Int) (i : Nat) (t : Int × List Int), avOk t.1 = true → (∀ x ∈ l, lnOk x = true) → t.2.length + l.length ≤ 100000 →
    ∃ a', rangeR (fun x i t k => obind (G t.1 x) fun r => oif (Nat.ble ((t.2.length + [r].length) * 8) roomMax) (k (r, t.2 ++ [r])) none) fin l i t = fin (a', t.2 ++ avgL e t.1 l)
  | [], i, t, _, _, _ => ⟨t.1, by simp [rangeR, avgL]⟩
  | x :: r, i, t, ha, hl, hs => by
    have hx := hl x (by simp)
    obtain ⟨h1, h2, _⟩ := nx_in he ha hx
    simp only [List.length_cons] at hs
    obtain ⟨a', ih⟩ := avg_range (fin := fin) he hG r (i + 1) (nx e t.1 x, t.2 ++ [nx e t.1 x]) (by simp [avOk, h1, h2]) (fun y hy => hl y (by simp [hy])) (by simp; omega)
    refine ⟨a', ?_⟩
    simp only [rangeR, hG _ _ ha hx, ob_s]
    rw [room (by simp; omega), oif_t, ih]
    simp [avgL]

def aoV (e : Int × Int × Int × Int) (a : Int) (l : List Int) : List Int × Bool := if elOk e && (avOk a && lnsOk l) then (avgL e a l, true) else ([], false)

theorem q_AverageOver {d : Nat} {e : Int × Int × Int × Int} {a : Int} {l : List Int} (hl : l.length < 4194304) : g57 (d + 3) e a l = some (aoV e a l) := by
  rw [e57]; unfold j57_1
  simp only [q_IsEarly, q_isAverage, q_areLengths hl, ob_s, aoV]
  cases he : elOk e with
  | false => rfl
  | true =>
  cases ha : avOk a with
  | false => rfl
  | true =>
  cases hn : lnsOk l with
  | false => rfl
  | true =>
  simp only [lnsOk, Bool.and_eq_true, List.all_eq_true, decide_eq_true_eq] at hn
  simp only [Bool.not_true, oif_f]
  refine (range_eq (fun (t : Int × List Int) (i : Int) => (t.1, t.2, i)) l (fun x i t k => obind (g205 (d + 2) e t.1 x) fun r => oif (Nat.ble ((t.2.length + [r].length) * 8) roomMax) (k (r, t.2 ++ [r])) none) (fun t => j57_0 (d + 2) t.2) ?_ ?_ (by rw [fuelN_eq]; exact hl) (a, [])).trans ?_
  · intro ag t i x hx; have hi := (List.getElem?_eq_some_iff.1 hx).1; simp only [l57_0, l57_0_b, ltl hx, bltl hx, nn, ofNat_toNat, hx, ob_s, oif_t]; rw [wr1 (by omega)]
  · intro ag t; simp only [l57_0, l57_0_b, ltn, oif_f]
  · obtain ⟨a', h⟩ := avg_range (fin := fun t => j57_0 (d + 2) t.2) he (fun a n ha hn => q_nextAverage (d := d + 1) he ha hn) l 0 (a, []) ha hn.1 (by simp; omega)
    rw [h]; rfl

/-- The average after k equal lengths. -/
def itA (e : Int × Int × Int × Int) (a n : Int) : Nat → Int
  | 0 => a
  | k + 1 => nx e (itA e a n k) n

theorem itA_ok {e : Int × Int × Int × Int} {a n : Int} (he : elOk e = true) (ha : avOk a = true) (hn : lnOk n = true) : ∀ k, avOk (itA e a n k) = true
  | 0 => ha
  | k + 1 => by obtain ⟨h1, h2, _⟩ := nx_in he (itA_ok he ha hn k) hn; simp [avOk, itA, h1, h2]

theorem avgL_rep {e : Int × Int × Int × Int} {a n : Int} : ∀ (m s j : Nat), j < m → (avgL e (itA e a n s) (List.replicate m n))[j]? = some (itA e a n (s + j + 1))
  | 0, s, j, h => by omega
  | m + 1, s, 0, h => by simp [List.replicate_succ, avgL, itA]
  | m + 1, s, j + 1, h => by
    have := avgL_rep (e := e) (a := a) (n := n) m (s + 1) j (by omega)
    simp only [List.replicate_succ, avgL, List.getElem?_cons_succ]
    rw [show s + (j + 1) + 1 = s + 1 + j + 1 by omega]
    exact this

/-- The first of at most so many from n on. -/
def untilV (c : Nat → Bool) : Nat → Nat → Option Nat
  | 0, _ => none
  | k + 1, n => if c n then some n else untilV c k (n + 1)

theorem untilV_some {c : Nat → Bool} {m : Nat} : ∀ (k n : Nat), untilV c k n = some m → n ≤ m ∧ m < n + k ∧ c m = true ∧ ∀ j, n ≤ j → j < m → c j = false
  | 0, n, h => by simp [untilV] at h
  | k + 1, n, h => by
    unfold untilV at h
    split at h
    · rename_i hc; simp at h; subst h; exact ⟨by omega, by omega, hc, fun j h1 h2 => by omega⟩
    · rename_i hc
      obtain ⟨h1, h2, h3, h4⟩ := untilV_some k (n + 1) h
      refine ⟨by omega, by omega, h3, fun j h5 h6 => ?_⟩
      rcases Nat.eq_or_lt_of_le h5 with rfl | h7
      · simpa using hc
      · exact h4 j h7 h6

/-- What the search gives. -/
def unV (c : Nat → Bool) : Int × Bool := match untilV c 10001 0 with | some m => ((m : Int), true) | none => (0, false)

theorem until_ok {σ β : Type} {F : (σ → Option β) → σ → Option β} {c : Nat → Bool} {hit : Nat → β} {none' : β} (mk : Nat → σ)
    (h : ∀ ag n, F ag (mk n) = if n ≤ 10000 then (if c n then some (hit n) else ag (mk (n + 1))) else some none') :
    ∀ (k fuel n : Nat), n + k = 10001 → k < fuel → iterP F fuel (mk n) = some (match untilV c k n with | some m => hit m | none => none')
  | 0, fuel + 1, n, h1, _ => by
    simp only [iterP, h, show ¬ n ≤ 10000 by omega, if_false, untilV]
  | k + 1, fuel + 1, n, h1, h2 => by
    simp only [iterP, h, show n ≤ 10000 by omega, if_true, untilV]
    split
    · rfl
    · exact until_ok mk h k fuel (n + 1) (by omega) (by omega)

def idC (e : Int × Int × Int × Int) (a : Int) (k : Nat) : Bool := decide (itA e a 0 k < 256 * e.1)

def foC (e : Int × Int × Int × Int) (k : Nat) : Bool := decide (itA e 0 60 k ≥ 256 * e.2.1)

def idV (e : Int × Int × Int × Int) (a : Int) : Int × Bool := if elOk e && avOk a then unV (idC e a) else (0, false)

def foV (e : Int × Int × Int × Int) : Int × Bool := if elOk e then unV (foC e) else (0, false)

theorem p_early {d m : Nat} {c : List Int × Int × Int} (hc : CurOk m c) (hm : m < 100000) : Ok (g192 (d + 4) c) fun r => CurOk (m + 20) r.2 := by
  rw [e192]; unfold j192_0
  (repeat' (first | (with_reducible refine Ok.some ?_; exact CurOk.mono (by assumption) (by omega)) | (with_reducible refine Ok.oif (fun _ => ?_) (fun _ => ?_)) | (with_reducible refine Ok.bind (p_pick (by assumption) (by omega)) (fun r hr => ?_); obtain ⟨_, _, _⟩ := hr) | (with_reducible refine Ok.bind (p_among (by assumption) (by omega) (by simp)) (fun r hr => ?_); obtain ⟨_, _⟩ := hr) | (with_reducible refine Ok.bind (p_one (by assumption) (by omega)) (fun r hr => ?_))))

theorem p_average {d m : Nat} {c : List Int × Int × Int} (hc : CurOk m c) (hm : m < 100000) : Ok (g193 (d + 4) c) fun r => CurOk (m + 20) r.2 := by
  rw [e193]
  (repeat' (first | (with_reducible refine Ok.some ?_; exact CurOk.mono (by assumption) (by omega)) | (with_reducible refine Ok.oif (fun _ => ?_) (fun _ => ?_)) | (with_reducible refine Ok.bind (p_pick (by assumption) (by omega)) (fun r hr => ?_); obtain ⟨_, _, _⟩ := hr) | (with_reducible refine Ok.bind (p_among (by assumption) (by omega) (by simp)) (fun r hr => ?_); obtain ⟨_, _⟩ := hr) | (with_reducible refine Ok.bind (p_one (by assumption) (by omega)) (fun r hr => ?_))))

theorem p_lengths {d m : Nat} {c : List Int × Int × Int} (hc : CurOk m c) (hm : m < 100000) : Ok (g202 (d + 4) c) fun r => r.1.length ≤ 100 ∧ CurOk (m + 100) r.2 := by
  rw [e202]
  refine Ok.bind (p_pick hc (by omega)) fun r hr => ?_
  obtain ⟨a1, a2, a3⟩ := hr
  refine iter_ok (fun k s => s.2.1 ≤ (k : Int) ∧ s.1.length + k ≤ 20 ∧ CurOk (m + 2 + 2 * s.1.length) s.2.2) ?_ _ 20 _ (by rw [fuelN_eq]; omega) ⟨by simp only; omega, by simp, by simpa using a3⟩
  rintro k ⟨l, n, x⟩ ag ⟨h1, h2, h3⟩ hag
  simp only at h1 h2 h3
  simp only [l202_0, l202_0_b]
  refine Ok.oif (fun h => ?_) (fun h => ?_)
  · simp at h
    refine Ok.bind (p_among h3 (by omega) (by simp)) fun u hu => ?_
    rw [room (by simp; omega), oif_t]
    exact hag (k - 1) _ (by omega) ⟨by simp only; rw [wr (by omega) (by omega)]; omega, by simp; omega, by simpa [Nat.mul_add, Nat.add_assoc] using hu.2⟩
  · unfold j202_0
    refine Ok.bind (p_pick (c := (x.1, x.2.1, x.2.2)) h3 (by omega)) fun q hq => ?_
    refine Ok.oif (fun _ => ?_) (fun _ => Ok.oif (fun _ => ?_) (fun _ => ?_))
    · refine Ok.bind (p_among hq.2.2 (by omega) (by simp)) fun u hu => ?_
      rw [room (by simp; omega), oif_t]
      exact Ok.some ⟨by simp; omega, hu.2.mono (by omega)⟩
    · refine Ok.bind (p_pick hq.2.2 (by omega)) fun u hu => ?_
      obtain ⟨u1, u2, u3⟩ := hu
      rw [wr (n := 60 + u.1) (by omega) (by omega)]
      have e1 : decide (0 ≤ 60 + u.1) = true := by simp; omega
      have e2 : (Nat.ble (60 + u.1).toNat (60 + u.1).toNat && Nat.ble ((60 + u.1).toNat * 8) roomMax) = true := by
        rw [Bool.and_eq_true, Nat.ble_eq, Nat.ble_eq]; unfold roomMax; omega
      rw [e1, oif_t, oif_t, e2, oif_t]
      exact Ok.some ⟨by simp; omega, u3.mono (by omega)⟩
    · exact Ok.some ⟨by simp only; omega, hq.2.2.mono (by omega)⟩

theorem fuel_more : ∃ n, fuelN = n + 1 ∧ 99 ≤ n := ⟨4194303, by rw [fuelN_eq], by omega⟩

/-- Euclid's loop. -/
theorem gcd_loop {F : (Int × Int → Option Int) → Int × Int → Option Int} (h0 : ∀ ag x, F ag (x, 0) = some x) (h1 : ∀ ag x y, 0 ≤ x → 0 < y → F ag (x, y) = ag (y, x % y)) :
    ∀ (k fuel x y : Nat), k < fuel → y ≤ x → x * y < 2 ^ k → iterP F fuel ((x : Int), (y : Int)) = some ((Nat.gcd x y : Nat) : Int)
  | _, 0, x, y, h, _, _ => by omega
  | k, fuel + 1, x, 0, h, hy, hk => by simp only [iterP]; rw [show ((0 : Nat) : Int) = 0 from rfl, h0, Nat.gcd_zero_right]
  | 0, fuel + 1, x, y + 1, h, hy, hk => by
    exfalso
    have h2 : 1 * 1 ≤ x * (y + 1) := Nat.mul_le_mul (by omega) (by omega)
    simp at hk; omega
  | k + 1, fuel + 1, x, y + 1, h, hy, hk => by
    simp only [iterP]
    rw [h1 _ _ _ (by omega) (by omega)]
    have e1 : ((x : Int) % ((y + 1 : Nat) : Int)) = ((x % (y + 1) : Nat) : Int) := by push_cast; rfl
    rw [e1]
    have hm : x % (y + 1) < y + 1 := Nat.mod_lt _ (by omega)
    have hhalf : 2 * (x % (y + 1)) ≤ x := by
      have h2 := Nat.div_add_mod x (y + 1)
      have h3 : 1 ≤ x / (y + 1) := (Nat.one_le_div_iff (by omega)).2 hy
      have h4 : (y + 1) * 1 ≤ (y + 1) * (x / (y + 1)) := Nat.mul_le_mul_left _ h3
      omega
    have hlt : (y + 1) * (x % (y + 1)) < 2 ^ k := by
      have h5 : (y + 1) * (2 * (x % (y + 1))) ≤ (y + 1) * x := Nat.mul_le_mul_left _ hhalf
      have h6 : (y + 1) * (2 * (x % (y + 1))) = 2 * ((y + 1) * (x % (y + 1))) := by rw [Nat.mul_left_comm]
      rw [Nat.pow_succ, Nat.mul_comm x] at hk
      omega
    rw [gcd_loop h0 h1 k fuel (y + 1) (x % (y + 1)) (by omega) (by omega) hlt, Nat.gcd_comm, ← Nat.gcd_rec, Nat.gcd_comm]

theorem gcd_any {F : (Int × Int → Option Int) → Int × Int → Option Int} (h0 : ∀ ag x, F ag (x, 0) = some x) (h1 : ∀ ag x y, 0 ≤ x → 0 < y → F ag (x, y) = ag (y, x % y)) {x y : Int} (hx : 0 ≤ x) (hx2 : x ≤ 1000000000) (hy : 0 ≤ y) (hy2 : y ≤ 1000000000) :
    iterP F fuelN (x, y) = some ((Int.gcd x y : Nat) : Int) := by
  obtain ⟨x, rfl⟩ := Int.eq_ofNat_of_zero_le hx
  obtain ⟨y, rfl⟩ := Int.eq_ofNat_of_zero_le hy
  obtain ⟨n, hn, hn99⟩ := fuel_more
  rw [hn, Int.gcd_natCast_natCast]
  have hb : ∀ u v : Nat, u ≤ 1000000000 → v ≤ 1000000000 → u * v < 2 ^ 60 := fun u v hu hv =>
    Nat.lt_of_le_of_lt (Nat.mul_le_mul hu hv) (by decide)
  rcases Nat.le_total y x with h | h
  · exact gcd_loop h0 h1 60 (n + 1) x y (by omega) h (hb x y (by omega) (by omega))
  · rcases Nat.eq_zero_or_pos y with h3 | h3
    · have : x = 0 := by omega
      subst this; subst h3
      exact gcd_loop h0 h1 60 (n + 1) 0 0 (by omega) (by omega) (by decide)
    · have e := h1 (iterP F n) (x : Int) (y : Int) (by omega) (by omega)
      show F (iterP F n) _ = _
      rw [e]
      have e1 : ((x : Int) % (y : Int)) = ((x % y : Nat) : Int) := by push_cast; rfl
      rw [e1]
      have hm := Nat.mod_lt x h3
      have hl := Nat.mod_le x y
      rw [gcd_loop h0 h1 60 n y (x % y) (by omega) (by omega) (hb _ _ (by omega) (by omega)), Nat.gcd_comm, ← Nat.gcd_rec, Nat.gcd_comm]

theorem q_gcd {d : Nat} {x y : Int} (hx : 0 ≤ x) (hx2 : x ≤ 1000000000) (hy : 0 ≤ y) (hy2 : y ≤ 1000000000) : g291 (d + 1) x y = some ((Int.gcd x y : Nat) : Int) := by
  rw [e291]
  refine gcd_any (fun ag x => rfl) (fun ag x y h0 h1 => ?_) hx hx2 hy hy2
  simp only [l291_0, l291_0_b]
  rw [show (y != 0) = true by simp; omega, oif_t, show (y == 0) = false by simp; omega, oif_f, Int.tmod_eq_emod_of_nonneg h0]

theorem q_rdGcd {d : Nat} {x y : Int} (hx : 0 ≤ x) (hx2 : x ≤ 1000000000) (hy : 0 ≤ y) (hy2 : y ≤ 1000000000) : g292 (d + 1) x y = some ((Int.gcd x y : Nat) : Int) := by
  rw [e292]
  refine gcd_any (fun ag x => rfl) (fun ag x y h0 h1 => ?_) hx hx2 hy hy2
  simp only [l292_0, l292_0_b]
  rw [decide_eq_true (show y > 0 by omega), oif_t, show (y == 0) = false by simp; omega, oif_f, Int.tmod_eq_emod_of_nonneg h0]

def chA (e : Int × Int × Int × Int) (a : Int) : Int := e.2.2.2 * (a - 256 * e.1)

def chB (e : Int × Int × Int × Int) (a s : Int) : Int := 256000 * (e.2.1 - e.1) - s * chA e a

def chV (e : Int × Int × Int × Int) (a s : Int) : Int × Int :=
  if a < 256 * e.1 then (0, 1) else if a ≥ 256 * e.2.1 then (1, 1) else if chA e a ≥ chB e a s then (1, 1) else
    (chA e a / ((Int.gcd (chA e a) (chB e a s) : Nat) : Int), chB e a s / ((Int.gcd (chA e a) (chB e a s) : Nat) : Int))

def siOk (s : Int) : Bool := decide (0 ≤ s ∧ s ≤ 1000)

theorem chA_in {e : Int × Int × Int × Int} {a : Int} (he : elOk e = true) (h1 : 256 * e.1 ≤ a) (h2 : a < 256 * e.2.1) : 0 ≤ chA e a ∧ chA e a ≤ 15360000 := by
  simp only [elOk, decide_eq_true_eq] at he
  unfold chA
  have k1 : 0 ≤ e.2.2.2 * (a - 256 * e.1) := Int.mul_nonneg (by omega) (by omega)
  have k2 : e.2.2.2 * (a - 256 * e.1) ≤ 1000 * (a - 256 * e.1) := Int.mul_le_mul_of_nonneg_right (by omega) (by omega)
  omega

theorem chB_in {e : Int × Int × Int × Int} {a s : Int} (he : elOk e = true) (h1 : 256 * e.1 ≤ a) (h2 : a < 256 * e.2.1) (hs : siOk s = true) : 0 ≤ s * chA e a ∧ s * chA e a ≤ 15360000000 ∧ chB e a s ≤ 15360000 := by
  obtain ⟨a1, a2⟩ := chA_in he h1 h2
  simp only [elOk, decide_eq_true_eq] at he
  simp only [siOk, decide_eq_true_eq] at hs
  have k1 : 0 ≤ s * chA e a := Int.mul_nonneg (by omega) (by omega)
  have k2 : s * chA e a ≤ 1000 * chA e a := Int.mul_le_mul_of_nonneg_right (by omega) (by omega)
  unfold chB; omega

theorem gcd_div {A B : Int} (hA : 0 ≤ A) (hB : 0 < B) : 1 ≤ ((Int.gcd A B : Nat) : Int) ∧ ((Int.gcd A B : Nat) : Int) * (A / ((Int.gcd A B : Nat) : Int)) = A ∧ ((Int.gcd A B : Nat) : Int) * (B / ((Int.gcd A B : Nat) : Int)) = B ∧ 0 ≤ A / ((Int.gcd A B : Nat) : Int) ∧ 1 ≤ B / ((Int.gcd A B : Nat) : Int) ∧ A / ((Int.gcd A B : Nat) : Int) ≤ A ∧ B / ((Int.gcd A B : Nat) : Int) ≤ B := by
  have hg : 0 < Int.gcd A B := Int.gcd_pos_of_ne_zero_right _ (by omega)
  have g1 : (1 : Int) ≤ ((Int.gcd A B : Nat) : Int) := by omega
  have e1 : ((Int.gcd A B : Nat) : Int) * (A / ((Int.gcd A B : Nat) : Int)) = A := Int.mul_ediv_cancel' (Int.gcd_dvd_left ..)
  have e2 : ((Int.gcd A B : Nat) : Int) * (B / ((Int.gcd A B : Nat) : Int)) = B := Int.mul_ediv_cancel' (Int.gcd_dvd_right ..)
  clear hg
  generalize ((Int.gcd A B : Nat) : Int) = g at *
  have p1 : 0 ≤ A / g := Int.ediv_nonneg hA (by omega)
  have p2 : 0 ≤ B / g := Int.ediv_nonneg (by omega) (by omega)
  have p3 : B / g ≠ 0 := fun h => by rw [h] at e2; simp at e2; omega
  exact ⟨g1, e1, e2, p1, by omega, Int.ediv_le_self _ hA, Int.ediv_le_self _ (by omega)⟩

theorem q_dropChance {d : Nat} {e : Int × Int × Int × Int} {a s : Int} (he : elOk e = true) (ha : avOk a = true) (hs : siOk s = true) : g197 (d + 2) e a s = some (chV e a s) := by
  have he' := he; have hs' := hs; have ha' := ha
  simp only [elOk, avOk, siOk, decide_eq_true_eq] at he' ha' hs'
  rw [e197, wr (n := 256 * e.1) (by omega) (by omega), wr (n := 256 * e.2.1) (by omega) (by omega), wr (n := a - 256 * e.1) (by omega) (by omega), wr (n := e.2.1 - e.1) (by omega) (by omega), wr (n := 256000 * (e.2.1 - e.1)) (by omega) (by omega)]
  unfold chV
  by_cases h1 : a < 256 * e.1
  · rw [decide_eq_true h1, oif_t, if_pos h1]
  rw [decide_eq_false h1, oif_f, if_neg h1]
  by_cases h2 : a ≥ 256 * e.2.1
  · rw [decide_eq_true h2, oif_t, if_pos h2]
  rw [decide_eq_false h2, oif_f, if_neg h2]
  obtain ⟨a1, a2⟩ := chA_in (a := a) he (by omega) (by omega)
  obtain ⟨b1, b2, b3⟩ := chB_in (a := a) he (by omega) (by omega) hs
  have eA : e.2.2.2 * (a - 256 * e.1) = chA e a := rfl
  rw [eA, wr (n := chA e a) (by omega) (by omega), wr (n := s * chA e a) (by omega) (by omega)]
  have eB : 256000 * (e.2.1 - e.1) - s * chA e a = chB e a s := rfl
  have b4 : -15360000000 ≤ chB e a s := by unfold chB; omega
  rw [eB, wr (n := chB e a s) (by omega) (by omega)]
  by_cases h3 : chA e a ≥ chB e a s
  · rw [decide_eq_true h3, oif_t, if_pos h3]
  rw [decide_eq_false h3, oif_f, if_neg h3, q_gcd a1 (by omega) (by omega) (by omega), ob_s]
  obtain ⟨c1, c2, c3, c4, c5, c6, c7⟩ := gcd_div a1 (show 0 < chB e a s by omega)
  rw [show ((((Int.gcd (chA e a) (chB e a s) : Nat) : Int)) == 0) = false by simp; omega, oif_f, oif_f, Int.tdiv_eq_ediv_of_nonneg a1, Int.tdiv_eq_ediv_of_nonneg (show 0 ≤ chB e a s by omega), wr (by omega) (by omega), wr (by omega) (by omega)]

theorem q_rdChance {d : Nat} {e : Int × Int × Int × Int} {a s : Int} (he : elOk e = true) (ha : avOk a = true) (hs : siOk s = true) : g201 (d + 2) e a s = some (chV e a s) := by
  have he' := he; have hs' := hs; have ha' := ha
  simp only [elOk, avOk, siOk, decide_eq_true_eq] at he' ha' hs'
  rw [e201]; unfold j201_0
  rw [wr (n := 256 * e.1) (by omega) (by omega), wr (n := 256 * e.2.1) (by omega) (by omega), wr (n := a - 256 * e.1) (by omega) (by omega), wr (n := e.2.1 - e.1) (by omega) (by omega), wr (n := 256000 * (e.2.1 - e.1)) (by omega) (by omega)]
  unfold chV
  by_cases h1 : a < 256 * e.1
  · rw [decide_eq_true h1, oif_t, if_pos h1]
  rw [decide_eq_false h1, oif_f, if_neg h1]
  by_cases h2 : a ≥ 256 * e.2.1
  · rw [decide_eq_true h2, oif_t, if_pos h2]
  rw [decide_eq_false h2, oif_f, if_neg h2]
  obtain ⟨a1, a2⟩ := chA_in (a := a) he (by omega) (by omega)
  obtain ⟨b1, b2, b3⟩ := chB_in (a := a) he (by omega) (by omega) hs
  have eA : e.2.2.2 * (a - 256 * e.1) = chA e a := rfl
  rw [eA, wr (n := chA e a) (by omega) (by omega), wr (n := s * chA e a) (by omega) (by omega)]
  have eB : 256000 * (e.2.1 - e.1) - s * chA e a = chB e a s := rfl
  have b4 : -15360000000 ≤ chB e a s := by unfold chB; omega
  rw [eB, wr (n := chB e a s) (by omega) (by omega)]
  by_cases h4 : chB e a s ≤ 0
  · rw [decide_eq_true h4, oif_t, oif_t, if_pos (by omega)]
  rw [decide_eq_false h4, oif_f]
  by_cases h5 : chA e a > chB e a s
  · rw [decide_eq_true h5, oif_t, if_pos (by omega)]
  rw [decide_eq_false h5, oif_f, q_rdGcd (by omega) (by omega) a1 (by omega), ob_s, Int.gcd_comm]
  obtain ⟨c1, c2, c3, c4, c5, c6, c7⟩ := gcd_div a1 (show 0 < chB e a s by omega)
  rw [show ((((Int.gcd (chA e a) (chB e a s) : Nat) : Int)) == 0) = false by simp; omega, oif_f, oif_f, Int.tdiv_eq_ediv_of_nonneg a1, Int.tdiv_eq_ediv_of_nonneg (show 0 ≤ chB e a s by omega), wr (by omega) (by omega), wr (by omega) (by omega)]
  by_cases h6 : chA e a ≥ chB e a s
  · have h7 : chA e a = chB e a s := by omega
    rw [if_pos h6, ← h7]
    have : ((Int.gcd (chA e a) (chA e a) : Nat) : Int) = chA e a := by rw [Int.gcd_self]; omega
    rw [this, Int.ediv_self (by omega)]
  · rw [if_neg h6]

theorem chV_in {e : Int × Int × Int × Int} {a s : Int} (he : elOk e = true) (hs : siOk s = true) : 1 ≤ (chV e a s).2 ∧ 0 ≤ (chV e a s).1 ∧ (chV e a s).1 ≤ (chV e a s).2 ∧ (chV e a s).2 ≤ 15360000 := by
  unfold chV
  by_cases h1 : a < 256 * e.1
  · rw [if_pos h1]; simp
  rw [if_neg h1]
  by_cases h2 : a ≥ 256 * e.2.1
  · rw [if_pos h2]; simp
  rw [if_neg h2]
  by_cases h3 : chA e a ≥ chB e a s
  · rw [if_pos h3]; simp
  rw [if_neg h3]
  obtain ⟨a1, a2⟩ := chA_in (a := a) he (by omega) (by omega)
  obtain ⟨b1, b2, b3⟩ := chB_in (a := a) he (by omega) (by omega) hs
  obtain ⟨c1, c2, c3, c4, c5, c6, c7⟩ := gcd_div a1 (show 0 < chB e a s by omega)
  refine ⟨c5, c4, ?_, by simp only; omega⟩
  exact Int.ediv_le_ediv (by omega) (by omega)

/-- Chances grow with the average. -/
theorem chV_mono {e : Int × Int × Int × Int} {a s : Int} (he : elOk e = true) (hs : siOk s = true) : (chV e a s).1 * (chV e (a + 1) s).2 ≤ (chV e (a + 1) s).1 * (chV e a s).2 := by
  obtain ⟨d1, d2, d3, d4⟩ := chV_in (a := a) he hs
  obtain ⟨f1, f2, f3, f4⟩ := chV_in (a := a + 1) he hs
  have he' := he; have hs' := hs
  simp only [elOk, siOk, decide_eq_true_eq] at he' hs'
  have one : chV e (a + 1) s = (1, 1) → (chV e a s).1 * (chV e (a + 1) s).2 ≤ (chV e (a + 1) s).1 * (chV e a s).2 := fun h => by rw [h]; simp only; omega
  by_cases h1 : a < 256 * e.1
  · have : chV e a s = (0, 1) := by unfold chV; rw [if_pos h1]
    rw [this]; simp only; omega
  by_cases h2 : a + 1 ≥ 256 * e.2.1
  · refine one ?_
    unfold chV; rw [if_neg (by omega), if_pos h2]
  obtain ⟨a1, a2⟩ := chA_in (a := a) he (by omega) (by omega)
  obtain ⟨b1, b2, b3⟩ := chB_in (a := a) he (by omega) (by omega) hs
  obtain ⟨a3, a4⟩ := chA_in (a := a + 1) he (by omega) (by omega)
  obtain ⟨b5, b6, b7⟩ := chB_in (a := a + 1) he (by omega) (by omega) hs
  have eA : chA e (a + 1) = chA e a + e.2.2.2 := by
    unfold chA; rw [show a + 1 - 256 * e.1 = (a - 256 * e.1) + 1 by omega, Int.mul_add, Int.mul_one]
  have eB : chB e (a + 1) s = chB e a s - s * e.2.2.2 := by
    unfold chB; rw [eA, Int.mul_add]; omega
  have k0 : 0 ≤ s * e.2.2.2 := Int.mul_nonneg (by omega) (by omega)
  by_cases h4 : chA e (a + 1) ≥ chB e (a + 1) s
  · refine one ?_
    unfold chV; rw [if_neg (by omega), if_neg (by omega), if_pos h4]
  have h3 : ¬ chA e a ≥ chB e a s := by omega
  have v1 : chV e a s = (chA e a / ((Int.gcd (chA e a) (chB e a s) : Nat) : Int), chB e a s / ((Int.gcd (chA e a) (chB e a s) : Nat) : Int)) := by
    unfold chV; rw [if_neg h1, if_neg (by omega), if_neg h3]
  have v2 : chV e (a + 1) s = (chA e (a + 1) / ((Int.gcd (chA e (a + 1)) (chB e (a + 1) s) : Nat) : Int), chB e (a + 1) s / ((Int.gcd (chA e (a + 1)) (chB e (a + 1) s) : Nat) : Int)) := by
    unfold chV; rw [if_neg (by omega), if_neg (by omega), if_neg h4]
  obtain ⟨c1, c2, c3, c4, c5, c6, c7⟩ := gcd_div a1 (show 0 < chB e a s by omega)
  obtain ⟨u1, u2, u3, u4, u5, u6, u7⟩ := gcd_div a3 (show 0 < chB e (a + 1) s by omega)
  have cross : chA e a * chB e (a + 1) s ≤ chA e (a + 1) * chB e a s := by
    have k1 : chA e a * chB e (a + 1) s ≤ chA e a * chB e a s := Int.mul_le_mul_of_nonneg_left (by omega) a1
    have k2 : chA e a * chB e a s ≤ chA e (a + 1) * chB e a s := Int.mul_le_mul_of_nonneg_right (by omega) (by omega)
    omega
  rw [v1, v2]
  simp only
  generalize ((Int.gcd (chA e a) (chB e a s) : Nat) : Int) = g at *
  generalize ((Int.gcd (chA e (a + 1)) (chB e (a + 1) s) : Nat) : Int) = g' at *
  generalize chA e a / g = x at *
  generalize chB e a s / g = y at *
  generalize chA e (a + 1) / g' = x' at *
  generalize chB e (a + 1) s / g' = y' at *
  rw [← c2, ← c3, ← u2, ← u3] at cross
  have e1 : g * x * (g' * y') = (g * g') * (x * y') := by rw [Int.mul_assoc, Int.mul_assoc]; congr 1; rw [Int.mul_left_comm]
  have e2 : g' * x' * (g * y) = (g * g') * (x' * y) := by rw [Int.mul_assoc, Int.mul_comm g g', Int.mul_assoc]; congr 1; rw [Int.mul_left_comm]
  rw [e1, e2] at cross
  exact Int.le_of_mul_le_mul_left cross (Int.mul_pos (by omega) (by omega))

def dcV (e : Int × Int × Int × Int) (a s : Int) : Int × Int × Bool := if elOk e && (avOk a && siOk s) then ((chV e a s).1, (chV e a s).2, true) else (0, 0, false)

theorem q_isSince {d : Nat} {s : Int} : g196 (d + 1) s = some (siOk s) := by
  rw [e196]; simp only [oif_ss]; congr 1; rw [Bool.eq_iff_iff]; simp [siOk]

theorem q_rdSince {d : Nat} {s : Int} : g200 (d + 2) s = some (siOk s) := by
  rw [e200, q_l1In, ob_s]; rfl

theorem q_DropChance {d : Nat} {e : Int × Int × Int × Int} {a s : Int} : g52 (d + 3) e a s = some (dcV e a s) := by
  rw [e52, q_IsEarly, ob_s, q_isAverage, ob_s, q_isSince, ob_s]; unfold dcV
  cases he : elOk e <;> cases ha : avOk a <;> cases hs : siOk s <;> first | (rw [q_dropChance he ha hs]; rfl) | rfl

theorem q_sDropChance {d : Nat} {e : Int × Int × Int × Int} {a s : Int} : g53 (d + 3) e a s = some (dcV e a s) := by
  rw [e53, q_rdGood, ob_s, q_rdAverage, ob_s, q_rdSince, ob_s]; unfold dcV
  cases he : elOk e <;> cases ha : avOk a <;> cases hs : siOk s <;> first | (rw [q_rdChance he ha hs]; rfl) | rfl

def kd0 (a n : Int) : Int := (25 * a + n + 1) % 1000003

def kd1 (a n : Int) : Int := (kd0 a n * (kd0 a n / 16 + 3)) % 1000003

def kdV (k i : Int) : Int := kd1 (kd1 (kd1 7919 k) i) 20

theorem kd1_in (a n : Int) : 0 ≤ kd1 a n ∧ kd1 a n < 1000003 := ⟨Int.emod_nonneg _ (by omega), Int.emod_lt_of_pos _ (by omega)⟩

theorem kd1_raw {a n : Int} (h0 : 0 ≤ a) (h1 : a < 1000003) (h2 : 0 ≤ n) (h3 : n ≤ 1000000000) : (IntKind.i64.wrap (((IntKind.i64.wrap ((IntKind.i64.wrap ((IntKind.i64.wrap ((25 : Int) * a)) + n)) + 1)).tmod 1000003) * (IntKind.i64.wrap ((IntKind.i64.wrap (((IntKind.i64.wrap ((IntKind.i64.wrap ((IntKind.i64.wrap ((25 : Int) * a)) + n)) + 1)).tmod 1000003).tdiv 16)) + 3)))).tmod 1000003 = kd1 a n := by
  rw [wr (n := 25 * a) (by omega) (by omega), wr (n := 25 * a + n) (by omega) (by omega), wr (n := 25 * a + n + 1) (by omega) (by omega), Int.tmod_eq_emod_of_nonneg (a := 25 * a + n + 1) (by omega)]
  have eb : (25 * a + n + 1) % 1000003 = kd0 a n := rfl
  have b1 : 0 ≤ kd0 a n := Int.emod_nonneg _ (by omega)
  have b2 : kd0 a n < 1000003 := Int.emod_lt_of_pos _ (by omega)
  rw [eb, Int.tdiv_eq_ediv_of_nonneg b1, wr (n := kd0 a n / 16) (by omega) (by omega), wr (n := kd0 a n / 16 + 3) (by omega) (by omega)]
  have k1 : 0 ≤ kd0 a n * (kd0 a n / 16 + 3) := Int.mul_nonneg b1 (by omega)
  have k2 : kd0 a n * (kd0 a n / 16 + 3) ≤ 1000003 * (kd0 a n / 16 + 3) := Int.mul_le_mul_of_nonneg_right (by omega) (by omega)
  rw [wr (n := kd0 a n * (kd0 a n / 16 + 3)) (by omega) (by omega), Int.tmod_eq_emod_of_nonneg k1]; rfl

theorem q_keyedNumber {d : Nat} {k i : Int} (h0 : 0 ≤ k) (h1 : k ≤ 1000000000) (h2 : 0 ≤ i) (h3 : i ≤ 1000) : g214 (d + 1) k i = some (kdV k i) := by
  rw [e214]
  refine (range_eq (fun (t : Int) (i : Int) => (t, i)) [k, i, 20] (fun x _ t kk => kk ((IntKind.i64.wrap (((IntKind.i64.wrap ((IntKind.i64.wrap ((IntKind.i64.wrap ((25 : Int) * t)) + x)) + 1)).tmod 1000003) * (IntKind.i64.wrap ((IntKind.i64.wrap (((IntKind.i64.wrap ((IntKind.i64.wrap ((IntKind.i64.wrap ((25 : Int) * t)) + x)) + 1)).tmod 1000003).tdiv 16)) + 3)))).tmod 1000003)) (j214_0 d) ?_ ?_ (by rw [fuelN_eq]; simp) 7919).trans ?_
  · intro ag t j y hy
    have hi : j < 3 := by have := (List.getElem?_eq_some_iff.1 hy).1; simpa using this
    have h4 : decide ((j : Int) < 3) = true := by simp; omega
    simp only [l214_0, l214_0_b, h4, nn, ofNat_toNat, oif_t]
    rw [hy, ob_s, wr1 (by omega)]
  · intro ag t; rfl
  · simp only [rangeR]
    rw [kd1_raw (a := 7919) (n := k) (by omega) (by omega) h0 h1]
    have a1 := kd1_in 7919 k
    rw [kd1_raw (n := i) a1.1 a1.2 h2 (by omega)]
    have a2 := kd1_in (kd1 7919 k) i
    rw [kd1_raw (n := 20) a2.1 a2.2 (by omega) (by omega)]; rfl

theorem q_rdKeyed {d : Nat} {k i : Int} (h0 : 0 ≤ k) (h1 : k ≤ 1000000000) (h2 : 0 ≤ i) (h3 : i ≤ 1000) : g215 (d + 1) k i = some (kdV k i) := by
  rw [e215]
  refine (range_eq (fun (t : Int) (i : Int) => (t, i)) [k, i, 20] (fun x _ t kk => kk ((IntKind.i64.wrap (((IntKind.i64.wrap ((IntKind.i64.wrap ((IntKind.i64.wrap ((25 : Int) * t)) + x)) + 1)).tmod 1000003) * (IntKind.i64.wrap ((IntKind.i64.wrap (((IntKind.i64.wrap ((IntKind.i64.wrap ((IntKind.i64.wrap ((25 : Int) * t)) + x)) + 1)).tmod 1000003).tdiv 16)) + 3)))).tmod 1000003)) (j215_0 d) ?_ ?_ (by rw [fuelN_eq]; simp) 7919).trans ?_
  · intro ag t j y hy
    have hi : j < 3 := by have := (List.getElem?_eq_some_iff.1 hy).1; simpa using this
    simp only [l215_0, l215_0_b, ltl hy, bltl hy, nn, ofNat_toNat, oif_t]
    rw [hy, ob_s, wr1 (by omega)]
  · intro ag t; rfl
  · simp only [rangeR]
    rw [kd1_raw (a := 7919) (n := k) (by omega) (by omega) h0 h1]
    have a1 := kd1_in 7919 k
    rw [kd1_raw (n := i) a1.1 a1.2 h2 (by omega)]
    have a2 := kd1_in (kd1 7919 k) i
    rw [kd1_raw (n := 20) a2.1 a2.2 (by omega) (by omega)]; rfl

def keOk (k i : Int) : Bool := decide (0 ≤ k ∧ k ≤ 1000000000 ∧ 0 ≤ i ∧ i ≤ 1000)

def knV (k i : Int) : Int × Bool := if keOk k i then (kdV k i, true) else (0, false)

theorem q_isKey20 {d : Nat} {k : Int} : g204 (d + 1) k = some (decide (0 ≤ k ∧ k ≤ 1000000000)) := by
  rw [e204]; simp only [oif_ss]; congr 1; rw [Bool.eq_iff_iff]; simp

theorem q_rdKey {d : Nat} {k i : Int} : g208 (d + 2) k i = some (keOk k i) := by
  rw [e208, q_l1In, ob_s, q_l1In, ob_s, oif_ss]; congr 1; rw [Bool.eq_iff_iff]; simp [keOk]; omega

theorem q_KeyedNumber {d : Nat} {k i : Int} : g66 (d + 2) k i = some (knV k i) := by
  rw [e66, q_isKey20, ob_s]; unfold knV
  by_cases h1 : 0 ≤ k ∧ k ≤ 1000000000
  · rw [decide_eq_true h1]
    by_cases h2 : i < 0
    · have : keOk k i = false := by simp only [keOk, decide_eq_false_iff_not]; omega
      rw [decide_eq_true h2, this]; rfl
    · by_cases h3 : i > 1000
      · have : keOk k i = false := by simp only [keOk, decide_eq_false_iff_not]; omega
        rw [decide_eq_false h2, decide_eq_true h3, this]; rfl
      · have : keOk k i = true := by simp only [keOk, decide_eq_true_eq]; omega
        rw [decide_eq_false h2, decide_eq_false h3, q_keyedNumber h1.1 h1.2 (by omega) (by omega), this]; rfl
  · have : keOk k i = false := by simp only [keOk, decide_eq_false_iff_not]; omega
    rw [decide_eq_false h1, this]; rfl

theorem q_sKeyedNumber {d : Nat} {k i : Int} : g67 (d + 3) k i = some (knV k i) := by
  rw [e67, q_rdKey, ob_s]; unfold knV
  cases h : keOk k i with
  | false => rfl
  | true =>
    have h' := h
    simp only [keOk, decide_eq_true_eq] at h'
    rw [q_rdKeyed h'.1 h'.2.1 h'.2.2.1 h'.2.2.2]; rfl

def deV (e : Int × Int × Int × Int) (a s k i : Int) : Int := if a ≥ 256 * e.2.1 then 2 else if kdV k i * (chV e a s).2 < 1000003 * (chV e a s).1 then 1 else 0

theorem deV_in {e : Int × Int × Int × Int} {a s k i : Int} : deV e a s k i = 0 ∨ deV e a s k i = 1 ∨ deV e a s k i = 2 := by
  unfold deV; split
  · simp
  · split <;> simp

theorem kd_bound {e : Int × Int × Int × Int} {a s k i : Int} (he : elOk e = true) (hs : siOk s = true) : 0 ≤ kdV k i * (chV e a s).2 ∧ kdV k i * (chV e a s).2 ≤ 15360046080000 := by
  obtain ⟨d1, d2, d3, d4⟩ := chV_in (a := a) he hs
  have a3 := kd1_in (kd1 (kd1 7919 k) i) 20
  have e1 : kd1 (kd1 (kd1 7919 k) i) 20 = kdV k i := rfl
  rw [e1] at a3
  have k1 : 0 ≤ kdV k i * (chV e a s).2 := Int.mul_nonneg a3.1 (by omega)
  have k2 : kdV k i * (chV e a s).2 ≤ 1000003 * (chV e a s).2 := Int.mul_le_mul_of_nonneg_right (by omega) (by omega)
  omega

theorem q_decideEarly {d : Nat} {e : Int × Int × Int × Int} {a s k i : Int} (he : elOk e = true) (ha : avOk a = true) (hs : siOk s = true) (hk : keOk k i = true) : g206 (d + 3) e a s k i = some (deV e a s k i) := by
  have he' := he
  simp only [elOk, keOk, decide_eq_true_eq] at he' hk
  obtain ⟨b1, b2⟩ := kd_bound (a := a) (k := k) (i := i) he hs
  obtain ⟨d1, d2, d3, d4⟩ := chV_in (a := a) he hs
  rw [e206, wr (n := 256 * e.2.1) (by omega) (by omega), q_dropChance he ha hs, ob_s, q_keyedNumber hk.1 hk.2.1 hk.2.2.1 hk.2.2.2, ob_s, wr (n := kdV k i * (chV e a s).2) (by omega) (by omega), wr (n := 1000003 * (chV e a s).1) (by omega) (by omega)]
  unfold deV; simp only [oif_ss, decide_eq_true_eq]

theorem q_rdDecide {d : Nat} {e : Int × Int × Int × Int} {a s k i : Int} (he : elOk e = true) (ha : avOk a = true) (hs : siOk s = true) (hk : keOk k i = true) : g210 (d + 3) e a s k i = some (deV e a s k i) := by
  have he' := he
  simp only [elOk, keOk, decide_eq_true_eq] at he' hk
  obtain ⟨b1, b2⟩ := kd_bound (a := a) (k := k) (i := i) he hs
  obtain ⟨d1, d2, d3, d4⟩ := chV_in (a := a) he hs
  rw [e210, wr (n := 256 * e.2.1) (by omega) (by omega), q_rdChance he ha hs, ob_s, q_rdKeyed hk.1 hk.2.1 hk.2.2.1 hk.2.2.2, ob_s, wr (n := kdV k i * (chV e a s).2) (by omega) (by omega), wr (n := 1000003 * (chV e a s).1) (by omega) (by omega)]
  unfold deV; simp only [oif_ss, decide_eq_true_eq]

def ddV (e : Int × Int × Int × Int) (a s k i : Int) : Int × Bool := if elOk e && (avOk a && (siOk s && keOk k i)) then (deV e a s k i, true) else (0, false)

theorem q_DecideEarly {d : Nat} {e : Int × Int × Int × Int} {a s k i : Int} : g59 (d + 4) e a s k i = some (ddV e a s k i) := by
  rw [e59, q_IsEarly, ob_s, q_isAverage, ob_s, q_isSince, ob_s, q_isKey20, ob_s]; unfold ddV j59_0
  cases he : elOk e with
  | false => rfl
  | true => cases ha : avOk a with
    | false => rfl
    | true => cases hs : siOk s with
      | false => rfl
      | true =>
        by_cases h1 : 0 ≤ k ∧ k ≤ 1000000000
        · rw [decide_eq_true h1]
          by_cases h2 : i < 0
          · have : keOk k i = false := by simp only [keOk, decide_eq_false_iff_not]; omega
            rw [decide_eq_true h2, this]; rfl
          · by_cases h3 : i > 1000
            · have : keOk k i = false := by simp only [keOk, decide_eq_false_iff_not]; omega
              rw [decide_eq_false h2, decide_eq_true h3, this]; rfl
            · have : keOk k i = true := by simp only [keOk, decide_eq_true_eq]; omega
              rw [decide_eq_false h2, decide_eq_false h3, q_decideEarly he ha hs this, this]; rfl
        · have : keOk k i = false := by simp only [keOk, decide_eq_false_iff_not]; omega
          rw [decide_eq_false h1, this]; rfl

theorem q_sDecideEarly {d : Nat} {e : Int × Int × Int × Int} {a s k i : Int} : g61 (d + 4) e a s k i = some (ddV e a s k i) := by
  rw [e61, q_rdGood, ob_s, q_rdAverage, ob_s, q_rdSince, ob_s, q_rdKey, ob_s]; unfold ddV j61_0
  cases he : elOk e <;> cases ha : avOk a <;> cases hs : siOk s <;> cases hk : keOk k i <;> first | (rw [q_rdDecide he ha hs hk]; rfl) | rfl

/-- The decisions of a run. -/
def runL (e : Int × Int × Int × Int) (k : Int) : Int → Int → Int → List Int → List Int
  | _, _, _, [] => []
  | a, s, i, n :: r => deV e (nx e a n) s k i :: runL e k (nx e a n) (if deV e (nx e a n) s k i = 0 then s + 1 else 0) (i + 1) r

theorem runL_len {e : Int × Int × Int × Int} {k : Int} : ∀ {l : List Int} {a s i : Int}, (runL e k a s i l).length = l.length
  | [], _, _, _ => rfl
  | n :: r, a, s, i => by simp [runL, runL_len]

theorem runL_in {e : Int × Int × Int × Int} {k : Int} : ∀ {l : List Int} {a s i : Int}, ∀ x ∈ runL e k a s i l, x = 0 ∨ x = 1 ∨ x = 2
  | [], _, _, _, x, h => by simp [runL] at h
  | n :: r, a, s, i, x, h => by
    simp only [runL, List.mem_cons] at h
    rcases h with rfl | h
    · exact deV_in
    · exact runL_in x h

theorem run_range {e : Int × Int × Int × Int} {k : Int} {c : Int → Bool} {G : Int → Int → Option Int} {D : Int → Int → Int → Option Int} {β : Type} {fin : Int × List Int × Int → Option β} (he : elOk e = true) (hk : keOk k 0 = true)
    (hG : ∀ a n, avOk a = true → lnOk n = true → G a n = some (nx e a n)) (hD : ∀ a s i, avOk a = true → siOk s = true → keOk k i = true → D a s i = some (deV e a s k i)) (hc : c 0 = false ∧ c 1 = true ∧ c 2 = true) :
    ∀ (l : List Int) (i : Nat) (t : Int × List Int × Int), avOk t.1 = true → 0 ≤ t.2.2 → t.2.2 ≤ i → (∀ x ∈ l, lnOk x = true) → t.2.1.length + l.length ≤ 100000 → i + l.length ≤ 900 →
    ∃ a' s', rangeR (fun x i t kk => obind (G t.1 x) fun r => obind (D r t.2.2 (i : Int)) fun q => oif (Nat.ble ((t.2.1.length + [q].length) * 8) roomMax) (oif (c q) (kk (r, t.2.1 ++ [q], 0)) (kk (r, t.2.1 ++ [q], IntKind.i64.wrap (t.2.2 + 1)))) none) fin l i t = fin (a', t.2.1 ++ runL e k t.1 t.2.2 (i : Int) l, s')
  | [], i, t, _, _, _, _, _, _ => ⟨t.1, t.2.2, by simp [rangeR, runL]⟩
  | x :: r, i, t, ha, h0, h1, hl, hs, hi => by
    have hx := hl x (by simp)
    obtain ⟨g1, g2, _⟩ := nx_in he ha hx
    have ha2 : avOk (nx e t.1 x) = true := by simp [avOk, g1, g2]
    simp only [List.length_cons] at hs hi
    have hsi : siOk t.2.2 = true := by simp only [siOk, decide_eq_true_eq]; omega
    have hki : keOk k (i : Int) = true := by simp only [keOk, decide_eq_true_eq] at hk ⊢; omega
    have hcd : c (deV e (nx e t.1 x) t.2.2 k i) = !(decide (deV e (nx e t.1 x) t.2.2 k i = 0)) := by
      rcases deV_in (e := e) (a := nx e t.1 x) (s := t.2.2) (k := k) (i := i) with h | h | h <;> rw [h] <;> simp [hc]
    obtain ⟨a', s', ih⟩ := run_range (fin := fin) he hk hG hD hc r (i + 1) (nx e t.1 x, t.2.1 ++ [deV e (nx e t.1 x) t.2.2 k i], if deV e (nx e t.1 x) t.2.2 k i = 0 then t.2.2 + 1 else 0) ha2 (by simp only; split <;> omega) (by simp only; split <;> omega) (fun y hy => hl y (by simp [hy])) (by simp; omega) (by omega)
    refine ⟨a', s', ?_⟩
    simp only [rangeR, hG _ _ ha hx, ob_s, hD _ _ _ ha2 hsi hki]
    rw [room (by simp; omega), oif_t, hcd, wr (n := t.2.2 + 1) (by omega) (by omega)]
    have e2 : ((i + 1 : Nat) : Int) = (i : Int) + 1 := by omega
    rw [e2] at ih
    simp only [runL]
    by_cases h : deV e (nx e t.1 x) t.2.2 k i = 0
    · simp only [h, decide_true, Bool.not_true, oif_f, if_true] at ih ⊢
      rw [ih]; simp
    · simp only [h, decide_false, Bool.not_false, oif_t, if_false] at ih ⊢
      rw [ih]; simp

theorem oif_swap {α : Type} {b c : Bool} {x y : Option α} : oif c (oif b x none) (oif b y none) = oif b (oif c x y) none := by cases b <;> cases c <;> rfl

def reV (e : Int × Int × Int × Int) (a : Int) (l : List Int) (k : Int) : List Int × Bool := if elOk e && (avOk a && (lnsOk l && keOk k 0)) then (runL e k a 0 0 l, true) else ([], false)

theorem q_RunEarly {d : Nat} {e : Int × Int × Int × Int} {a : Int} {l : List Int} {k : Int} (hl : l.length < 4194304) : g55 (d + 4) e a l k = some (reV e a l k) := by
  have hke : decide (0 ≤ k ∧ k ≤ 1000000000) = keOk k 0 := by rw [Bool.eq_iff_iff]; simp [keOk]
  rw [e55, q_IsEarly, ob_s, q_isAverage, ob_s, q_areLengths hl, ob_s, q_isKey20, ob_s, hke]; unfold reV j55_1
  cases he : elOk e with
  | false => rfl
  | true => cases ha : avOk a with
    | false => rfl
    | true => cases hn : lnsOk l with
      | false => rfl
      | true => cases hk : keOk k 0 with
        | false => rfl
        | true =>
          simp only [lnsOk, Bool.and_eq_true, List.all_eq_true, decide_eq_true_eq] at hn
          simp only [Bool.not_true, oif_f, Bool.and_self, if_true]
          refine (range_eq (fun (t : Int × List Int × Int) (i : Int) => (t.1, t.2.1, t.2.2, i)) l (fun x i t kk => obind (g205 (d + 3) e t.1 x) fun r => obind (g206 (d + 3) e r t.2.2 k (i : Int)) fun q => oif (Nat.ble ((t.2.1.length + [q].length) * 8) roomMax) (oif (q != 0) (kk (r, t.2.1 ++ [q], 0)) (kk (r, t.2.1 ++ [q], IntKind.i64.wrap (t.2.2 + 1)))) none) (fun t => j55_0 (d + 3) t.2.1) ?_ ?_ (by rw [fuelN_eq]; exact hl) (a, [], 0)).trans ?_
          · intro ag t i x hx; have hi := (List.getElem?_eq_some_iff.1 hx).1; simp only [l55_0, l55_0_b, ltl hx, bltl hx, nn, ofNat_toNat, hx, ob_s, oif_t]; rw [wr1 (by omega)]
          · intro ag t; simp only [l55_0, l55_0_b, ltn, oif_f]
          · obtain ⟨a', s', h⟩ := run_range (c := fun q => q != 0) (G := fun a n => g205 (d + 3) e a n) (D := fun a s i => g206 (d + 3) e a s k i) (fin := fun t => j55_0 (d + 3) t.2.1) he hk (fun a n ha hn => q_nextAverage he ha hn) (fun a s i ha hs hi => q_decideEarly he ha hs hi) (by simp) l 0 (a, [], 0) ha (by simp) (by simp) hn.1 (by simp; omega) (by omega)
            refine h.trans ?_
            simp [j55_0]

theorem q_sRunEarly {d : Nat} {e : Int × Int × Int × Int} {a : Int} {l : List Int} {k : Int} (hl : l.length < 4194304) : g56 (d + 4) e a l k = some (reV e a l k) := by
  rw [e56, q_rdGood, ob_s, q_rdAverage, ob_s, q_rdLengths hl, ob_s, q_rdKey, ob_s]; unfold reV j56_1
  cases he : elOk e with
  | false => rfl
  | true => cases ha : avOk a with
    | false => rfl
    | true => cases hn : lnsOk l with
      | false => rfl
      | true => cases hk : keOk k 0 with
        | false => rfl
        | true =>
          simp only [lnsOk, Bool.and_eq_true, List.all_eq_true, decide_eq_true_eq] at hn
          simp only [Bool.not_true, oif_f, Bool.and_self, if_true]
          refine (range_eq (fun (t : Int × List Int × Int) (i : Int) => (t.1, t.2.1, t.2.2, i)) l (fun x i t kk => obind (g209 (d + 3) e t.1 x) fun r => obind (g210 (d + 3) e r t.2.2 k (i : Int)) fun q => oif (Nat.ble ((t.2.1.length + [q].length) * 8) roomMax) (oif (decide (q > 0)) (kk (r, t.2.1 ++ [q], 0)) (kk (r, t.2.1 ++ [q], IntKind.i64.wrap (t.2.2 + 1)))) none) (fun t => j56_0 (d + 3) t.2.1) ?_ ?_ (by rw [fuelN_eq]; exact hl) (a, [], 0)).trans ?_
          · intro ag t i x hx; have hi := (List.getElem?_eq_some_iff.1 hx).1; simp only [l56_0, l56_0_b, ltl hx, bltl hx, nn, ofNat_toNat, hx, ob_s, oif_t]; rw [wr1 (by omega)]
            simp only [oif_swap]
          · intro ag t; simp only [l56_0, l56_0_b, ltn, oif_f]
          · obtain ⟨a', s', h⟩ := run_range (c := fun q => decide (q > 0)) (G := fun a n => g209 (d + 3) e a n) (D := fun a s i => g210 (d + 3) e a s k i) (fin := fun t => j56_0 (d + 3) t.2.1) he hk (fun a n ha hn => q_rdNext he ha hn) (fun a s i ha hs hi => q_rdDecide he ha hs hi) (by simp) l 0 (a, [], 0) ha (by simp) (by simp) hn.1 (by simp; omega) (by omega)
            refine h.trans ?_
            simp [j56_0]

/-- How many of a kind. -/
def cnt (v : Int) (l : List Int) : Int := ((l.filter fun x => decide (x = v)).length : Nat)

theorem cnt_cons (v x : Int) (l : List Int) : cnt v (x :: l) = (if x = v then 1 else 0) + cnt v l := by
  unfold cnt; by_cases h : x = v <;> simp [h]; omega

theorem cnt_snoc (v x : Int) (l : List Int) : cnt v (l ++ [x]) = cnt v l + (if x = v then 1 else 0) := by
  unfold cnt; by_cases h : x = v <;> simp [h]

theorem cnt_le (v : Int) (l : List Int) : 0 ≤ cnt v l ∧ cnt v l ≤ (l.length : Int) := by
  unfold cnt; have := List.length_filter_le (fun x => decide (x = v)) l; omega

theorem q_DropsOf {d : Nat} {l : List Int} (hl : l.length ≤ 60) (hx : ∀ x ∈ l, x = 0 ∨ x = 1 ∨ x = 2) : g58 (d + 1) l = some (cnt 1 l, cnt 2 l, true) := by
  rw [e58, decide_eq_false (show ¬ ((l.length : Nat) : Int) > 60 by omega), oif_f]
  have key : ∀ (r : List Int) (fuel i : Nat) (a b c : Int), l.drop i = r → r.length < fuel → 0 ≤ a → a ≤ i → 0 ≤ b → b ≤ i → 0 ≤ c → c ≤ i →
      iterP (l58_0 d l (j58_0 d)) fuel (0, 0, false, (i : Int), (a, b, c)) = some (b + cnt 1 r, c + cnt 2 r, true) := by
    intro r
    induction r with
    | nil =>
      intro fuel i a b c hd hf _ _ _ _ _ _
      match fuel, hf with
      | fuel + 1, _ =>
        have hge : l.length ≤ i := by
          exact List.drop_eq_nil_iff.1 hd
        simp only [iterP, l58_0, l58_0_b]
        rw [decide_eq_false (show ¬ (i : Int) < ((l.length : Nat) : Int) by omega), oif_f]
        simp [j58_0, cnt]
    | cons x r ih =>
      intro fuel i a b c hd hf h1 h2 h3 h4 h5 h6
      match fuel, hf with
      | fuel + 1, hf =>
        have hi : i < l.length := by
          rcases Nat.lt_or_ge i l.length with h | h
          · exact h
          · rw [List.drop_of_length_le h] at hd; simp at hd
        have hdc := List.drop_eq_getElem_cons hi
        rw [hd] at hdc
        injection hdc with e1 e2
        have hxi : l[i]? = some x := by rw [List.getElem?_eq_getElem hi, ← e1]
        have hxv := hx x (List.mem_of_getElem? hxi)
        simp only [List.length_cons] at hf
        simp only [iterP, l58_0, l58_0_b, ltl hxi, nn, ofNat_toNat, hxi, ob_s, oif_t, j58_1]
        have step := fun a b c h1 h2 h3 h4 h5 h6 => ih fuel (i + 1) a b c e2.symm (by omega) h1 h2 h3 h4 h5 h6
        rcases hxv with rfl | rfl | rfl
        · rw [show decide ((0 : Int) < 0) = false from rfl, oif_f, show decide ((0 : Int) > 2) = false from rfl, oif_f, show decide ((0 : Int) ≤ 0) = true from rfl, oif_t]
          simp only [show Nat.blt (Int.toNat 0) 3 = true from rfl, oif_t]
          simp only [Int.toNat_zero, List.getElem?_cons_zero, ob_s]
          rw [wr (n := a + 1) (by omega) (by omega), wr1 (by omega)]
          refine (step (a + 1) b c (by omega) (by omega) h3 (by omega) h5 (by omega)).trans ?_
          rw [cnt_cons, cnt_cons]; simp
        · rw [show decide ((1 : Int) < 0) = false from rfl, oif_f, show decide ((1 : Int) > 2) = false from rfl, oif_f, show decide ((0 : Int) ≤ 1) = true from rfl, oif_t]
          simp only [show Nat.blt ((1 : Int)).toNat 3 = true from rfl, oif_t]
          simp only [Int.toNat_one, List.getElem?_cons_succ, List.getElem?_cons_zero, ob_s]
          rw [wr (n := b + 1) (by omega) (by omega), wr1 (by omega)]
          refine (step a (b + 1) c h1 (by omega) (by omega) (by omega) h5 (by omega)).trans ?_
          rw [cnt_cons, cnt_cons]; simp; omega
        · rw [show decide ((2 : Int) < 0) = false from rfl, oif_f, show decide ((2 : Int) > 2) = false from rfl, oif_f, show decide ((0 : Int) ≤ 2) = true from rfl, oif_t]
          simp only [show Nat.blt ((2 : Int)).toNat 3 = true from rfl, oif_t]
          have e22 : ((2 : Int)).toNat = 2 := rfl
          simp only [e22, List.getElem?_cons_succ, List.getElem?_cons_zero, ob_s]
          rw [wr (n := c + 1) (by omega) (by omega), wr1 (by omega)]
          refine (step a b (c + 1) h1 (by omega) h3 (by omega) (by omega) (by omega)).trans ?_
          rw [cnt_cons, cnt_cons]; simp; omega
  have := key l fuelN 0 0 0 0 (by simp) (by rw [fuelN_eq]; omega) (by omega) (by omega) (by omega) (by omega) (by omega) (by omega)
  rw [show ((0 : Nat) : Int) = 0 from rfl] at this
  rw [this]; simp

def cmI (x y : Int) : Int := if x < y then -1 else if x > y then 1 else 0

theorem q_compareInts {d : Nat} {x y : Int} : g212 (d + 1) x y = some (cmI x y) := by
  rw [e212]; unfold cmI; simp only [oif_ss, decide_eq_true_eq]

theorem q_l1Sign {d : Nat} {x y : Int} : g213 (d + 1) (x - y) = some (cmI x y) := by
  rw [e213]; unfold cmI; simp only [oif_ss, decide_eq_true_eq]; congr 1
  by_cases h1 : x < y
  · rw [if_neg (by omega), if_pos (by omega), if_pos h1]
  · rw [if_neg h1]
    by_cases h2 : x > y
    · rw [if_pos (by omega), if_pos h2]
    · rw [if_neg (by omega), if_neg (by omega), if_neg h2]

def ceV (e f : Int × Int × Int × Int) (a : Int) : Int × Bool := if elOk e && (elOk f && avOk a) then (cmI ((chV e a 0).1 * (chV f a 0).2) ((chV f a 0).1 * (chV e a 0).2), true) else (0, false)

theorem ch_mul {e f : Int × Int × Int × Int} {a : Int} (he : elOk e = true) (hf : elOk f = true) : 0 ≤ (chV e a 0).1 * (chV f a 0).2 ∧ (chV e a 0).1 * (chV f a 0).2 ≤ 235929600000000 := by
  obtain ⟨d1, d2, d3, d4⟩ := chV_in (a := a) (s := 0) he (by decide)
  obtain ⟨f1, f2, f3, f4⟩ := chV_in (a := a) (s := 0) hf (by decide)
  have k1 := Int.mul_nonneg d2 (show 0 ≤ (chV f a 0).2 by omega)
  have k2 : (chV e a 0).1 * (chV f a 0).2 ≤ 15360000 * (chV f a 0).2 := Int.mul_le_mul_of_nonneg_right (by omega) (by omega)
  omega

theorem q_CompareEarly {d : Nat} {e f : Int × Int × Int × Int} {a : Int} : g63 (d + 3) e f a = some (ceV e f a) := by
  rw [e63, q_IsEarly, ob_s, q_IsEarly, ob_s, q_isAverage, ob_s]; unfold ceV j63_0
  cases he : elOk e with
  | false => rfl
  | true => cases hf : elOk f with
    | false => rfl
    | true => cases ha : avOk a with
      | false => rfl
      | true =>
        obtain ⟨k1, k2⟩ := ch_mul (a := a) he hf
        obtain ⟨k3, k4⟩ := ch_mul (a := a) hf he
        simp only [Bool.not_true, oif_f]
        rw [q_dropChance he ha (by decide), ob_s, q_dropChance hf ha (by decide), ob_s, wr (n := (chV e a 0).1 * (chV f a 0).2) (by omega) (by omega), wr (n := (chV f a 0).1 * (chV e a 0).2) (by omega) (by omega), q_compareInts, ob_s]; rfl

theorem q_sCompareEarly {d : Nat} {e f : Int × Int × Int × Int} {a : Int} : g64 (d + 3) e f a = some (ceV e f a) := by
  rw [e64, q_rdGood, ob_s, q_rdGood, ob_s, q_rdAverage, ob_s]; unfold ceV j64_0
  cases he : elOk e with
  | false => rfl
  | true => cases hf : elOk f with
    | false => rfl
    | true => cases ha : avOk a with
      | false => rfl
      | true =>
        obtain ⟨k1, k2⟩ := ch_mul (a := a) he hf
        obtain ⟨k3, k4⟩ := ch_mul (a := a) hf he
        simp only [Bool.not_true, oif_f]
        rw [q_rdChance he ha (by decide), ob_s, q_rdChance hf ha (by decide), ob_s, wr (n := (chV e a 0).1 * (chV f a 0).2) (by omega) (by omega), wr (n := (chV f a 0).1 * (chV e a 0).2) (by omega) (by omega), wr (by omega) (by omega), q_l1Sign, ob_s]; rfl

theorem p_DrawDropChance {d : Nat} {x : List Int} (hx : Bytes x) : Ok (g51 (d + 5) x) fun _ => True := by
  rw [e51]
  refine Ok.bind (p_early (CurOk.new hx) (by omega)) fun r hr => ?_
  refine Ok.bind (p_average hr (by omega)) fun q hq => ?_
  exact Ok.bind (p_among hq (by omega) (by simp)) fun u hu => Ok.some trivial

theorem p_DrawRunEarly {d : Nat} {x : List Int} (hx : Bytes x) : Ok (g54 (d + 5) x) fun r => r.2.2.1.length ≤ 100 := by
  rw [e54]
  refine Ok.bind (p_early (CurOk.new hx) (by omega)) fun r hr => ?_
  refine Ok.bind (p_average hr (by omega)) fun q hq => ?_
  refine Ok.bind (p_lengths hq (by omega)) fun u hu => ?_
  refine Ok.bind (p_pick hu.2 (by omega)) fun v hv => ?_
  refine Ok.bind (p_pick hv.2.2 (by omega)) fun w hw => ?_
  refine Ok.bind (p_pick hw.2.2 (by omega)) fun z hz => ?_
  exact Ok.bind (p_among hz.2.2 (by omega) (by simp)) fun s hs => Ok.some hu.1

theorem p_DrawDecideEarly {d : Nat} {x : List Int} (hx : Bytes x) : Ok (g60 (d + 5) x) fun _ => True := by
  rw [e60]
  refine Ok.bind (p_early (CurOk.new hx) (by omega)) fun r hr => ?_
  refine Ok.bind (p_average hr (by omega)) fun q hq => ?_
  refine Ok.bind (p_among hq (by omega) (by simp)) fun u hu => ?_
  refine Ok.bind (p_pick hu.2 (by omega)) fun v hv => ?_
  refine Ok.bind (p_pick hv.2.2 (by omega)) fun w hw => ?_
  refine Ok.bind (p_pick hw.2.2 (by omega)) fun z hz => ?_
  refine Ok.bind (p_among hz.2.2 (by omega) (by simp)) fun s hs => ?_
  exact Ok.bind (p_pick hs.2 (by omega)) fun t ht => Ok.some trivial

theorem p_DrawCompareEarly {d : Nat} {x : List Int} (hx : Bytes x) : Ok (g62 (d + 5) x) fun _ => True := by
  rw [e62]
  refine Ok.bind (p_early (CurOk.new hx) (by omega)) fun r hr => ?_
  refine Ok.bind (p_one hr (by omega)) fun q hq => ?_
  refine Ok.oif (fun h => ?_) (fun h => ?_)
  · exact Ok.bind (p_average hq (by omega)) fun u hu => Ok.some trivial
  · refine Ok.bind (p_early hq (by omega)) fun u hu => ?_
    exact Ok.bind (p_average hu (by omega)) fun u hu => Ok.some trivial

theorem p_DrawKeyedNumber {d : Nat} {x : List Int} (hx : Bytes x) : Ok (g65 (d + 5) x) fun _ => True := by
  rw [e65]
  refine Ok.bind (p_pick (CurOk.new hx) (by omega)) fun v hv => ?_
  refine Ok.bind (p_pick hv.2.2 (by omega)) fun w hw => ?_
  refine Ok.bind (p_among hw.2.2 (by omega) (by simp)) fun s hs => ?_
  exact Ok.bind (p_among hs.2 (by omega) (by simp)) fun t ht => Ok.some trivial

end Go.Proofs.Ytmjhgkmiafemfaa
