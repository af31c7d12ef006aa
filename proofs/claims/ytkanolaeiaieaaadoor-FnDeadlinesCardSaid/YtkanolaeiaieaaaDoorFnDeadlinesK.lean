/-
  What the cursor's functions and the small ones give by value.
  Conditions: the cursor has not been moved 2^62 times.
  Comparing and adding up lists of numbers; ranges.
  Conditions: the lists are shorter than the fuel.
  Texts: their elements, and the draws of texts.
  Conditions: none, but those of the cursor for the draws.
  Numbers and their texts, in both packages.
  Conditions: none, but those of the cursor for the draws.
  Numbers in bytes, padding and checksums, in both packages; the draws.
  Conditions: bytes.
  Texts of numbers and of bytes, in both packages.
  Conditions: none, but those of the cursor for the draws.
  Texts of numbers: the decimal and the hexadecimal ones, their forms with units, in both packages; what is read back.
  Conditions: values.
  Curves of two pieces and sessions: their services, deadlines and restarts, in both packages.
  Conditions: the lists are shorter than the fuel.
  Sessions that are begun anew, and the texts of sessions, in both packages; the draws.
  Conditions: the lists are shorter than the fuel; those of the cursor for the draws.
  The texts of sessions, in both packages; the draws of sessions.
  Conditions: those of the cursor for the draws.
  What is given for the library's functions that write a number and that join texts.
  Conditions: none.
-/
import Derived.Test.YtkanolaeiaieaaaDoorFnDeadlinesRes
import Derived.Test.YtkanolaeiaieaaaDoorPKit2
import Derived.Laws.Strings
import Derived.Test.YtkanolaeiaieaaaDoorItoaW
import Derived.Test.YtkanolaeiaieaaaDoorJoinW
set_option linter.all false
namespace Go.Proofs.YtkanolaeiaieaaaDoor
open Go.Ev Go.Pv

theorem p_next {d m : Nat} {c : List Int × Int × Int} (hc : CurOk m c) (hm : m < 4611686018427387904) : Ok (g135 (d + 1) c) fun r => 0 ≤ r.1 ∧ r.1 < 256 ∧ CurOk (m + 1) r.2 := by
  obtain ⟨hb, h0, h1⟩ := hc
  obtain ⟨code, at', seed⟩ := c
  simp only at hb h0 h1
  have hw : IntKind.i64.wrap (at' + 1) = at' + 1 := wr (by omega) (by omega)
  rw [e135]
  have fin : ∀ n : Int, (at' < code.length → 0 ≤ n ∧ n < 256) → Ok (j135_0 d (code, at', seed) n) fun r => 0 ≤ r.1 ∧ r.1 < 256 ∧ CurOk (m + 1) r.2 := by
    intro n hn
    unfold j135_0
    simp only [hw]
    refine Ok.oif (fun h => ?_) (fun h => ?_)
    · simp only [decide_eq_true_eq] at h
      obtain ⟨a, b⟩ := hn (by omega)
      exact Ok.some ⟨a, b, hb, by simp only; omega, by simp only; omega⟩
    · exact Ok.some ⟨(seedByte _).1, (seedByte _).2, hb, by simp only; omega, by simp only; omega⟩
  refine Ok.oif (fun h => ?_) (fun h => ?_)
  · simp only [decide_eq_true_eq] at h
    refine Ok.oif (fun _ => ?_) (fun h2 => by simp only [decide_eq_false_iff_not] at h2; omega)
    have hlt : at'.toNat < code.length := by omega
    simp only
    rw [List.getElem?_eq_getElem hlt]
    have hx := hb _ (List.getElem_mem hlt)
    refine Ok.bind (Ok.some rfl) (fun a ha => ?_)
    subst ha
    exact fin _ (fun _ => by rw [wr (by omega) (by omega)]; exact hx)
  · simp only [decide_eq_false_iff_not] at h
    exact fin 0 (fun h' => absurd h' h)

theorem p_pick {d m : Nat} {c : List Int × Int × Int} {n : Int} (hc : CurOk m c) (hm : m + 1 < 4611686018427387904) : Ok (g102 (d + 2) c n) fun r => 0 ≤ r.1 ∧ (r.1 < n ∨ r.1 = 0) ∧ CurOk (m + 2) r.2 := by
  rw [e102]
  refine Ok.oif (fun h => ?_) (fun h => ?_)
  · exact Ok.some ⟨by simp, .inr rfl, hc.mono (by omega)⟩
  · simp only [decide_eq_false_iff_not] at h
    refine Ok.bind (p_next hc (by omega)) (fun r hr => ?_)
    obtain ⟨h1, h2, h3⟩ := hr
    have hn : (n == 0) = false := by simp; omega
    refine Ok.oif (fun h4 => ?_) (fun h4 => ?_)
    · refine Ok.bind (p_next h3 (by omega)) (fun q hq => ?_)
      obtain ⟨h5, h6, h7⟩ := hq
      rw [hn]
      rw [wr (n := r.1 * 256) (by omega) (by omega), wr (by omega) (by omega)]
      exact Ok.some ⟨Int.tmod_nonneg _ (by omega), .inl (Int.tmod_lt_of_pos _ (by omega)), h7.mono (by omega)⟩
    · rw [hn]
      exact Ok.some ⟨Int.tmod_nonneg _ (by omega), .inl (Int.tmod_lt_of_pos _ (by omega)), h3.mono (by omega)⟩

theorem p_among {d m : Nat} {c : List Int × Int × Int} {l : List Int} (hc : CurOk m c) (hm : m + 1 < 4611686018427387904) (hl : 0 < l.length) : Ok (g101 (d + 3) c l) fun r => r.1 ∈ l ∧ CurOk (m + 2) r.2 := by
  rw [e101]
  refine Ok.bind (p_pick hc hm) (fun r hr => ?_)
  obtain ⟨h1, h2, h3⟩ := hr
  refine Ok.oif (fun _ => ?_) (fun h => by simp only [decide_eq_false_iff_not] at h; omega)
  have hlt : r.1.toNat < l.length := by omega
  rw [List.getElem?_eq_getElem hlt]
  exact Ok.bind (Ok.some rfl) (fun a ha => by subst ha; exact Ok.some ⟨List.getElem_mem hlt, h3⟩)

theorem p_one {d m : Nat} {c : List Int × Int × Int} {n : Int} (hc : CurOk m c) (hm : m + 1 < 4611686018427387904) : Ok (g152 (d + 3) c n) fun r => CurOk (m + 2) r.2 := by
  rw [e152]
  exact Ok.bind (p_pick hc hm) (fun r hr => Ok.some hr.2.2)

theorem q_l1In {d : Nat} {x y z : Int} : g74 (d + 1) x y z = some (decide (y ≤ x ∧ x ≤ z)) := by
  rw [e74]; simp only [oif_ss]; congr 1; rw [Bool.eq_iff_iff]; simp

def szOk (s : Int) : Bool := decide (1 ≤ s ∧ s ≤ 1500)

theorem q_isSize {d : Nat} {x : Int} : g46 (d + 1) x = some (szOk x) := by
  rw [e46]; simp only [oif_ss]; congr 1; rw [Bool.eq_iff_iff]; simp [szOk]

theorem q_l1All {d : Nat} {l : List Int} {a b : Int} (hl : l.length < 4194304) : g97 (d + 2) l a b = some (l.all fun x => decide (a ≤ x ∧ x ≤ b)) := by
  rw [e97]
  refine (range_eq (fun (t : Bool) (i : Int) => (t, i)) l (fun x _ t k => oif (decide (a ≤ x ∧ x ≤ b)) (k t) (some false)) (j97_0 (d + 1)) ?_ ?_ (by rw [fuelN_eq]; exact hl) false).trans ?_
  · intro ag t i x hx; have hi := (List.getElem?_eq_some_iff.1 hx).1; simp only [l97_0, l97_0_b, ltl hx, bltl hx, nn, ofNat_toNat, hx, ob_s, oif_t]; rw [wr1 (by omega)]
    rw [q_l1In, ob_s]; cases decide (a ≤ x ∧ x ≤ b) <;> rfl
  · intro ag t; simp only [l97_0, l97_0_b, ltn, oif_f]
  · rw [rangeR_all (p := fun x => decide (a ≤ x ∧ x ≤ b))]; cases l.all _ <;> rfl

theorem q_sameInts {d : Nat} {l : List Int} (hl : l.length < 4194304) : g52 (d + 1) l l = some true := by
  rw [e52, bne_self_eq_false, oif_f]
  refine (range_eq (fun (t : Bool) (i : Int) => (t, i)) l (fun x i t k => k t) (j52_0 d) ?_ ?_ (by rw [fuelN_eq]; exact hl) false).trans ?_
  · intro ag t i x hx; have hi := (List.getElem?_eq_some_iff.1 hx).1; simp only [l52_0, l52_0_b, ltl hx, bltl hx, nn, ofNat_toNat, hx, ob_s, oif_t]; rw [wr1 (by omega)]
    simp only [bne_self_eq_false, oif_f]
  · intro ag t; simp only [l52_0, l52_0_b, ltn, oif_f]
  · rw [rangeR_fold (f := fun _ _ t => t)]; rfl

theorem q_big {d : Nat} {x y : List Int} : ∃ b, g7 (d + 1) x y = some b := by
  rw [e7]; simp only [oif_ss]; exact ⟨_, rfl⟩

abbrev By := ByteArray

def bl (s : ByteArray) : List UInt8 := s.data.toList

theorem bl_len (s : ByteArray) : s.size = (bl s).length := rfl

theorem bl_def (s : ByteArray) : s.data.toList = bl s := rfl

theorem bl_app (a b : ByteArray) : bl (a ++ b) = bl a ++ bl b := by simp [bl]

theorem bl_ext (s : ByteArray) (a b : Nat) : bl (s.extract a b) = ((bl s).drop a).take (b - a) := by simp [bl]

theorem bl_lit (l : List UInt8) : bl ⟨l.toArray⟩ = l := by simp [bl]

theorem bl_inj {a b : ByteArray} : bl a = bl b ↔ a = b := by
  constructor
  · intro h
    cases a with | mk a => cases b with | mk b =>
      simp only [bl] at h
      rw [Array.toList_inj.1 h]
  · intro h; rw [h]

theorem bl_eq (a b : ByteArray) : (a.toList == b.toList) = decide (bl a = bl b) := by
  rw [ByteArray.toList_eq, ByteArray.toList_eq]
  by_cases h : bl a = bl b
  · rw [decide_eq_true h]; simpa [bl] using h
  · rw [decide_eq_false h]; simpa [bl] using h

theorem strL_len (l : List Int) : (strL l).size = l.length := by rw [bl_len]; simp [bl, strL]

theorem ble_t {a b : Nat} (h : a ≤ b) : Nat.ble a b = true := by rw [Nat.ble_eq]; exact h

theorem slice_t {α : Type} {a b n : Nat} {x y : Option α} (h1 : a ≤ b) (h2 : b ≤ n) : oif (Nat.ble a b && Nat.ble b n) x y = x := by rw [ble_t h1, ble_t h2]; rfl

theorem room2 {α : Type} {a b : Nat} {x y : Option α} (h : a + b ≤ 9223372036854775807) : oif (Nat.ble (a + b) 9223372036854775807) x y = x := by rw [ble_t h]; rfl

/-- The text of a number with at most so many digits. -/
theorem p_l1Num : ∀ (j : Nat) {d : Nat} {n : Int}, 0 ≤ n → n < 10 ^ (j + 1) → n ≤ 1000000000000 → j ≤ 100 → Ok (g64 (d + j + 1) n) fun s => 1 ≤ s.size ∧ s.size ≤ j + 1
  | 0, d, n, h0, h1, _, _ => by
    rw [e64, decide_eq_true (by omega), oif_t]
    exact Ok.some ⟨by rw [strL_len]; simp, by rw [strL_len]; simp⟩
  | j + 1, d, n, h0, h1, h2, h3 => by
    rw [show d + (j + 1) + 1 = (d + j + 1) + 1 by omega, e64]
    refine Ok.oif (fun _ => Ok.some ⟨by rw [strL_len]; simp, by rw [strL_len]; simp⟩) (fun h => ?_)
    have hq : n / 10 < 10 ^ (j + 1) := by
      rw [Int.pow_succ] at h1
      omega
    rw [Int.tdiv_eq_ediv_of_nonneg h0, wr (n := n / 10) (by omega) (by omega)]
    refine Ok.bind (p_l1Num j (by omega) hq (by omega) (by omega)) fun r hr => ?_
    rw [room2 (by rw [strL_len]; simp; omega)]
    refine Ok.some ⟨?_, ?_⟩ <;> rw [ByteArray.size_append, strL_len] <;> simp <;> omega

theorem q_nuUnits {d : Nat} : g156 (d + 1) = some [(⟨#[109]⟩ : ByteArray), (⟨#[107]⟩ : ByteArray), (⟨#[]⟩ : ByteArray)] := e156 d

theorem q_nuSize0 {d : Nat} : g157 (d + 1) 0 = some 1000000 := by rw [e157]; rfl

theorem q_nuSize1 {d : Nat} : g157 (d + 1) 1 = some 1000 := by rw [e157]; rfl

theorem q_nuSize2 {d : Nat} : g157 (d + 1) 2 = some 1 := by rw [e157]; rfl

theorem p_nuForms {d : Nat} {n : Int} (h0 : 0 ≤ n) (h1 : n ≤ 1000000000) : Ok (g140 (d + 12) n) fun l => 0 < l.length ∧ ∀ s ∈ l, s.size ≤ 20 := by
  rw [e140, q_nuUnits, ob_s]
  refine iter_ok (fun j s => ∃ i : Nat, s.2 = (i : Int) ∧ i + j = 3 ∧ s.1.length ≤ i ∧ (i = 3 → 0 < s.1.length) ∧ ∀ x ∈ s.1, x.size ≤ 20) ?_ _ 3 _ (by rw [fuelN_eq]; omega) ⟨0, rfl, rfl, by simp, by simp, by simp⟩
  rintro j ⟨l, _⟩ ag ⟨i, rfl, h2, h3, h4, h5⟩ hag
  simp only at h3 h4 h5
  simp only [l140_0, l140_0_b]
  have hU : ([(⟨#[109]⟩ : ByteArray), (⟨#[107]⟩ : ByteArray), (⟨#[]⟩ : ByteArray)] : List ByteArray).length = 3 := rfl
  have add : ∀ (r : ByteArray) (u : ByteArray), 1 ≤ r.size → r.size ≤ 11 → u.size ≤ 1 → i < 3 → Ok (oif (Nat.ble (r.size + u.size) 9223372036854775807) (oif (Nat.ble ((l.length + [(r ++ u)].length) * 16) roomMax) (ag (l ++ [(r ++ u)], IntKind.i64.wrap ((i : Int) + 1))) none) none) fun l => 0 < l.length ∧ ∀ s ∈ l, s.size ≤ 20 := by
    intro r u hr hr2 hu hi
    rw [room2 (by omega), room (by simp; omega), oif_t, wr1 (by omega)]
    refine hag (j - 1) _ (by omega) ⟨i + 1, rfl, by omega, by simp; omega, by simp, fun x hx => ?_⟩
    simp only [List.mem_append, List.mem_singleton] at hx
    rcases hx with hx | rfl
    · exact h5 x hx
    · rw [ByteArray.size_append]; omega
  have skip : i < 2 → Ok (ag (l, IntKind.i64.wrap ((i : Int) + 1))) fun l => 0 < l.length ∧ ∀ s ∈ l, s.size ≤ 20 := by
    intro hi
    rw [wr1 (by omega)]
    exact hag (j - 1) _ (by omega) ⟨i + 1, rfl, by omega, by simp only; omega, by simp only; omega, h5⟩
  rcases Nat.lt_or_ge i 3 with hi | hi
  · rw [hU, decide_eq_true (show (i : Int) < ((3 : Nat) : Int) by omega), oif_t, nn, oif_t, ofNat_toNat, blt_of hi, oif_t]
    have hc : i = 0 ∨ i = 1 ∨ i = 2 := by omega
    unfold j140_1
    rcases hc with rfl | rfl | rfl
    · simp only [List.getElem?_cons_zero, ob_s]
      rw [show ((0 : Nat) : Int) = 0 from rfl] at add skip ⊢
      rw [q_nuSize0, ob_s]
      simp only [show ((1000000 : Int) == 0) = false from rfl, oif_f, ob_s]
      rw [Int.tdiv_eq_ediv_of_nonneg h0, wr (n := n / 1000000) (by omega) (by omega)]
      refine Ok.oif (fun _ => ?_) (fun _ => skip (by omega))
      refine Ok.oif (fun _ => ?_) (fun _ => ?_)
      · rw [oif_t]
        refine Ok.bind (p_l1Num 10 (by omega) (by simp only [Nat.reduceAdd, Int.reducePow]; omega) (by omega) (by omega)) fun r hr => add r _ hr.1 hr.2 (by decide) (by omega)
      · refine Ok.oif (fun _ => ?_) (fun _ => skip (by omega))
        refine Ok.bind (p_l1Num 10 (by omega) (by simp only [Nat.reduceAdd, Int.reducePow]; omega) (by omega) (by omega)) fun r hr => add r _ hr.1 hr.2 (by decide) (by omega)
    · simp only [List.getElem?_cons_succ, List.getElem?_cons_zero, ob_s]
      rw [show ((1 : Nat) : Int) = 1 from rfl] at add skip ⊢
      rw [q_nuSize1, ob_s]
      simp only [show ((1000 : Int) == 0) = false from rfl, oif_f, ob_s]
      rw [Int.tdiv_eq_ediv_of_nonneg h0, wr (n := n / 1000) (by omega) (by omega)]
      refine Ok.oif (fun _ => ?_) (fun _ => skip (by omega))
      refine Ok.oif (fun _ => ?_) (fun _ => ?_)
      · rw [oif_t]
        refine Ok.bind (p_l1Num 10 (by omega) (by simp only [Nat.reduceAdd, Int.reducePow]; omega) (by omega) (by omega)) fun r hr => add r _ hr.1 hr.2 (by decide) (by omega)
      · refine Ok.oif (fun _ => ?_) (fun _ => skip (by omega))
        refine Ok.bind (p_l1Num 10 (by omega) (by simp only [Nat.reduceAdd, Int.reducePow]; omega) (by omega) (by omega)) fun r hr => add r _ hr.1 hr.2 (by decide) (by omega)
    · simp only [List.getElem?_cons_succ, List.getElem?_cons_zero, ob_s]
      rw [show ((2 : Nat) : Int) = 2 from rfl] at add ⊢
      rw [q_nuSize2, ob_s]
      simp only [show ((1 : Int) == 0) = false from rfl, oif_f, ob_s]
      have hm : n.tmod 1 = 0 := by simp
      rw [hm, Int.tdiv_eq_ediv_of_nonneg h0, wr (n := n / 1) (by omega) (by omega)]
      have he : ((⟨#[]⟩ : ByteArray).toList == (⟨#[]⟩ : ByteArray).toList) = true := by simp
      rw [show ((0 : Int) == 0) = true from rfl, oif_t, he, oif_same, oif_t]
      refine Ok.bind (p_l1Num 10 (by omega) (by simp only [Nat.reduceAdd, Int.reducePow]; omega) (by omega) (by omega)) fun r hr => add r _ hr.1 hr.2 (by decide) (by omega)
  · have : i = 3 := by omega
    subst this
    rw [hU, ltn, oif_f]
    unfold j140_0
    exact Ok.some ⟨h4 rfl, h5⟩

def vlOk (n : Int) : Bool := decide (0 ≤ n ∧ n ≤ 1000000000)

/-- Scaling. -/
def scN (n num den : Int) (up : Bool) : Int := if up then (n * num + (den - 1)) / den else (n * num) / den

def scOk (n num den : Int) : Bool := vlOk n && decide (0 ≤ num ∧ num ≤ 1000000 ∧ 1 ≤ den ∧ den ≤ 1000000)

def scV (n num den : Int) (up : Bool) : Int × Bool := if scOk n num den && decide (scN n num den up ≤ 1000000000) then (scN n num den up, true) else (0, false)

theorem sc_in {n num den : Int} (h : scOk n num den = true) : 0 ≤ n * num ∧ n * num ≤ 1000000000000000 ∧ 1 ≤ den ∧ den ≤ 1000000 := by
  simp only [scOk, vlOk, Bool.and_eq_true, decide_eq_true_eq] at h
  have k1 : 0 ≤ n * num := Int.mul_nonneg (by omega) (by omega)
  have k2 : n * num ≤ 1000000000 * num := Int.mul_le_mul_of_nonneg_right (by omega) (by omega)
  omega

theorem div_le_self' {a b : Int} (h0 : 0 ≤ a) (h1 : 1 ≤ b) : 0 ≤ a / b ∧ a / b ≤ a := ⟨Int.ediv_nonneg h0 (by omega), Int.ediv_le_self _ h0⟩

/-- Adding. -/
def vlsOk (l : List Int) : Bool := l.all vlOk && decide (l.length ≤ 40)

def adV (l : List Int) : Int × Bool := if vlsOk l && decide (l.sum ≤ 1000000000) then (l.sum, true) else (0, false)

theorem ad_range {β : Type} {no : Option β} {fin : Int → Option β} : ∀ (l : List Int) (i : Nat) (t : Int), (∀ x ∈ l, 0 ≤ x ∧ x ≤ 1000000000) → 0 ≤ t → t ≤ 1000000000 →
    rangeR (fun x _ t k => oif (decide (IntKind.i64.wrap (t + x) > 1000000000)) no (k (IntKind.i64.wrap (t + x)))) fin l i t = if t + l.sum ≤ 1000000000 then fin (t + l.sum) else no
  | [], i, t, _, h0, h1 => by
    have e : t + ([] : List Int).sum = t := by simp
    rw [e, if_pos h1]; rfl
  | x :: r, i, t, hl, h0, h1 => by
    have hx := hl x (by simp)
    have hr : 0 ≤ r.sum := List.sum_nonneg' r (fun y hy => (hl y (by simp [hy])).1)
    have e : t + (x :: r).sum = t + x + r.sum := by rw [List.sum_cons]; omega
    rw [e]
    simp only [rangeR]
    rw [wr (n := t + x) (by omega) (by omega)]
    by_cases h : t + x > 1000000000
    · rw [decide_eq_true h, oif_t, if_neg (by omega)]
    · rw [decide_eq_false h, oif_f, ad_range r (i + 1) (t + x) (fun y hy => hl y (by simp [hy])) (by omega) (by omega)]

theorem vlsOk_in {l : List Int} (h : vlsOk l = true) : (∀ x ∈ l, 0 ≤ x ∧ x ≤ 1000000000) ∧ l.length ≤ 40 := by
  simp only [vlsOk, vlOk, Bool.and_eq_true, List.all_eq_true, decide_eq_true_eq] at h
  exact h

/-- Multiplying. -/
def muV (a b : Int) : Int × Bool := if vlOk a && (vlOk b && decide (a * b ≤ 1000000000)) then (a * b, true) else (0, false)

theorem mu_in {a b : Int} (ha : vlOk a = true) (hb : vlOk b = true) : 0 ≤ a * b ∧ a * b ≤ 1000000000000000000 := by
  simp only [vlOk, decide_eq_true_eq] at ha hb
  have k1 : 0 ≤ a * b := Int.mul_nonneg (by omega) (by omega)
  have k2 : a * b ≤ 1000000000 * b := Int.mul_le_mul_of_nonneg_right (by omega) (by omega)
  omega

/-- Digits, and the number of a list of them. -/
def dg (c : UInt8) : Int := if 48 ≤ c.toNat ∧ c.toNat ≤ 57 then (c.toNat : Int) - 48 else if 97 ≤ c.toNat ∧ c.toNat ≤ 102 then (c.toNat : Int) - 87 else 99

theorem dg_in (c : UInt8) : 0 ≤ dg c ∧ dg c ≤ 99 := by unfold dg; (repeat' split) <;> omega

def rdL (base most : Int) : Int → List UInt8 → Int
  | n, [] => n
  | n, c :: r => if dg c ≥ base then -1 else if n * base + dg c > most then -1 else rdL base most (n * base + dg c) r

def rdS (base most : Int) : Int → List UInt8 → Int
  | n, [] => if n > most then -1 else n
  | n, c :: r => if dg c ≥ base then -1 else if n > most then -1 else rdS base most (n * base + dg c) r

theorem rdS_over {base most : Int} {n : Int} (h : n > most) : ∀ l, rdS base most n l = -1
  | [] => by simp only [rdS]; rw [if_pos h]
  | c :: r => by simp only [rdS]; rw [if_pos h]; split <;> rfl

theorem rdS_eq {base most : Int} : ∀ (l : List UInt8) {n : Int}, n ≤ most → rdS base most n l = rdL base most n l
  | [], n, h => by simp only [rdS, rdL]; rw [if_neg (by omega)]
  | c :: r, n, h => by
    simp only [rdS, rdL]
    split
    · rfl
    · rw [if_neg (by omega)]
      by_cases h2 : n * base + dg c > most
      · rw [if_pos h2, rdS_over h2]
      · rw [if_neg h2, rdS_eq r (by omega)]

theorem rdL_in {base most : Int} (hb : 1 ≤ base) : ∀ (l : List UInt8) {n : Int}, 0 ≤ n → n ≤ most → rdL base most n l = -1 ∨ (n ≤ rdL base most n l ∧ rdL base most n l ≤ most)
  | [], n, h0, h1 => .inr ⟨Int.le_refl _, h1⟩
  | c :: r, n, h0, h1 => by
    simp only [rdL]
    split
    · exact .inl rfl
    · split
      · exact .inl rfl
      · have hd := dg_in c
        have k : n * 1 ≤ n * base := Int.mul_le_mul_of_nonneg_left hb h0
        rcases rdL_in (most := most) hb r (n := n * base + dg c) (by omega) (by omega) with h | h
        · exact .inl h
        · exact .inr (by omega)

def rcV (base most : Int) : List UInt8 → Int
  | [] => -1
  | c :: r => if c.toNat = 48 ∧ r ≠ [] then -1 else rdL base most 0 (c :: r)

theorem rcV_in {base most : Int} (hb : 1 ≤ base) (hm : 0 ≤ most) : ∀ l, -1 ≤ rcV base most l ∧ rcV base most l ≤ most
  | [] => by simp only [rcV]; omega
  | c :: r => by
    simp only [rcV]
    split
    · omega
    · have := rdL_in (base := base) (most := most) hb (c :: r) (n := 0) (by omega) hm
      omega

/-- No needless zero: the number is positive. -/
theorem rdL_pos {base most : Int} {c : UInt8} {r : List UInt8} (hb : 1 ≤ base) (hm : 0 ≤ most) (hc : c.toNat ≠ 48) : rdL base most 0 (c :: r) = -1 ∨ 1 ≤ rdL base most 0 (c :: r) := by
  simp only [rdL]
  split
  · exact .inl rfl
  · split
    · exact .inl rfl
    · have hd : 1 ≤ dg c := by unfold dg; (repeat' split) <;> omega
      rcases rdL_in (most := most) hb r (n := 0 * base + dg c) (by omega) (by omega) with h | h
      · exact .inl h
      · exact .inr (by omega)

def onR {β : Type} (no : Option β) (fin : Int → Option β) (v : Int) : Option β := if v = -1 then no else fin v

theorem nd_range {β : Type} {base most : Int} {no : Option β} {fin : Int → Option β} (hb : 1 ≤ base) (hb2 : base ≤ 16) (hm : most ≤ 1000000000) : ∀ (l : List UInt8) (i : Nat) (t : Int), 0 ≤ t →
    rangeR (fun x _ t k => oif (decide (dg x ≥ base)) no (oif (decide (t > most)) no (k (IntKind.i64.wrap (IntKind.i64.wrap (t * base) + dg x))))) (fun t => oif (decide (t > most)) no (fin t)) l i t = onR no fin (rdS base most t l)
  | [], i, t, h0 => by
    simp only [rangeR, rdS]
    by_cases h : t > most
    · rw [decide_eq_true h, oif_t, if_pos h]; rfl
    · rw [decide_eq_false h, oif_f, if_neg h]; unfold onR; rw [if_neg (by omega)]
  | c :: r, i, t, h0 => by
    simp only [rangeR, rdS]
    have hd := dg_in c
    by_cases h : dg c ≥ base
    · rw [decide_eq_true h, oif_t, if_pos h]; rfl
    rw [decide_eq_false h, oif_f, if_neg h]
    by_cases h2 : t > most
    · rw [decide_eq_true h2, oif_t, if_pos h2]; rfl
    have k1 : 0 ≤ t * base := Int.mul_nonneg h0 (by omega)
    have k2 : t * base ≤ t * 16 := Int.mul_le_mul_of_nonneg_left hb2 h0
    rw [decide_eq_false h2, oif_f, if_neg h2, wr (n := t * base) (by omega) (by omega), wr (n := t * base + dg c) (by omega) (by omega)]
    exact nd_range hb hb2 hm r (i + 1) _ (by omega)

theorem u8_lt (c : UInt8) : (c.toNat : Int) < 256 := by have := c.toNat_lt; omega

def unV2 (u most : Int) (l : List UInt8) : Int := if rcV 10 most l ≤ 0 then -1 else rcV 10 most l * u

def nrV (l : List UInt8) : Int := match l.getLast? with
  | none => -1
  | some c => if c.toNat = 109 then unV2 1000000 1000 l.dropLast else if c.toNat = 107 then unV2 1000 1000000 l.dropLast else rcV 10 1000000000 l

def toR (n : Int) : Int × Bool := if n < 0 then (0, false) else (n, true)

theorem unV2_in {u most : Int} (hm : 0 ≤ most) (h : most * u ≤ 1000000000) (hu : 1 ≤ u) (l : List UInt8) : -1 ≤ unV2 u most l ∧ unV2 u most l ≤ 1000000000 := by
  unfold unV2
  have := rcV_in (base := 10) (by omega) hm l
  split
  · omega
  · have k : rcV 10 most l * u ≤ most * u := Int.mul_le_mul_of_nonneg_right (by omega) (by omega)
    have k2 : 0 ≤ rcV 10 most l * u := Int.mul_nonneg (by omega) (by omega)
    omega

theorem nrV_in (l : List UInt8) : -1 ≤ nrV l ∧ nrV l ≤ 1000000000 := by
  unfold nrV
  split
  · omega
  · split
    · exact unV2_in (by omega) (by omega) (by omega) _
    · split
      · exact unV2_in (by omega) (by omega) (by omega) _
      · exact rcV_in (by omega) (by omega) _

def toU (u v : Int) : Int × Bool := if v = -1 then (0, false) else (v * u, true)

theorem rn_range {u most : Int} (hu : 1 ≤ u) (hum : most * u = 1000000000) (hm : 0 ≤ most) : ∀ (l : List UInt8) (i : Nat) (t : Int), 0 ≤ t → t ≤ most →
    rangeR (fun x _ t k => oif (decide (48 ≤ x.toNat ∧ x.toNat ≤ 57)) (oif (decide (IntKind.i64.wrap (IntKind.i64.wrap (IntKind.i64.wrap (10 * t) + IntKind.i64.wrap (IntKind.u8.wrap ((x.toNat : Int) - 48))) * u) > 1000000000)) (some (0, false)) (k (IntKind.i64.wrap (IntKind.i64.wrap (10 * t) + IntKind.i64.wrap (IntKind.u8.wrap ((x.toNat : Int) - 48)))))) (some (0, false))) (fun t => some (IntKind.i64.wrap (t * u), true)) l i t
      = some (toU u (rdL 10 most t l))
  | [], i, t, h0, h1 => by
    simp only [rangeR, rdL]
    have k : t * u ≤ most * u := Int.mul_le_mul_of_nonneg_right h1 (by omega)
    have k2 : 0 ≤ t * u := Int.mul_nonneg h0 (by omega)
    rw [wr (n := t * u) (by omega) (by omega)]; unfold toU; rw [if_neg (by omega)]
  | c :: r, i, t, h0, h1 => by
    simp only [rangeR, rdL]
    by_cases h : 48 ≤ c.toNat ∧ c.toNat ≤ 57
    · have e : dg c = (c.toNat : Int) - 48 := by unfold dg; rw [if_pos h]
      have hu8 : IntKind.u8.wrap ((c.toNat : Int) - 48) = (c.toNat : Int) - 48 := by
        show ((c.toNat : Int) - 48) % 256 = _
        omega
      have hmb : most ≤ 1000000000 := by
        have : most * 1 ≤ most * u := Int.mul_le_mul_of_nonneg_left hu hm
        omega
      rw [decide_eq_true h, oif_t, hu8, wr (n := (c.toNat : Int) - 48) (by omega) (by omega), wr (n := 10 * t) (by omega) (by omega), ← e, if_neg (by omega), Int.mul_comm 10 t]
      have hd : 0 ≤ dg c ∧ dg c ≤ 9 := by omega
      rw [wr (n := t * 10 + dg c) (by omega) (by omega)]
      have hub : u ≤ 1000000000 ∨ most = 0 := by
        rcases Int.lt_or_eq_of_le hm with h5 | h5
        · left
          have : 1 * u ≤ most * u := Int.mul_le_mul_of_nonneg_right (by omega) (by omega)
          omega
        · right; omega
      rcases hub with hub | hub
      · have k1 : (t * 10 + dg c) * u ≤ (most * 10 + 9) * u := Int.mul_le_mul_of_nonneg_right (by omega) (by omega)
        have k2 : (most * 10 + 9) * u = 10 * (most * u) + 9 * u := by rw [Int.add_mul, Int.mul_comm most 10, Int.mul_assoc]
        have k3 : 0 ≤ (t * 10 + dg c) * u := Int.mul_nonneg (by omega) (by omega)
        rw [wr (n := (t * 10 + dg c) * u) (by omega) (by omega)]
        have key : (t * 10 + dg c) * u > 1000000000 ↔ t * 10 + dg c > most := by
          constructor
          · intro hh
            rcases Int.lt_or_le most (t * 10 + dg c) with h6 | h6
            · exact h6
            · have := Int.mul_le_mul_of_nonneg_right h6 (show 0 ≤ u by omega); omega
          · intro hh
            have := Int.mul_le_mul_of_nonneg_right (show most + 1 ≤ t * 10 + dg c by omega) (show 0 ≤ u by omega)
            rw [Int.add_mul] at this; omega
        by_cases h7 : t * 10 + dg c > most
        · rw [decide_eq_true (key.2 h7), oif_t, if_pos h7]; rfl
        · rw [decide_eq_false (fun hh => h7 (key.1 hh)), oif_f, if_neg h7]
          exact rn_range hu hum hm r (i + 1) _ (by omega) (by omega)
      · rw [hub, Int.zero_mul] at hum; omega
    · have e : dg c ≥ 10 := by unfold dg; rw [if_neg h]; split <;> omega
      rw [decide_eq_false h, oif_f, if_pos e]; rfl

theorem last_get {l : List UInt8} {c : UInt8} (h : l.getLast? = some c) : 0 < l.length ∧ l[l.length - 1]? = some c := by
  rw [List.getLast?_eq_getElem?] at h
  exact ⟨by have := (List.getElem?_eq_some_iff.1 h).1; omega, h⟩

theorem bl_init (s : ByteArray) : bl (s.extract 0 (s.size - 1)) = (bl s).dropLast := by
  rw [bl_ext, bl_len, List.drop_zero, Nat.sub_zero, List.dropLast_eq_take]

theorem not_zero {l : List UInt8} {c : UInt8} (h : l.getLast? = some c) (hc : c.toNat ≠ 48) : l ≠ [48] := fun h2 => by
  rw [h2] at h
  simp at h
  rw [← h] at hc; exact hc rfl

theorem bl_last (s : ByteArray) {c : UInt8} (h : (bl s).getLast? = some c) : bl (s.extract (s.size - 1) s.size) = [c] := by
  obtain ⟨h1, h2⟩ := last_get h
  rw [bl_ext, bl_len, List.drop_eq_getElem_cons (show (bl s).length - 1 < (bl s).length by omega), List.drop_eq_nil_of_le (by omega)]
  rw [List.getElem?_eq_getElem (by omega)] at h2
  injection h2 with h2
  rw [h2, show (bl s).length - ((bl s).length - 1) = 1 by omega]; rfl

/-- Hexadecimal texts. -/
def hxB (l : List UInt8) : Bool := decide (l.take 2 = [48, 120])

def nyV (l : List UInt8) : Int := if hxB l then rcV 16 65535 (l.drop 2) else nrV l

theorem nyV_in (l : List UInt8) : -1 ≤ nyV l ∧ nyV l ≤ 1000000000 := by
  unfold nyV
  split
  · have := rcV_in (base := 16) (most := 65535) (by omega) (by omega) (l.drop 2); omega
  · exact nrV_in l

theorem hxB_cons {l : List UInt8} (h : hxB l = true) : ∃ r, l = 48 :: 120 :: r := by
  simp only [hxB, decide_eq_true_eq] at h
  match l, h with
  | a :: b :: r, h =>
    simp only [List.take_succ_cons, List.take_zero, List.cons.injEq, and_true] at h
    exact ⟨r, by rw [h.1, h.2]⟩

theorem hx_two {s : ByteArray} (h : ¬ ((s.size : Nat) : Int) ≥ 2) : hxB (bl s) = false := by
  cases hb : hxB (bl s) with
  | false => rfl
  | true =>
    obtain ⟨r, hr⟩ := hxB_cons hb
    rw [bl_len, hr] at h
    simp at h; omega

theorem hx_ext (s : ByteArray) : ((s.extract 0 2).toList == (⟨#[48, 120]⟩ : ByteArray).toList) = hxB (bl s) := by
  rw [bl_eq, bl_ext, bl_lit [48, 120], List.drop_zero]; rfl

theorem shl_or {n e : Int} (h0 : 0 ≤ n) (h1 : n ≤ 1099511627775) (h2 : 0 ≤ e) (h3 : e < 16) : IntKind.i64.wrap ((BitVec.ofInt IntKind.i64.bits (IntKind.i64.wrap (n * 2 ^ (min (4 : Int).toNat IntKind.i64.bits))) ||| BitVec.ofInt IntKind.i64.bits e).toNat : Int) = n * 16 + e := by
  obtain ⟨n, rfl⟩ := Int.eq_ofNat_of_zero_le h0
  obtain ⟨e, rfl⟩ := Int.eq_ofNat_of_zero_le h2
  have e1 : (2 : Int) ^ (min (4 : Int).toNat IntKind.i64.bits) = 16 := rfl
  rw [e1, wr (n := (n : Int) * 16) (by omega) (by omega)]
  have e2 : (n : Int) * 16 = ((n * 16 : Nat) : Int) := by push_cast; rfl
  rw [e2, BitVec.ofInt_natCast, BitVec.ofInt_natCast, BitVec.toNat_or, BitVec.toNat_ofNat, BitVec.toNat_ofNat]
  have e3 : (2 : Nat) ^ IntKind.i64.bits = 18446744073709551616 := rfl
  rw [e3, Nat.mod_eq_of_lt (by omega), Nat.mod_eq_of_lt (by omega)]
  have e4 := Nat.two_pow_add_eq_or_of_lt (i := 4) (b := e) (by omega) n
  rw [show n * 16 = 2 ^ 4 * n by omega, ← e4, wr (by omega) (by omega)]; omega

theorem rh_range : ∀ (l : List UInt8) (i : Nat) (t : Int), 0 ≤ t → t ≤ 65535 →
    rangeR (fun (x : UInt8) _ (t : Int) k => oif (decide ((if dg x ≥ 16 then -1 else dg x) < 0)) (some ((0 : Int), false)) (oif (decide (IntKind.i64.wrap ((BitVec.ofInt IntKind.i64.bits (IntKind.i64.wrap (t * 2 ^ (min (4 : Int).toNat IntKind.i64.bits))) ||| BitVec.ofInt IntKind.i64.bits (if dg x ≥ 16 then -1 else dg x)).toNat : Int) > 65535)) (some (0, false)) (k (IntKind.i64.wrap ((BitVec.ofInt IntKind.i64.bits (IntKind.i64.wrap (t * 2 ^ (min (4 : Int).toNat IntKind.i64.bits))) ||| BitVec.ofInt IntKind.i64.bits (if dg x ≥ 16 then -1 else dg x)).toNat : Int))))) (fun t => some (t, true)) l i t = some (toR (rdL 16 65535 t l))
  | [], i, t, h0, h1 => by
    simp only [rangeR, rdL]; unfold toR; rw [if_neg (by omega)]
  | c :: r, i, t, h0, h1 => by
    simp only [rangeR, rdL]
    have hd := dg_in c
    by_cases h : dg c ≥ 16
    · rw [if_pos h, if_pos h]; rfl
    · rw [if_neg h, if_neg h, decide_eq_false (by omega), oif_f, shl_or h0 (by omega) hd.1 (by omega)]
      by_cases h2 : t * 16 + dg c > 65535
      · rw [decide_eq_true h2, oif_t, if_pos h2]; rfl
      · rw [decide_eq_false h2, oif_f, if_neg h2]
        exact rh_range r (i + 1) _ (by omega) (by omega)

def sgI (x y : Int) : Int := if x < y then -1 else if x > y then 1 else 0

def ctV (a b : List UInt8) : Int × Bool := if nyV a < 0 ∨ nyV b < 0 then (0, false) else (sgI (nyV a) (nyV b), true)

theorem sgI_flip (x y : Int) : sgI y x = 0 - sgI x y := by
  unfold sgI; (repeat' split) <;> omega

theorem orI {a b : Int} (h1 : 0 ≤ a) (h2 : a < 1099511627776) (h3 : 0 ≤ b) (h4 : b < 256) : IntKind.i64.wrap ((BitVec.ofInt IntKind.i64.bits (IntKind.i64.wrap (a * 2 ^ (min (8 : Int).toNat IntKind.i64.bits))) ||| BitVec.ofInt IntKind.i64.bits (IntKind.i64.wrap b)).toNat : Int) = a * 256 + b := by
  have e0 : ((2 : Int) ^ (min (8 : Int).toNat IntKind.i64.bits)) = 256 := by decide
  rw [e0, wr (n := a * 256) (by omega) (by omega), wr (n := b) (by omega) (by omega)]
  obtain ⟨x, rfl⟩ := Int.eq_ofNat_of_zero_le h1
  obtain ⟨y, rfl⟩ := Int.eq_ofNat_of_zero_le h3
  have hb : IntKind.i64.bits = 64 := rfl
  have e1 : (BitVec.ofInt IntKind.i64.bits ((x : Int) * 256)).toNat = 2 ^ 8 * x := by
    rw [hb, BitVec.toNat_ofInt]; omega
  have e2 : (BitVec.ofInt IntKind.i64.bits (y : Int)).toNat = y := by
    rw [hb, BitVec.toNat_ofInt]; omega
  rw [BitVec.toNat_or, e1, e2, ← Nat.two_pow_add_eq_or_of_lt (show y < 2 ^ 8 by omega) x]
  rw [wr (by omega) (by omega)]; omega

theorem shl8 {a : Int} (h1 : 0 ≤ a) (h2 : a < 256) : IntKind.i64.wrap (IntKind.i64.wrap a * 2 ^ (min (8 : Int).toNat IntKind.i64.bits)) = a * 256 := by
  have e0 : ((2 : Int) ^ (min (8 : Int).toNat IntKind.i64.bits)) = 256 := by decide
  rw [e0, wr (n := a) (by omega) (by omega), wr (by omega) (by omega)]

def wdOk (w : Int) : Bool := (w == 1) || ((w == 2) || (w == 4))

theorem wdOk_in {w : Int} (h : wdOk w = true) : w = 1 ∨ w = 2 ∨ w = 4 := by simpa [wdOk] using h

/-- The lowest bytes of a number. -/
def digs : Int → Nat → List Int
  | _, 0 => []
  | n, k + 1 => n % 256 :: digs (n / 256) k

def topV (w : Int) : Int := if w = 1 then 256 else if w = 2 then 65536 else 4294967296

def wlV (n w : Int) : List Int × Bool := if wdOk w && decide (0 ≤ n ∧ n < topV w) then (digs n w.toNat, true) else ([], false)

theorem byteAt {n : Int} {i : Nat} (h : i < 4) : IntKind.u8.wrap (n.fdiv (2 ^ (min (IntKind.i64.wrap ((8 : Int) * (i : Int))).toNat IntKind.i64.bits))) = n / (256 ^ i) % 256 := by
  have hb : IntKind.i64.bits = 64 := rfl
  rw [wr (by omega) (by omega), hb, Int.fdiv_eq_ediv_of_nonneg _ (Int.le_of_lt (Int.pow_pos (by omega))), IntKind.wrap_u8]
  rcases (show i = 0 ∨ i = 1 ∨ i = 2 ∨ i = 3 by omega) with rfl | rfl | rfl | rfl <;> rfl

/-- The number that lies in so many bytes, the highest one first, behind what is known. -/
def rdV (l : List Int) (at' : Nat) : Nat → Int → Int
  | 0, a => a
  | k + 1, a => rdV l at' k (a * 256 + l.getD (at' + k) 0)

def rlV (l : List Int) (n w : Int) : Int × Bool := if decide (((l.length : Nat) : Int) ≤ 4000) && (wdOk w && decide (0 ≤ n ∧ n ≤ ((l.length : Nat) : Int) - w)) then (rdV l n.toNat w.toNat 0, true) else (0, false)

def bnd : Nat → Int
  | 0 => 4294967296
  | 1 => 16777216
  | 2 => 65536
  | 3 => 256
  | _ => 1

theorem bnd_step {k : Nat} {a b : Int} (hk : k < 4) (h : a < bnd (k + 1)) (h0 : 0 ≤ a) (h1 : b < 256) : a * 256 + b < bnd k ∧ a < 1099511627776 := by
  rcases (show k = 0 ∨ k = 1 ∨ k = 2 ∨ k = 3 by omega) with rfl | rfl | rfl | rfl <;> simp only [bnd] at h ⊢ <;> omega

theorem byte_get {l : List Int} (h : Bytes l) {i : Nat} (hi : i < l.length) : l[i]? = some (l.getD i 0) ∧ 0 ≤ l.getD i 0 ∧ l.getD i 0 < 256 := by
  have e : l.getD i 0 = l[i] := by simp [List.getD, List.getElem?_eq_getElem hi]
  rw [e]; exact ⟨List.getElem?_eq_getElem hi, h _ (List.getElem_mem hi)⟩

/-- The least multiple. -/
def alV (n b : Int) : Int := (n + b - 1) / b * b

theorem alV_in {n b : Int} (h0 : 0 ≤ n) (h1 : 1 ≤ b) : n ≤ alV n b ∧ alV n b < n + b ∧ alV n b % b = 0 ∧ 0 ≤ alV n b := by
  unfold alV
  have e1 := Int.mul_ediv_add_emod (n + b - 1) b
  have e2 := Int.emod_nonneg (n + b - 1) (by omega : b ≠ 0)
  have e3 := Int.emod_lt_of_pos (n + b - 1) (by omega : 0 < b)
  have e4 : (n + b - 1) / b * b = b * ((n + b - 1) / b) := Int.mul_comm _ _
  refine ⟨by omega, by omega, Int.mul_emod_left _ _, ?_⟩
  omega

theorem alV_wr {n b : Int} (h0 : 0 ≤ n) (h9 : n ≤ 1000000) (h1 : 1 ≤ b) (h2 : b ≤ 16) : IntKind.i64.wrap ((IntKind.i64.wrap ((IntKind.i64.wrap ((IntKind.i64.wrap (n + b)) - 1)).tdiv b)) * b) = alV n b ∧ (b == 0) = false := by
  obtain ⟨a1, a2, a3, a4⟩ := alV_in h0 h1
  have e1 : 0 ≤ (n + b - 1) / b := Int.ediv_nonneg (by omega) (by omega)
  have e2 : (n + b - 1) / b ≤ n + b - 1 := Int.ediv_le_self _ (by omega)
  refine ⟨?_, by simp; omega⟩
  rw [wr (n := n + b) (by omega) (by omega), wr (n := n + b - 1) (by omega) (by omega), Int.tdiv_eq_ediv_of_nonneg (by omega), wr (n := (n + b - 1) / b) (by omega) (by omega)]
  exact wr (n := alV n b) (by omega) (by omega)

def auV (n b : Int) : Int × Bool := if decide (0 ≤ n ∧ n ≤ 1000000) && decide (1 ≤ b ∧ b ≤ 16) then (alV n b, true) else (0, false)

def padL (l : List Int) (b : Int) : List Int := l ++ List.replicate ((alV ((l.length : Nat) : Int) b).toNat - l.length) 0

def pdV (l : List Int) (b : Int) : List Int × Bool := if decide (((l.length : Nat) : Int) ≤ 4000) && (decide (1 ≤ b ∧ b ≤ 16) && decide (alV ((l.length : Nat) : Int) b ≤ 4000)) then (padL l b, true) else ([], false)

/-- One more word of a checksum. -/
def csAdd (a w : Int) : Int := if a + w > 65535 then a + w - 65535 else a + w

def csV : Int → List Int → Int
  | a, [] => a
  | a, [x] => csAdd a (x * 256)
  | a, x :: y :: r => csV (csAdd a (x * 256 + y)) r

theorem csAdd_in {a w : Int} (h0 : 0 ≤ a) (h1 : a ≤ 65535) (h2 : 0 ≤ w) (h3 : w ≤ 65535) : 0 ≤ csAdd a w ∧ csAdd a w ≤ 65535 := by
  unfold csAdd; split <;> omega

theorem csV_zeros : ∀ (k : Nat) {a : Int}, a ≤ 65535 → csV a (List.replicate k 0) = a
  | 0, a, _ => rfl
  | 1, a, h => by simp [csV, csAdd]; omega
  | k + 2, a, h => by
    have : csAdd a (0 * 256 + 0) = a := by unfold csAdd; split <;> omega
    simp only [List.replicate_succ, csV]
    rw [this]; exact csV_zeros k h

theorem csV_pad : ∀ (l : List Int) (k : Nat) {a : Int}, Bytes l → 0 ≤ a → a ≤ 65535 → csV a (l ++ List.replicate k 0) = csV a l
  | [], k, a, _, _, h => by simp [csV, csV_zeros k h]
  | [x], k, a, hb, h0, h1 => by
    have hx := hb x (by simp)
    cases k with
    | zero => simp
    | succ k =>
      simp only [List.replicate_succ, List.cons_append, List.nil_append, csV]
      rw [Int.add_zero]
      exact csV_zeros k (csAdd_in h0 h1 (by omega) (by omega)).2
  | x :: y :: r, k, a, hb, h0, h1 => by
    have hx := hb x (by simp); have hy := hb y (by simp)
    obtain ⟨c1, c2⟩ := csAdd_in h0 h1 (w := x * 256 + y) (by omega) (by omega)
    simp only [List.cons_append, csV]
    exact csV_pad r k (fun z hz => hb z (by simp [hz])) c1 c2

/-- A loop that leaves at the first that is not. -/
theorem rangeR_first {α τ β : Type} {p : α → Bool} {no : Nat → τ → Option β} {fin : τ → Option β} : ∀ (l : List α) (i : Nat) (t : τ), (∀ t, fin t = no (i + l.length) t) →
    rangeR (fun x i t k => oif (p x) (k t) (no i t)) fin l i t = no (i + (l.takeWhile p).length) t
  | [], i, t, h => by simp only [rangeR]; rw [h]; rfl
  | x :: r, i, t, h => by
    simp only [rangeR]
    cases hp : p x with
    | false => rw [oif_f]; simp [hp]
    | true =>
      rw [oif_t, rangeR_first r (i + 1) t (fun t => by rw [h t]; congr 1; simp; omega)]
      simp [hp]; congr 1; omega

theorem tw_le {α : Type} {p : α → Bool} (l : List α) : (l.takeWhile p).length ≤ l.length := by
  have := (List.takeWhile_sublist p (l := l)).length_le; exact this

/-- Plain bytes. -/
def pl (c : UInt8) : Bool := decide ((32 ≤ c.toNat ∧ c.toNat ≤ 126) ∨ c.toNat = 9 ∨ c.toNat = 10)

theorem pl_if (c : UInt8) : oif (decide ((c.toNat : Int) ≥ 32)) (oif (decide ((c.toNat : Int) ≤ 126)) (some true) (oif ((c.toNat : Int) == 9) (some true) (some ((c.toNat : Int) == 10)))) (oif ((c.toNat : Int) == 9) (some true) (some ((c.toNat : Int) == 10))) = some (pl c) := by
  simp only [oif_ss]; congr 1
  rw [Bool.eq_iff_iff]; unfold pl
  simp only [decide_eq_true_eq, beq_iff_eq]
  (repeat' split) <;> simp <;> omega

def fbN (s : ByteArray) : Nat := ((bl s).takeWhile pl).length

def fbV (s : ByteArray) : Int × Bool := if s.size ≤ 4000 then ((fbN s : Int), true) else (0, false)

theorem tw_take {p : UInt8 → Bool} : ∀ (l : List UInt8), (l.take (l.takeWhile p).length).takeWhile p = l.takeWhile p
  | [] => rfl
  | x :: r => by
    cases h : p x with
    | false => simp [h]
    | true => simp [h, tw_take r]

theorem tw_next {p : UInt8 → Bool} : ∀ (l : List UInt8) {c : UInt8}, l[(l.takeWhile p).length]? = some c → p c = false
  | [], c, h => by simp at h
  | x :: r, c, h => by
    cases hp : p x with
    | false => simp [hp] at h; rw [← h]; exact hp
    | true => simp [hp] at h; exact tw_next r h

/-- Padding. -/
def ipV (l : List Int) (a b : Int) : Bool × Bool := if l.length ≤ 4000 ∧ 0 ≤ a ∧ a ≤ b ∧ b ≤ (l.length : Int) then (((l.take b.toNat).drop a.toNat).all (fun x => x == 0), true) else (false, false)

/-- The sum of numbers of two bytes, byte by byte. -/
def ckS (par : Bool) (s b : Int) : Int := csAdd s (if par then b * 256 else b)

def ckB : Bool → Int → List Int → Int
  | _, s, [] => s
  | p, s, b :: r => ckB (!p) (ckS p s b) r

theorem ckB_eq : ∀ (l : List Int) {s : Int}, Bytes l → 0 ≤ s → s ≤ 65535 → ckB true s l = csV s l
  | [], s, _, _, _ => rfl
  | [a], s, h, h0, h1 => by
    simp [ckB, ckS, csV]
  | a :: b :: r, s, h, h0, h1 => by
    have ha := h a (by simp)
    have hb := h b (by simp)
    have e : ckS false (ckS true s a) b = csAdd s (a * 256 + b) := by
      simp only [ckS, if_true, Bool.false_eq_true, if_false, csAdd]
      (repeat' split) <;> omega
    have hin := csAdd_in h0 h1 (show 0 ≤ a * 256 + b by omega) (show a * 256 + b ≤ 65535 by omega)
    simp only [ckB, csV, Bool.not_true, Bool.not_false]
    rw [e]
    exact ckB_eq r (fun x hx => h x (by simp [hx])) hin.1 hin.2

theorem ck_fold {n : Int} (h0 : 0 ≤ n) (h1 : n ≤ 130815) : IntKind.i64.wrap (n.tmod 65536 + IntKind.i64.wrap (n.tdiv 65536)) = if n > 65535 then n - 65535 else n := by
  rw [Int.tmod_eq_emod_of_nonneg h0, Int.tdiv_eq_ediv_of_nonneg h0, wr (n := n / 65536) (by omega) (by omega), wr (by omega) (by omega)]
  split <;> omega

theorem ck_range {β : Type} {fin : Int → Option β} : ∀ (l : List Int) (i : Nat) (p : Bool) (s : Int), Bytes l → 0 ≤ s → s ≤ 65535 → (p = true ↔ i % 2 = 0) →
    rangeR (fun x i t k => oif (((i : Int).tmod 2) == 0) (k (IntKind.i64.wrap ((IntKind.i64.wrap (t + IntKind.i64.wrap (IntKind.i64.wrap x * 256))).tmod 65536 + IntKind.i64.wrap ((IntKind.i64.wrap (t + IntKind.i64.wrap (IntKind.i64.wrap x * 256))).tdiv 65536)))) (k (IntKind.i64.wrap ((IntKind.i64.wrap (t + IntKind.i64.wrap x)).tmod 65536 + IntKind.i64.wrap ((IntKind.i64.wrap (t + IntKind.i64.wrap x)).tdiv 65536))))) fin l i s = fin (ckB p s l)
  | [], i, p, s, _, _, _, _ => rfl
  | b :: r, i, p, s, hb, h0, h1, hp => by
    have hx := hb b (by simp)
    simp only [rangeR, ckB]
    rw [wr (n := b) (by omega) (by omega), wr (n := b * 256) (by omega) (by omega), wr (n := s + b * 256) (by omega) (by omega), wr (n := s + b) (by omega) (by omega), ck_fold (n := s + b * 256) (by omega) (by omega), ck_fold (n := s + b) (by omega) (by omega)]
    have e1 : ((i : Int).tmod 2) = ((i % 2 : Nat) : Int) := rfl
    rw [e1]
    cases p with
    | true =>
      have : i % 2 = 0 := hp.1 rfl
      rw [this, show (((0 : Nat) : Int) == 0) = true from rfl, oif_t]
      have hin := csAdd_in h0 h1 (show 0 ≤ b * 256 by omega) (show b * 256 ≤ 65535 by omega)
      exact ck_range r (i + 1) false (ckS true s b) (fun x hx => hb x (by simp [hx])) hin.1 hin.2 (by simp; omega)
    | false =>
      have : i % 2 = 1 := by
        have : ¬ i % 2 = 0 := fun h => by have := hp.2 h; simp at this
        omega
      rw [this, show (((1 : Nat) : Int) == 0) = false from rfl, oif_f]
      have hin := csAdd_in h0 h1 (show 0 ≤ b by omega) (show b ≤ 65535 by omega)
      exact ck_range r (i + 1) true (ckS false s b) (fun x hx => hb x (by simp [hx])) hin.1 hin.2 (by simp; omega)

def ccV (l : List Int) : Int × Bool := if l.length ≤ 4000 then (IntKind.i64.wrap (65535 - csV 0 l), true) else (0, false)

/-- Runs of digits. -/
def isD (base : Int) (c : UInt8) : Bool := decide (dg c < base)

def rdB (base bound : Int) : Int → List UInt8 → Int
  | n, [] => n
  | n, c :: r => rdB base bound (if n ≤ bound then n * base + dg c else n) r

def rdF (base : Int) : Int → List UInt8 → Int
  | n, [] => n
  | n, c :: r => rdF base (n * base + dg c) r

theorem dgs_if {base : Int} (c : UInt8) : decide ((if dg c ≥ base then -1 else dg c) ≥ 0) = isD base c := by
  have := dg_in c
  unfold isD
  by_cases h : dg c ≥ base
  · rw [if_pos h, decide_eq_false (by omega), decide_eq_false (by omega)]
  · rw [if_neg h, decide_eq_true (by omega), decide_eq_true (by omega)]

theorem rdB_over {base bound : Int} : ∀ (l : List UInt8) {n : Int}, n > bound → rdB base bound n l = n
  | [], n, h => rfl
  | c :: r, n, h => by simp only [rdB]; rw [if_neg (by omega)]; exact rdB_over r h

theorem rdB_rdL {base bound : Int} (hb : 0 ≤ base) : ∀ (l : List UInt8) {n : Int}, (∀ c ∈ l, isD base c = true) → 0 ≤ n → n ≤ bound → (rdB base bound n l > bound ∧ rdL base bound n l = -1) ∨ (rdB base bound n l = rdL base bound n l ∧ 0 ≤ rdL base bound n l ∧ rdL base bound n l ≤ bound)
  | [], n, _, h0, h => .inr ⟨rfl, h0, h⟩
  | c :: r, n, hd, h0, h => by
    have hc := hd c (by simp)
    have hc2 := dg_in c
    simp only [isD, decide_eq_true_eq] at hc
    simp only [rdB, rdL]
    rw [if_pos h, if_neg (by omega)]
    have k0 : 0 ≤ n * base := Int.mul_nonneg h0 hb
    by_cases h2 : n * base + dg c > bound
    · rw [if_pos h2, rdB_over r h2]; exact .inl ⟨h2, rfl⟩
    · rw [if_neg h2]; exact rdB_rdL hb r (fun x hx => hd x (by simp [hx])) (by omega) (by omega)

theorem rdB_rdF {bound : Int} : ∀ (j : Nat) (l : List UInt8) {n : Int}, (∀ c ∈ l, isD 16 c = true) → 0 ≤ n → (n + 1) * 16 ^ l.length ≤ bound + 1 → rdB 16 bound n l = rdF 16 n l ∧ 0 ≤ rdF 16 n l ∧ rdF 16 n l ≤ bound
  | _, [], n, _, h0, h => by
    simp at h
    exact ⟨rfl, h0, by show n ≤ bound; omega⟩
  | j, c :: r, n, hd, h0, h => by
    have hc := hd c (by simp)
    have hc2 := dg_in c
    simp only [isD, decide_eq_true_eq] at hc
    simp only [rdB, rdF]
    have hp : (1 : Int) ≤ 16 ^ r.length := Int.pow_pos (by omega)
    rw [List.length_cons, Int.pow_succ] at h
    have e1 : (n + 1) * (16 ^ r.length * 16) = ((n + 1) * 16) * 16 ^ r.length := by rw [Int.mul_assoc, Int.mul_comm (16 ^ r.length) 16]
    rw [e1] at h
    have k1 : (n * 16 + dg c + 1) * 16 ^ r.length ≤ ((n + 1) * 16) * 16 ^ r.length := Int.mul_le_mul_of_nonneg_right (by omega) (by omega)
    have k2 : ((n + 1) * 16) * 1 ≤ ((n + 1) * 16) * 16 ^ r.length := Int.mul_le_mul_of_nonneg_left hp (by omega)
    rw [if_pos (by omega)]
    exact rdB_rdF j r (fun x hx => hd x (by simp [hx])) (by omega) (by omega)

theorem tw_all {p : UInt8 → Bool} (l : List UInt8) : ∀ c ∈ l.takeWhile p, p c = true := fun c hc => by
  have := List.all_takeWhile (p := p) (l := l)
  rw [List.all_eq_true] at this; exact this c hc

theorem sn_range {base bound : Int} {N : Nat} (hb : 1 ≤ base) (hb2 : base ≤ 16) (hq : bound ≤ 4294967295) : ∀ (l : List UInt8) (i : Nat) (t : Int), i + l.length = N → 0 ≤ t →
    rangeR (fun x i t k => oif (isD base x) (oif (decide (t ≤ bound)) (k (IntKind.i64.wrap (IntKind.i64.wrap (base * t) + (if dg x ≥ base then -1 else dg x)))) (k t)) (some (t, (i : Int)))) (fun t => some (t, (N : Int))) l i t = some (rdB base bound t (l.takeWhile (isD base)), ((i + (l.takeWhile (isD base)).length : Nat) : Int))
  | [], i, t, h, h0 => by
    simp at h; subst h; rfl
  | c :: r, i, t, h, h0 => by
    simp only [rangeR]
    have hd := dg_in c
    cases hp : isD base c with
    | false => rw [oif_f]; simp [hp, rdB]
    | true =>
      have hlt : dg c < base := by simpa [isD] using hp
      rw [oif_t, if_neg (by omega)]
      simp only [List.length_cons] at h
      simp only [List.takeWhile_cons, hp, if_true, rdB, List.length_cons]
      by_cases hle : t ≤ bound
      · have k1 : 0 ≤ base * t := Int.mul_nonneg (by omega) h0
        have k2 : base * t ≤ 16 * t := Int.mul_le_mul_of_nonneg_right hb2 h0
        rw [decide_eq_true hle, oif_t, if_pos hle, wr (n := base * t) (by omega) (by omega), wr (n := base * t + dg c) (by omega) (by omega), Int.mul_comm base t]
        rw [Int.mul_comm base t] at k1
        rw [sn_range hb hb2 hq r (i + 1) _ (by omega) (by omega)]
        congr 3; omega
      · rw [decide_eq_false hle, oif_f, if_neg hle, sn_range hb hb2 hq r (i + 1) _ (by omega) h0]
        congr 3; omega

/-- Decimal numbers in a text. -/
def dcW (s : ByteArray) (n : Nat) : List UInt8 := ((bl s).drop n).takeWhile (isD 10)

def dcOk (w : List UInt8) : Bool := decide (w ≠ [] ∧ ¬ (w.head? = some 48 ∧ 1 < w.length) ∧ rdL 10 1000000000 0 w ≠ -1)

def dcV (s : ByteArray) (a : Int) : Int × Int × Bool := if (decide (s.size ≤ 4000 ∧ 0 ≤ a ∧ a ≤ (s.size : Int)) && dcOk (dcW s a.toNat)) then (rdL 10 1000000000 0 (dcW s a.toNat), a + ((dcW s a.toNat).length : Int), true) else (0, 0, false)

theorem isD10 (c : UInt8) : decide (48 ≤ c.toNat ∧ c.toNat ≤ 57) = isD 10 c := by
  unfold isD dg
  by_cases h : 48 ≤ c.toNat ∧ c.toNat ≤ 57
  · rw [decide_eq_true h, if_pos h, decide_eq_true (by omega)]
  · rw [decide_eq_false h, if_neg h, decide_eq_false (by split <;> omega)]

def dmR (z : Bool) (n i : Nat) (v : Int) (k : Nat) : Int × Int × Bool := if (z && decide (i + k > n + 1)) || decide (v = -1) then (0, 0, false) else (v, ((i + k : Nat) : Int), true)

theorem dmR_end {z : Bool} {n i : Nat} {t : Int} (h2 : z = true → i ≤ n + 1) (h0 : 0 ≤ t) : dmR z n i t 0 = (t, (i : Int), true) := by
  unfold dmR
  rw [decide_eq_false (show ¬ t = -1 by omega), Bool.or_false]
  cases z with
  | false => rfl
  | true =>
    have := h2 rfl
    rw [decide_eq_false (show ¬ (i + 0 > n + 1) by omega)]; rfl

theorem dm_range {z : Bool} {n N : Nat} : ∀ (l : List UInt8) (i : Nat) (t : Int), i + l.length = N → n ≤ i → (z = true → i ≤ n + 1) → 0 ≤ t → t ≤ 1000000000 →
    rangeR (fun (x : UInt8) i (t : Int) k => oif (isD 10 x) (oif (z && decide ((i : Int) > (n : Int))) (some ((0 : Int), (0 : Int), false)) (oif (decide (IntKind.i64.wrap (IntKind.i64.wrap (10 * t) + IntKind.i64.wrap (IntKind.u8.wrap ((x.toNat : Int) - 48))) > 1000000000)) (some (0, 0, false)) (k (IntKind.i64.wrap (IntKind.i64.wrap (10 * t) + IntKind.i64.wrap (IntKind.u8.wrap ((x.toNat : Int) - 48))))))) (some (t, (i : Int), true))) (fun t => some (t, (N : Int), true)) l i t
      = some (dmR z n i (rdL 10 1000000000 t (l.takeWhile (isD 10))) (l.takeWhile (isD 10)).length)
  | [], i, t, h, h1, h2, h0, h3 => by
    simp at h; subst h
    show some (t, (i : Int), true) = some (dmR z n i t 0)
    rw [dmR_end h2 h0]
  | c :: r, i, t, h, h1, h2, h0, h3 => by
    simp only [rangeR]
    simp only [List.length_cons] at h
    have hc2 := c.toNat_lt
    cases hp : isD 10 c with
    | false =>
      rw [oif_f, List.takeWhile_cons, hp]
      show some (t, (i : Int), true) = some (dmR z n i t 0)
      rw [dmR_end h2 h0]
    | true =>
      have hdc : 48 ≤ c.toNat ∧ c.toNat ≤ 57 := by rw [← isD10] at hp; simpa using hp
      have hlt : dg c < 10 := by simpa [isD] using hp
      have e : dg c = (c.toNat : Int) - 48 := by unfold dg; rw [if_pos hdc]
      have hu8 : IntKind.u8.wrap ((c.toNat : Int) - 48) = (c.toNat : Int) - 48 := by
        show ((c.toNat : Int) - 48) % 256 = _
        omega
      have hd := dg_in c
      have hw : (c :: r).takeWhile (isD 10) = c :: r.takeWhile (isD 10) := by rw [List.takeWhile_cons, hp]; rfl
      have hv : rdL 10 1000000000 t (c :: r.takeWhile (isD 10)) = if t * 10 + dg c > 1000000000 then -1 else rdL 10 1000000000 (t * 10 + dg c) (r.takeWhile (isD 10)) := by
        simp only [rdL]; rw [if_neg (by omega)]
      rw [oif_t, hu8, wr (n := (c.toNat : Int) - 48) (by omega) (by omega), wr (n := 10 * t) (by omega) (by omega), ← e, Int.mul_comm 10 t, wr (n := t * 10 + dg c) (by omega) (by omega), hw, hv, List.length_cons]
      by_cases hz : (z && decide ((i : Int) > (n : Int))) = true
      · rw [hz, oif_t]
        simp only [Bool.and_eq_true, decide_eq_true_eq] at hz
        unfold dmR
        rw [hz.1, decide_eq_true (show i + ((r.takeWhile (isD 10)).length + 1) > n + 1 by omega)]; rfl
      · have hz' : (z && decide ((i : Int) > (n : Int))) = false := by simpa using hz
        rw [hz', oif_f]
        by_cases hov : t * 10 + dg c > 1000000000
        · rw [decide_eq_true hov, oif_t, if_pos hov]
          unfold dmR
          rw [decide_eq_true (show (-1 : Int) = -1 from rfl), Bool.or_true]; rfl
        · rw [decide_eq_false hov, oif_f, if_neg hov, dm_range r (i + 1) _ (by omega) (by omega) (fun hzt => by
            rw [hzt, Bool.true_and, decide_eq_false_iff_not] at hz'; omega) (by omega) (by omega)]
          unfold dmR
          rw [show i + 1 + (r.takeWhile (isD 10)).length = i + ((r.takeWhile (isD 10)).length + 1) by omega]

theorem drop_head {l : List UInt8} {n : Nat} (h : n < l.length) {p : UInt8 → Bool} (hp : p l[n] = true) : ∃ r, (l.drop n).takeWhile p = l[n] :: r := by
  rw [List.drop_eq_getElem_cons h, List.takeWhile_cons, hp]; exact ⟨_, rfl⟩

theorem drop_none {l : List UInt8} {n : Nat} (h : n < l.length) {p : UInt8 → Bool} (hp : p l[n] = false) : (l.drop n).takeWhile p = [] := by
  rw [List.drop_eq_getElem_cons h, List.takeWhile_cons, hp]; rfl

theorem tw_cons {l : List UInt8} {n : Nat} {p : UInt8 → Bool} (h : (l.drop n).takeWhile p ≠ []) : ∃ (hn : n < l.length) (r : List UInt8), (l.drop n).takeWhile p = l[n] :: r := by
  rcases Nat.lt_or_ge n l.length with hn | hn
  · cases hp : p l[n] with
    | true => obtain ⟨r, hr⟩ := drop_head hn hp; exact ⟨hn, r, hr⟩
    | false => exact absurd (drop_none hn hp) h
  · rw [List.drop_eq_nil_of_le hn] at h; simp at h

theorem dcV_in {s : ByteArray} {a : Int} (h : (dcV s a).2.2 = true) : (dcV s a).2.1 > a ∧ (dcV s a).1 ≥ 0 := by
  unfold dcV at h ⊢
  cases hc : (decide (s.size ≤ 4000 ∧ 0 ≤ a ∧ a ≤ (s.size : Int)) && dcOk (dcW s a.toNat)) with
  | false => rw [hc] at h; simp at h
  | true =>
    simp only [Bool.and_eq_true, dcOk, decide_eq_true_eq] at hc
    have hge := rdL_in (base := 10) (most := 1000000000) (by omega) (dcW s a.toNat) (n := 0) (by omega) (by omega)
    have hlen : 0 < (dcW s a.toNat).length := List.length_pos_iff.2 hc.2.1
    simp only [if_true]
    rcases hge with k | k
    · exact absurd k hc.2.2.2
    · omega

/-- Hexadecimal numbers in a text. -/
def hxW (s : ByteArray) (n : Nat) : List UInt8 := ((bl s).drop (n + 2)).takeWhile (isD 16)

def hxO (s : ByteArray) (a : Int) : Bool := decide (s.size ≤ 4000 ∧ 0 ≤ a ∧ a + 2 ≤ (s.size : Int)) && (decide (((bl s).drop a.toNat).take 2 = [48, 120]) && decide (1 ≤ (hxW s a.toNat).length ∧ (hxW s a.toNat).length ≤ 8))

def hxV (s : ByteArray) (a : Int) : Int × Int × Bool := if hxO s a then (rdF 16 0 (hxW s a.toNat), a + 2 + ((hxW s a.toNat).length : Int), true) else (0, 0, false)

def hmR (n i : Nat) (v : Int) (k : Nat) : Int × Int × Bool := if i + k > n + 10 ∨ i + k = n + 2 then (0, 0, false) else (v, ((i + k : Nat) : Int), true)

theorem hm_end {n i : Nat} {t : Int} (h : i ≤ n + 10) : oif ((i : Int) == ((n + 2 : Nat) : Int)) (some ((0 : Int), (0 : Int), false)) (some (t, (i : Int), true)) = some (hmR n i t 0) := by
  unfold hmR
  by_cases h2 : i = n + 2
  · rw [show ((i : Int) == ((n + 2 : Nat) : Int)) = true by rw [h2]; simp, oif_t, if_pos (by omega)]
  · rw [show ((i : Int) == ((n + 2 : Nat) : Int)) = false by simp; omega, oif_f, if_neg (by omega)]; rfl

theorem hm_range {n N : Nat} : ∀ (l : List UInt8) (i r : Nat) (t : Int), i + l.length = N → i + r = n + 10 → 0 ≤ t → (t + 1) * 16 ^ r ≤ 4294967296 →
    rangeR (fun (x : UInt8) i (t : Int) k => oif (isD 16 x) (oif ((i : Int) == ((n + 10 : Nat) : Int)) (some ((0 : Int), (0 : Int), false)) (k (IntKind.i64.wrap ((BitVec.ofInt IntKind.i64.bits (IntKind.i64.wrap (t * 2 ^ (min (4 : Int).toNat IntKind.i64.bits))) ||| BitVec.ofInt IntKind.i64.bits (if dg x ≥ 16 then -1 else dg x)).toNat : Int)))) (oif ((i : Int) == ((n + 2 : Nat) : Int)) (some (0, 0, false)) (some (t, (i : Int), true)))) (fun t => oif ((N : Int) == ((n + 2 : Nat) : Int)) (some (0, 0, false)) (some (t, (N : Int), true))) l i t
      = some (hmR n i (rdF 16 t (l.takeWhile (isD 16))) (l.takeWhile (isD 16)).length)
  | [], i, r, t, h, h1, h0, h2 => by
    simp at h; subst h
    exact hm_end (by omega)
  | c :: l, i, r, t, h, h1, h0, h2 => by
    simp only [rangeR]
    simp only [List.length_cons] at h
    have hd := dg_in c
    cases hp : isD 16 c with
    | false =>
      rw [oif_f, List.takeWhile_cons, hp]
      exact hm_end (by omega)
    | true =>
      have hlt : dg c < 16 := by simpa [isD] using hp
      have hw : (c :: l).takeWhile (isD 16) = c :: l.takeWhile (isD 16) := by rw [List.takeWhile_cons, hp]; rfl
      rw [oif_t, hw, List.length_cons]
      simp only [rdF]
      cases r with
      | zero =>
        rw [show ((i : Int) == ((n + 10 : Nat) : Int)) = true by simp; omega, oif_t]
        unfold hmR
        rw [if_pos (by omega)]
      | succ r =>
        have hp1 : (1 : Int) ≤ 16 ^ (r + 1) := Int.pow_pos (by omega)
        have k0 : (t + 1) * 1 ≤ (t + 1) * 16 ^ (r + 1) := Int.mul_le_mul_of_nonneg_left hp1 (by omega)
        rw [show ((i : Int) == ((n + 10 : Nat) : Int)) = false by simp; omega, oif_f, if_neg (by omega), shl_or h0 (by omega) hd.1 hlt]
        have hp2 : (1 : Int) ≤ 16 ^ r := Int.pow_pos (by omega)
        have e1 : (t + 1) * 16 ^ (r + 1) = ((t + 1) * 16) * 16 ^ r := by rw [Int.pow_succ, Int.mul_assoc, Int.mul_comm (16 ^ r) 16]
        have k1 : (t * 16 + dg c + 1) * 16 ^ r ≤ ((t + 1) * 16) * 16 ^ r := Int.mul_le_mul_of_nonneg_right (by omega) (by omega)
        rw [hm_range l (i + 1) r _ (by omega) (by omega) (by omega) (by omega)]
        unfold hmR
        rw [show i + 1 + (l.takeWhile (isD 16)).length = i + ((l.takeWhile (isD 16)).length + 1) by omega]

theorem take2 {l : List UInt8} {n : Nat} (h : n + 1 < l.length) : (l.drop n).take 2 = [l[n], l[n + 1]] := by
  rw [List.drop_eq_getElem_cons (show n < l.length by omega), List.drop_eq_getElem_cons h]; rfl

/-- Hexadecimal digits. -/
def hdg (k : Nat) : UInt8 := if k < 10 then UInt8.ofNat (48 + k) else UInt8.ofNat (87 + k)

def hxT : List UInt8 := [48, 49, 50, 51, 52, 53, 54, 55, 56, 57, 97, 98, 99, 100, 101, 102]

theorem hxT_get {k : Nat} (h : k < 16) : hxT[k]? = some (hdg k) := by
  rcases (show k = 0 ∨ k = 1 ∨ k = 2 ∨ k = 3 ∨ k = 4 ∨ k = 5 ∨ k = 6 ∨ k = 7 ∨ k = 8 ∨ k = 9 ∨ k = 10 ∨ k = 11 ∨ k = 12 ∨ k = 13 ∨ k = 14 ∨ k = 15 by omega) with rfl | rfl | rfl | rfl | rfl | rfl | rfl | rfl | rfl | rfl | rfl | rfl | rfl | rfl | rfl | rfl <;> rfl

theorem dg_hdg {k : Nat} (h : k < 16) : dg (hdg k) = (k : Int) := by
  rcases (show k = 0 ∨ k = 1 ∨ k = 2 ∨ k = 3 ∨ k = 4 ∨ k = 5 ∨ k = 6 ∨ k = 7 ∨ k = 8 ∨ k = 9 ∨ k = 10 ∨ k = 11 ∨ k = 12 ∨ k = 13 ∨ k = 14 ∨ k = 15 by omega) with rfl | rfl | rfl | rfl | rfl | rfl | rfl | rfl | rfl | rfl | rfl | rfl | rfl | rfl | rfl | rfl <;> rfl

theorem hdg_dg {c : UInt8} (h : dg c < 16) : hdg (dg c).toNat = c := by
  have hc := c.toNat_lt
  rw [← UInt8.toNat_inj]
  unfold dg at h ⊢
  unfold hdg
  by_cases h1 : 48 ≤ c.toNat ∧ c.toNat ≤ 57
  · rw [if_pos h1, if_pos (by omega), UInt8.toNat_ofNat']; omega
  · rw [if_neg h1] at h ⊢
    by_cases h2 : 97 ≤ c.toNat ∧ c.toNat ≤ 102
    · rw [if_pos h2, if_neg (by omega), UInt8.toNat_ofNat']; omega
    · rw [if_neg h2] at h; omega

def hxS : ByteArray := ⟨#[48, 49, 50, 51, 52, 53, 54, 55, 56, 57, 97, 98, 99, 100, 101, 102]⟩

theorem hxS_bl : bl hxS = hxT := rfl

theorem hxS_size : hxS.size = 16 := rfl

theorem hxS_ext {k : Nat} (h : k < 16) : bl (hxS.extract k (k + 1)) = [hdg k] := by
  have hg := hxT_get h
  have hlt : k < hxT.length := h
  rw [bl_ext, hxS_bl, List.drop_eq_getElem_cons hlt, show k + 1 - k = 1 by omega]
  rw [List.getElem?_eq_getElem hlt] at hg
  injection hg with hg
  rw [hg]; rfl

theorem hxS_len {k : Nat} (h : k < 16) : (hxS.extract k (k + 1)).size = 1 := by rw [bl_len, hxS_ext h]; rfl

def ofL (l : List UInt8) : ByteArray := ⟨l.toArray⟩

theorem bl_ofL (l : List UInt8) : bl (ofL l) = l := by simp [bl, ofL]

theorem ofL_bl (s : ByteArray) : ofL (bl s) = s := bl_inj.1 (bl_ofL _)

def toHx : Nat → Nat → List UInt8 → List UInt8
  | 0, n, acc => hdg n :: acc
  | f + 1, n, acc => if n < 16 then hdg n :: acc else toHx f (n / 16) (hdg (n % 16) :: acc)

theorem toHx_len : ∀ (f n : Nat) (acc : List UInt8), 1 + acc.length ≤ (toHx f n acc).length ∧ (toHx f n acc).length ≤ f + 1 + acc.length
  | 0, n, acc => by simp [toHx]; omega
  | f + 1, n, acc => by
    simp only [toHx]
    split
    · simp; omega
    · have := toHx_len f (n / 16) (hdg (n % 16) :: acc)
      simp only [List.length_cons] at this; omega

theorem toHx_val : ∀ (f n : Nat) (acc : List UInt8), n < 16 ^ (f + 1) → rdF 16 0 (toHx f n acc) = rdF 16 (n : Int) acc
  | 0, n, acc, h => by
    simp only [toHx, rdF]
    rw [dg_hdg (by omega)]; congr 1; omega
  | f + 1, n, acc, h => by
    simp only [toHx]
    split
    · next h2 => simp only [rdF]; rw [dg_hdg h2]; congr 1; omega
    · next h2 =>
      rw [Nat.pow_succ] at h
      rw [toHx_val f (n / 16) _ (by omega)]
      simp only [rdF]
      rw [dg_hdg (by omega)]; congr 1; omega

theorem toHx_dig : ∀ (f n : Nat) (acc : List UInt8), n < 16 ^ (f + 1) → (∀ c ∈ acc, isD 16 c = true) → ∀ c ∈ toHx f n acc, isD 16 c = true
  | 0, n, acc, h, ha, c, hc => by
    simp only [toHx, List.mem_cons] at hc
    rcases hc with rfl | hc
    · unfold isD; rw [dg_hdg (by omega), decide_eq_true_eq]; omega
    · exact ha c hc
  | f + 1, n, acc, h, ha, c, hc => by
    simp only [toHx] at hc
    rw [Nat.pow_succ] at h
    split at hc
    · next h2 =>
      simp only [List.mem_cons] at hc
      rcases hc with rfl | hc
      · unfold isD; rw [dg_hdg h2, decide_eq_true_eq]; omega
      · exact ha c hc
    · refine toHx_dig f (n / 16) _ (by omega) (fun x hx => ?_) c hc
      simp only [List.mem_cons] at hx
      rcases hx with rfl | hx
      · unfold isD; rw [dg_hdg (by omega), decide_eq_true_eq]; omega
      · exact ha x hx

def hoL (n : Nat) : List UInt8 := 48 :: 120 :: toHx 7 n []

def hoV (n : Int) : ByteArray × Bool := if 0 ≤ n ∧ n ≤ 4294967295 then (ofL (hoL n.toNat), true) else (⟨#[]⟩, false)

theorem app_bl {a b : ByteArray} {l : List UInt8} (h : bl a ++ bl b = l) : a ++ b = ofL l := bl_inj.1 (by rw [bl_app, bl_ofL]; exact h)

theorem and15 {n : Nat} (h : n ≤ 4294967295) : IntKind.i64.wrap ((BitVec.ofInt IntKind.i64.bits (n : Int) &&& BitVec.ofInt IntKind.i64.bits 15).toNat : Int) = ((n % 16 : Nat) : Int) := by
  have hb : IntKind.i64.bits = 64 := rfl
  have e1 : (BitVec.ofInt IntKind.i64.bits (n : Int)).toNat = n := by
    rw [hb, BitVec.toNat_ofInt]; omega
  have e2 : (BitVec.ofInt IntKind.i64.bits 15).toNat = 2 ^ 4 - 1 := by decide
  rw [BitVec.toNat_and, e1, e2, Nat.and_two_pow_sub_one_eq_mod, wr (by omega) (by omega)]

theorem tw_self {p : UInt8 → Bool} : ∀ {l : List UInt8}, (∀ c ∈ l, p c = true) → l.takeWhile p = l
  | [], _ => rfl
  | c :: r, h => by rw [List.takeWhile_cons, h c (by simp)]; simp only [if_true]; rw [tw_self (fun x hx => h x (by simp [hx]))]

theorem ho_back {n : Nat} (h : n ≤ 4294967295) : hxV (ofL (hoL n)) 0 = ((n : Int), ((ofL (hoL n)).size : Int), true) := by
  have hlen := toHx_len 7 n []
  have hsz : (ofL (hoL n)).size = 2 + (toHx 7 n []).length := by rw [bl_len, bl_ofL]; simp [hoL]; omega
  simp only [List.length_nil] at hlen
  have hw : hxW (ofL (hoL n)) 0 = toHx 7 n [] := by
    unfold hxW
    rw [bl_ofL]
    show ((hoL n).drop 2).takeWhile (isD 16) = _
    exact tw_self (toHx_dig 7 n [] (by omega) (by simp))
  unfold hxV hxO
  rw [show (0 : Int).toNat = 0 from rfl, hw, bl_ofL, decide_eq_true (show (ofL (hoL n)).size ≤ 4000 ∧ (0 : Int) ≤ 0 ∧ (0 : Int) + 2 ≤ ((ofL (hoL n)).size : Int) by omega), decide_eq_true (show ((hoL n).drop 0).take 2 = [48, 120] from rfl), decide_eq_true (show 1 ≤ (toHx 7 n []).length ∧ (toHx 7 n []).length ≤ 8 by omega), toHx_val 7 n [] (by omega), hsz]
  simp only [Bool.and_self, if_true, rdF]
  congr 2

/-- Bytes and their texts. -/
def btL : List Int → List UInt8
  | [] => []
  | n :: r => hdg (n.toNat / 16) :: hdg (n.toNat % 16) :: btL r

def pbL : List UInt8 → Option (List Int)
  | [] => some []
  | [_] => none
  | a :: b :: r => if dg a < 16 ∧ dg b < 16 then (pbL r).map fun l => (dg a * 16 + dg b) :: l else none

def pbR (t : List Int) : Option (List Int) → List Int × Bool
  | some l => (t ++ l, true)
  | none => ([], false)

theorem pbR_snoc {t : List Int} {v : Int} : ∀ o : Option (List Int), pbR (t ++ [v]) o = pbR t (o.map fun l => v :: l)
  | none => rfl
  | some l => by simp [pbR]

theorem pbL_in : ∀ (l : List UInt8) {b : List Int}, pbL l = some b → Bytes b ∧ 2 * b.length = l.length ∧ btL b = l
  | [], b, h => by
    simp only [pbL, Option.some.injEq] at h; subst h
    exact ⟨fun x hx => by simp at hx, rfl, rfl⟩
  | [_], b, h => by simp [pbL] at h
  | x :: y :: r, b, h => by
    simp only [pbL] at h
    by_cases hd : dg x < 16 ∧ dg y < 16
    · rw [if_pos hd] at h
      cases hr : pbL r with
      | none => rw [hr] at h; simp at h
      | some l =>
        rw [hr] at h
        simp only [Option.map_some, Option.some.injEq] at h
        obtain ⟨k1, k2, k3⟩ := pbL_in r hr
        have d1 := dg_in x
        have d2 := dg_in y
        subst h
        refine ⟨fun z hz => ?_, by simp; omega, ?_⟩
        · simp only [List.mem_cons] at hz
          rcases hz with rfl | hz
          · omega
          · exact k1 z hz
        · simp only [btL]
          have e1 : (dg x * 16 + dg y).toNat / 16 = (dg x).toNat := by omega
          have e2 : (dg x * 16 + dg y).toNat % 16 = (dg y).toNat := by omega
          rw [e1, e2, hdg_dg hd.1, hdg_dg hd.2, k3]
    · rw [if_neg hd] at h; simp at h

theorem pb_loop {F : ((List Int × Bool × List Int × Int) → Option (List Int × Bool)) → (List Int × Bool × List Int × Int) → Option (List Int × Bool)} {L : List UInt8}
    (h1 : ∀ ag t (i : Nat) a b, L[i]? = some a → L[i + 1]? = some b → t.length ≤ 10000 → F ag ([], false, t, (i : Int)) = oif (decide (dg a < 16 ∧ dg b < 16)) (ag ([], false, t ++ [dg a * 16 + dg b], ((i + 2 : Nat) : Int))) (some ([], false)))
    (h2 : ∀ ag t, F ag ([], false, t, (L.length : Int)) = some (t, true)) :
    ∀ (r : List UInt8) (fuel i : Nat) (t : List Int), L.drop i = r → r.length % 2 = 0 → i ≤ L.length → r.length < fuel → t.length + r.length ≤ 9000 → iterP F fuel ([], false, t, (i : Int)) = some (pbR t (pbL r))
  | _, 0, _, _, _, _, _, h, _ => by omega
  | [], fuel + 1, i, t, hd, _, hi, _, _ => by
    have : i = L.length := by
      have := List.drop_eq_nil_iff.1 hd; omega
    subst this
    simp only [iterP]
    rw [h2]; simp [pbR, pbL]
  | [x], fuel + 1, i, t, _, hp, _, _, _ => by simp at hp
  | a :: b :: r, fuel + 1, i, t, hd, hp, hi, hf, ht => by
    have hlt : i + 1 < L.length := by
      have := congrArg List.length hd
      rw [List.length_drop] at this
      simp only [List.length_cons] at this; omega
    have e1 := List.drop_eq_getElem_cons (show i < L.length by omega)
    have e2 := List.drop_eq_getElem_cons hlt
    rw [hd] at e1
    rw [e2] at e1
    injection e1 with e3 e1
    injection e1 with e4 e1
    simp only [List.length_cons] at hp hf ht
    simp only [iterP]
    rw [h1 _ t i a b (by rw [List.getElem?_eq_getElem (by omega), e3]) (by rw [List.getElem?_eq_getElem hlt, e4]) (by omega)]
    simp only [pbL]
    by_cases hdg : dg a < 16 ∧ dg b < 16
    · rw [decide_eq_true hdg, oif_t, if_pos hdg, pb_loop h1 h2 r fuel (i + 2) _ e1.symm (by omega) (by omega) (by omega) (by rw [List.length_append]; simp; omega), pbR_snoc]
    · rw [decide_eq_false hdg, oif_f, if_neg hdg]; rfl

def pbV (s : ByteArray) : List Int × Bool := if s.size ≤ 8000 ∧ s.size % 2 = 0 then pbR [] (pbL (bl s)) else ([], false)

theorem hx2 (c : UInt8) : decide ((if dg c ≥ 16 then -1 else dg c) < 0) = !decide (dg c < 16) := by
  have := dg_in c
  by_cases h : dg c ≥ 16
  · rw [if_pos h, decide_eq_true (by omega), decide_eq_false (by omega)]; rfl
  · rw [if_neg h, decide_eq_false (by omega), decide_eq_true (by omega)]; rfl

theorem or4 {h l : Int} (h0 : 0 ≤ h) (h1 : h < 16) (h2 : 0 ≤ l) (h3 : l < 16) : IntKind.u8.wrap (IntKind.i64.wrap ((BitVec.ofInt IntKind.i64.bits (IntKind.i64.wrap (h * 2 ^ (min (4 : Int).toNat IntKind.i64.bits))) ||| BitVec.ofInt IntKind.i64.bits l).toNat : Int)) = h * 16 + l := by
  rw [shl_or h0 (by omega) h2 h3]
  show (h * 16 + l) % 256 = _
  omega

theorem bt_len : ∀ l : List Int, (btL l).length = 2 * l.length
  | [] => rfl
  | n :: r => by simp only [btL, List.length_cons, bt_len r]; omega

def u8I (c : UInt8) : Int := (c.toNat : Int)

theorem strL_back (l : List UInt8) : bl (strL (l.map u8I)) = l := by
  simp only [bl, strL, List.map_map]
  have : ((fun n : Int => UInt8.ofNat n.toNat) ∘ u8I) = id := by
    funext c; simp [u8I]
  rw [this, List.map_id]

theorem bt_range {β : Type} {fin : List Int → Option β} : ∀ (l : List Int) (i : Nat) (t : List Int), Bytes l → t.length + 2 * l.length ≤ 10000 →
    rangeR (fun (x : Int) _ (t : List Int) k => oif (Nat.ble ((t.length + [u8I (hdg (x.toNat / 16)), u8I (hdg (x.toNat % 16))].length) * 1) roomMax) (k (t ++ [u8I (hdg (x.toNat / 16)), u8I (hdg (x.toNat % 16))])) none) fin l i t = fin (t ++ (btL l).map u8I)
  | [], i, t, _, _ => by simp [rangeR, btL]
  | x :: r, i, t, hb, h => by
    simp only [rangeR]
    simp only [List.length_cons] at h
    rw [room (by simp; omega), oif_t, bt_range r (i + 1) _ (fun y hy => hb y (by simp [hy])) (by rw [List.length_append]; simp; omega)]
    simp [btL]

def dS (n : Nat) : ByteArray := ofL (Go.Lib.decDigits n)

theorem dd_one {u : Nat} (h : u < 10) : Go.Lib.decDigits u = [UInt8.ofNat (48 + u)] := by rw [Go.Lib.decDigits, dif_pos h]

theorem dd_step {u : Nat} (h : ¬ u < 10) : Go.Lib.decDigits u = Go.Lib.decDigits (u / 10) ++ [UInt8.ofNat (48 + u % 10)] := by rw [Go.Lib.decDigits, dif_neg h]

theorem bl_dS (n : Nat) : bl (dS n) = Go.Lib.decDigits n := bl_ofL _

theorem u8_dig {k : Nat} (h : k < 10) : (UInt8.ofNat (48 + k)).toNat = 48 + k := by rw [UInt8.toNat_ofNat']; omega

theorem dg_dig {k : Nat} (h : k < 10) : dg (UInt8.ofNat (48 + k)) = (k : Int) := by
  unfold dg; rw [u8_dig h, if_pos (by omega)]; omega

theorem dd_len : ∀ (j u : Nat), u < 10 ^ (j + 1) → 1 ≤ (Go.Lib.decDigits u).length ∧ (Go.Lib.decDigits u).length ≤ j + 1
  | 0, u, h => by rw [dd_one (by omega)]; simp
  | j + 1, u, h => by
    by_cases h2 : u < 10
    · rw [dd_one h2]; simp
    · have := dd_len j (u / 10) (by rw [Nat.pow_succ] at h; omega)
      rw [dd_step h2]; simp; omega

theorem dd_dig (u : Nat) : ∀ c ∈ Go.Lib.decDigits u, 48 ≤ c.toNat ∧ c.toNat ≤ 57 := by
  induction u using Nat.strongRecOn with
  | _ u ih =>
    intro c hc
    by_cases h : u < 10
    · rw [dd_one h, List.mem_singleton] at hc; subst hc; rw [u8_dig h]; omega
    · rw [dd_step h] at hc
      rcases List.mem_append.1 hc with g | g
      · exact ih (u / 10) (by omega) c g
      · rw [List.mem_singleton] at g; subst g
        have := u8_dig (k := u % 10) (by omega)
        omega

theorem dd_ne (u : Nat) : Go.Lib.decDigits u ≠ [] := by
  by_cases h : u < 10
  · rw [dd_one h]; simp
  · rw [dd_step h]; simp

theorem dd_head {u : Nat} (h0 : u ≠ 0) : ∃ c r, Go.Lib.decDigits u = c :: r ∧ c.toNat ≠ 48 := by
  induction u using Nat.strongRecOn with
  | _ u ih =>
    by_cases h : u < 10
    · exact ⟨_, [], dd_one h, by rw [u8_dig h]; omega⟩
    · obtain ⟨c, r, h1, h2⟩ := ih (u / 10) (by omega) (by omega)
      exact ⟨c, r ++ [UInt8.ofNat (48 + u % 10)], by rw [dd_step h, h1]; rfl, h2⟩

theorem rdF_app {base : Int} : ∀ (l : List UInt8) (n : Int) (c : UInt8), rdF base n (l ++ [c]) = rdF base n l * base + dg c
  | [], n, c => rfl
  | x :: l, n, c => by simp only [List.cons_append, rdF]; exact rdF_app l _ c

theorem rdF_ge {base : Int} (hb : 1 ≤ base) : ∀ (l : List UInt8) {n : Int}, 0 ≤ n → n ≤ rdF base n l
  | [], n, _ => Int.le_refl _
  | c :: l, n, h => by
    have hd := dg_in c
    have k : n * 1 ≤ n * base := Int.mul_le_mul_of_nonneg_left hb h
    have := rdF_ge hb l (n := n * base + dg c) (by omega)
    simp only [rdF]; omega

theorem rdL_of {base most : Int} (hb : 1 ≤ base) : ∀ (l : List UInt8) {n : Int}, (∀ c ∈ l, dg c < base) → 0 ≤ n → rdF base n l ≤ most → rdL base most n l = rdF base n l
  | [], n, _, _, _ => rfl
  | c :: l, n, hd, h0, hm => by
    have hd1 := dg_in c
    have k : n * 1 ≤ n * base := Int.mul_le_mul_of_nonneg_left hb h0
    have hc := hd c (by simp)
    simp only [rdF] at hm
    have := rdF_ge hb l (n := n * base + dg c) (by omega)
    simp only [rdL, rdF]
    rw [if_neg (by omega), if_neg (by omega)]
    exact rdL_of hb l (fun x hx => hd x (by simp [hx])) (by omega) hm

theorem dd_val (u : Nat) : rdF 10 0 (Go.Lib.decDigits u) = (u : Int) := by
  induction u using Nat.strongRecOn with
  | _ u ih =>
    by_cases h : u < 10
    · rw [dd_one h]; simp only [rdF]; rw [dg_dig h]; omega
    · rw [dd_step h, rdF_app, ih (u / 10) (by omega), dg_dig (by omega)]; omega

theorem dd_dg (u : Nat) : ∀ c ∈ Go.Lib.decDigits u, dg c < 10 := by
  intro c hc
  have := dd_dig u c hc
  unfold dg; rw [if_pos this]; omega

theorem dd_rc {u : Nat} {most : Int} (h : (u : Int) ≤ most) : rcV 10 most (Go.Lib.decDigits u) = (u : Int) := by
  have hv := rdL_of (base := 10) (most := most) (by omega) (Go.Lib.decDigits u) (n := 0) (dd_dg u) (Int.le_refl _) (by rw [dd_val]; exact h)
  rw [dd_val] at hv
  rcases Nat.eq_zero_or_pos u with e | e
  · subst e
    rw [dd_one (by omega)] at hv ⊢
    simp only [rcV]
    rw [if_neg (by simp)]; exact hv
  · obtain ⟨c, r, h1, h2⟩ := dd_head (u := u) (by omega)
    rw [h1] at hv ⊢
    simp only [rcV]
    rw [if_neg (fun h => h2 h.1)]; exact hv

theorem dd_last (u : Nat) : ∃ c, (Go.Lib.decDigits u).getLast? = some c ∧ 48 ≤ c.toNat ∧ c.toNat ≤ 57 := by
  obtain ⟨c, hc⟩ : ∃ c, (Go.Lib.decDigits u).getLast? = some c := ⟨_, List.getLast?_eq_some_getLast (dd_ne u)⟩
  exact ⟨c, hc, dd_dig u c (List.mem_of_getLast? hc)⟩

theorem nr_d {n : Nat} (h : n ≤ 1000000000) : nrV (Go.Lib.decDigits n) = (n : Int) := by
  obtain ⟨c, h1, h2, h3⟩ := dd_last n
  unfold nrV
  rw [h1]
  simp only
  rw [if_neg (by omega), if_neg (by omega), dd_rc (by omega)]

theorem nr_m {q : Nat} (h0 : 1 ≤ q) (h : q ≤ 1000) : nrV (Go.Lib.decDigits q ++ [109]) = (q : Int) * 1000000 := by
  unfold nrV
  rw [List.getLast?_append, List.getLast?_singleton]
  simp only [Option.some_or]
  rw [if_pos (by decide), List.dropLast_concat]
  unfold unV2
  rw [dd_rc (by omega), if_neg (by omega)]

theorem nr_k {q : Nat} (h0 : 1 ≤ q) (h : q ≤ 1000000) : nrV (Go.Lib.decDigits q ++ [107]) = (q : Int) * 1000 := by
  unfold nrV
  rw [List.getLast?_append, List.getLast?_singleton]
  simp only [Option.some_or]
  rw [if_neg (by decide), if_pos (by decide), List.dropLast_concat]
  unfold unV2
  rw [dd_rc (by omega), if_neg (by omega)]

/-- The forms of a value. -/
def uS (q : Nat) (c : UInt8) : ByteArray := ofL (Go.Lib.decDigits q ++ [c])

def isM (n : Nat) : Bool := decide (0 < n) && decide (n % 1000000 = 0)

def isK (n : Nat) : Bool := decide (0 < n) && decide (n % 1000 = 0)

def fmV (n : Nat) : List ByteArray := (if isM n = true then [uS (n / 1000000) 109] else []) ++ ((if isK n = true then [uS (n / 1000) 107] else []) ++ [dS n])

def ntV (n : Nat) : ByteArray := if isM n = true then uS (n / 1000000) 109 else if isK n = true then uS (n / 1000) 107 else dS n

theorem fm_head (n : Nat) : ∃ r, fmV n = ntV n :: r := by
  unfold fmV ntV
  cases isM n with
  | true => exact ⟨_, rfl⟩
  | false =>
    cases isK n with
    | true => exact ⟨_, rfl⟩
    | false => exact ⟨_, rfl⟩

theorem isM_K {n : Nat} (h : isM n = true) : isK n = true := by
  unfold isM at h; unfold isK
  simp only [Bool.and_eq_true, decide_eq_true_eq] at h ⊢
  omega

theorem uS_app (q : Nat) (c : UInt8) : dS q ++ ofL [c] = uS q c := app_bl (by rw [bl_dS, bl_ofL])

theorem dS_nil (q : Nat) : dS q ++ (⟨#[]⟩ : ByteArray) = dS q := bl_inj.1 (by rw [bl_app]; show bl (dS q) ++ [] = _; simp)

theorem dS_size {n : Nat} (h : n ≤ 1000000000) : (dS n).size ≤ 10 := by
  rw [bl_len, bl_dS]
  exact (dd_len 9 n (by omega)).2

theorem fm_len (n : Nat) : (fmV n).length ≤ 3 := by unfold fmV; (repeat' split) <;> simp

theorem fm_at {n i : Nat} (hn : n ≤ 1000000000) {s : ByteArray} (hs : (fmV n)[i]? = some s) : nrV (bl s) = (n : Int) ∧ s.size ≤ 20 ∧ decide (bl (ntV n) = bl s) = decide (i = 0) := by
  have hM : isM n = true → nrV (bl (uS (n / 1000000) 109)) = (n : Int) ∧ (uS (n / 1000000) 109).size ≤ 20 := by
    intro h
    unfold isM at h
    simp only [Bool.and_eq_true, decide_eq_true_eq] at h
    unfold uS
    rw [bl_len, bl_ofL, nr_m (by omega) (by omega)]
    have := (dd_len 9 (n / 1000000) (by omega)).2
    exact ⟨by omega, by simp; omega⟩
  have hK : isK n = true → nrV (bl (uS (n / 1000) 107)) = (n : Int) ∧ (uS (n / 1000) 107).size ≤ 20 := by
    intro h
    unfold isK at h
    simp only [Bool.and_eq_true, decide_eq_true_eq] at h
    unfold uS
    rw [bl_len, bl_ofL, nr_k (by omega) (by omega)]
    have := (dd_len 9 (n / 1000) (by omega)).2
    exact ⟨by omega, by simp; omega⟩
  have hD : nrV (bl (dS n)) = (n : Int) ∧ (dS n).size ≤ 20 := ⟨by rw [bl_dS, nr_d hn], Nat.le_trans (dS_size hn) (by omega)⟩
  obtain ⟨cl, l1, l2, l3⟩ := dd_last n
  have lu : ∀ (q : Nat) (c : UInt8), (bl (uS q c)).getLast? = some c := by intro q c; unfold uS; rw [bl_ofL, List.getLast?_append, List.getLast?_singleton]; rfl
  have ne : ∀ {a b : List UInt8} {x y : UInt8}, a.getLast? = some x → b.getLast? = some y → x.toNat ≠ y.toNat → a ≠ b := by
    intro a b x y h1 h2 h3 e
    rw [e, h2] at h1; injection h1 with h1; exact h3 (by rw [h1])
  have ld : (bl (dS n)).getLast? = some cl := by rw [bl_dS]; exact l1
  have n1 : bl (uS (n / 1000000) 109) ≠ bl (uS (n / 1000) 107) := ne (lu _ _) (lu _ _) (by decide)
  have n2 : bl (uS (n / 1000000) 109) ≠ bl (dS n) := ne (lu _ _) ld (by show (109 : UInt8).toNat ≠ _; have : (109 : UInt8).toNat = 109 := rfl; omega)
  have n3 : bl (uS (n / 1000) 107) ≠ bl (dS n) := ne (lu _ _) ld (by show (107 : UInt8).toNat ≠ _; have : (107 : UInt8).toNat = 107 := rfl; omega)
  unfold fmV at hs
  unfold ntV
  cases hm : isM n with
  | true =>
    have hk := isM_K hm
    rw [hm, hk] at hs
    simp only [if_true] at hs ⊢
    match i, hs with
    | 0, hs => simp at hs; subst hs; exact ⟨(hM hm).1, (hM hm).2, by simp⟩
    | 1, hs => simp at hs; subst hs; exact ⟨(hK hk).1, (hK hk).2, by simp [n1]⟩
    | 2, hs => simp at hs; subst hs; exact ⟨hD.1, hD.2, by simp [n2]⟩
    | i + 3, hs => simp at hs
  | false =>
    rw [hm] at hs
    cases hk : isK n with
    | true =>
      rw [hk] at hs
      simp only [if_true, Bool.false_eq_true, if_false] at hs ⊢
      match i, hs with
      | 0, hs => simp at hs; subst hs; exact ⟨(hK hk).1, (hK hk).2, by simp⟩
      | 1, hs => simp at hs; subst hs; exact ⟨hD.1, hD.2, by simp [n3]⟩
      | i + 2, hs => simp at hs
    | false =>
      rw [hk] at hs
      simp only [Bool.false_eq_true, if_false] at hs ⊢
      match i, hs with
      | 0, hs => simp at hs; subst hs; exact ⟨hD.1, hD.2, by simp⟩
      | i + 1, hs => simp at hs

/-- The program's texts. -/
theorem q_Itoa {d n : Nat} (h : n ≤ 9223372036854775807) : g105 (d + 1) (n : Int) = some (dS n) := by
  rw [e105]
  unfold itoaV
  have e : Go.Lib.itoa (n : Int) = Go.Lib.decDigits n := by unfold Go.Lib.itoa; rw [if_neg (by omega)]; rfl
  rw [decide_eq_true (by omega), decide_eq_true (by omega), Bool.and_self, oif_t, e]; rfl

theorem strL_dig {k : Nat} (h : k < 10) : strL [IntKind.u8.wrap (IntKind.i64.wrap ((48 : Int) + (k : Int)))] = ofL [UInt8.ofNat (48 + k)] := by
  obtain ⟨m, rfl⟩ : ∃ m : Fin 10, k = m.val := ⟨⟨k, h⟩, rfl⟩
  clear h
  revert m
  decide +kernel

theorem q_l1Num : ∀ (j : Nat) {d n : Nat}, n < 10 ^ (j + 1) → n ≤ 1000000000000 → j ≤ 100 → g64 (d + j + 1) (n : Int) = some (dS n)
  | 0, d, n, h, _, _ => by
    rw [e64, decide_eq_true (by omega), oif_t, strL_dig (by omega)]
    unfold dS; rw [dd_one (by omega)]
  | j + 1, d, n, h, h2, h3 => by
    rw [show d + (j + 1) + 1 = (d + j + 1) + 1 by omega, e64]
    by_cases hn : n < 10
    · rw [decide_eq_true (by omega), oif_t, strL_dig hn]
      unfold dS; rw [dd_one hn]
    · rw [decide_eq_false (by omega), oif_f]
      have e1 : ((n : Int)).tdiv 10 = ((n / 10 : Nat) : Int) := rfl
      have e2 : ((n : Int)).tmod 10 = ((n % 10 : Nat) : Int) := rfl
      rw [e1, e2, wr (by omega) (by omega), q_l1Num j (by rw [Nat.pow_succ] at h; omega) (by omega) (by omega), ob_s, strL_dig (by omega)]
      have hl := (dd_len 12 (n / 10) (by omega)).2
      rw [room2 (by rw [bl_len, bl_len, bl_dS, bl_ofL]; simp; omega)]
      congr 1
      unfold dS
      rw [dd_step hn]
      exact app_bl (by rw [bl_ofL, bl_ofL])

theorem beq_nat (k : Nat) : (((k : Nat) : Int) == 0) = decide (k = 0) := by
  rw [Bool.eq_iff_iff]; simp

def foV (n : Int) : List ByteArray × Bool := if vlOk n = true then (fmV n.toNat, true) else ([], false)

theorem nf_add {d n i u : Nat} {ag : List ByteArray × Int → Option (List ByteArray)} {l : List ByteArray} {s : ByteArray} {x y : Int} {b1 b2 b : Bool} (hu : g157 (d + 11) (i : Int) = some (u : Int)) (h0 : 0 < u) (hn : n ≤ 1000000000) (hs : s.size ≤ 1) (hl : l.length ≤ 3) (hi : i ≤ 3) :
    j140_1 (d + 11) (n : Int) ag l (i : Int) s x y b1 b2 b = if b = true then ag (l ++ [dS (n / u) ++ s], ((i + 1 : Nat) : Int)) else ag (l, ((i + 1 : Nat) : Int)) := by
  unfold j140_1
  have hq : n / u ≤ 1000000000 := Nat.le_trans (Nat.div_le_self _ _) hn
  have hd := dS_size hq
  cases b with
  | false => rw [oif_f, wr1 (by omega), if_neg (by simp)]
  | true =>
    have e1 : ((n : Int)).tdiv (u : Int) = ((n / u : Nat) : Int) := rfl
    generalize n / u = q at hq hd e1 ⊢
    rw [oif_t, hu, ob_s, show (((u : Nat) : Int) == 0) = false by rw [beq_eq_false_iff_ne]; omega, oif_f, e1, wr (by omega) (by omega), q_l1Num 10 (d := d) (by simp only [Nat.reduceAdd, Nat.reducePow]; omega) (by omega) (by omega), ob_s, room2 (by omega), room (by simp; omega), oif_t, wr1 (by omega), if_pos rfl]

theorem q_nuForms {d n : Nat} (hn : n ≤ 1000000000) : g140 (d + 12) (n : Int) = some (fmV n) := by
  rw [e140, q_nuUnits, ob_s]
  obtain ⟨m, hm⟩ : ∃ m, fuelN = m + 4 := ⟨4194300, fuelN_eq⟩
  rw [hm]
  have s0 : g157 (d + 11) ((0 : Nat) : Int) = some ((1000000 : Nat) : Int) := q_nuSize0 (d := d + 10)
  have s1 : g157 (d + 11) ((1 : Nat) : Int) = some ((1000 : Nat) : Int) := q_nuSize1 (d := d + 10)
  have s2 : g157 (d + 11) ((2 : Nat) : Int) = some ((1 : Nat) : Int) := q_nuSize2 (d := d + 10)
  have hU : ([(⟨#[109]⟩ : ByteArray), (⟨#[107]⟩ : ByteArray), (⟨#[]⟩ : ByteArray)] : List ByteArray).length = 3 := rfl
  have em : ((⟨#[109]⟩ : ByteArray).toList == (⟨#[]⟩ : ByteArray).toList) = false := by rw [bl_eq]; rfl
  have ek : ((⟨#[107]⟩ : ByteArray).toList == (⟨#[]⟩ : ByteArray).toList) = false := by rw [bl_eq]; rfl
  have ee : ((⟨#[]⟩ : ByteArray).toList == (⟨#[]⟩ : ByteArray).toList) = true := by simp
  have um : dS (n / 1000000) ++ (⟨#[109]⟩ : ByteArray) = uS (n / 1000000) 109 := uS_app _ 109
  have uk : dS (n / 1000) ++ (⟨#[107]⟩ : ByteArray) = uS (n / 1000) 107 := uS_app _ 107
  -- one round
  have round : ∀ (ag : List ByteArray × Int → Option (List ByteArray)) (l : List ByteArray) (i u : Nat) (s : ByteArray), [(⟨#[109]⟩ : ByteArray), (⟨#[107]⟩ : ByteArray), (⟨#[]⟩ : ByteArray)][i]? = some s → g157 (d + 11) (i : Int) = some (u : Int) → 0 < u → i < 3 → l.length ≤ 3 → s.size ≤ 1 →
      l140_0 (d + 11) (n : Int) [(⟨#[109]⟩ : ByteArray), (⟨#[107]⟩ : ByteArray), (⟨#[]⟩ : ByteArray)] (j140_0 (d + 11)) ag (l, (i : Int)) = if (decide (n % u = 0) && (decide (0 < n) || (s.toList == (⟨#[]⟩ : ByteArray).toList))) = true then ag (l ++ [dS (n / u) ++ s], ((i + 1 : Nat) : Int)) else ag (l, ((i + 1 : Nat) : Int)) := by
    intro ag l i u s hs hu h0 hi hl hsz
    simp only [l140_0, l140_0_b]
    have e1 : ((n : Int)).tmod (u : Int) = ((n % u : Nat) : Int) := rfl
    rw [hU, decide_eq_true (show ((i : Nat) : Int) < ((3 : Nat) : Int) by omega), oif_t, nn, oif_t, ofNat_toNat, blt_of hi, oif_t, hs, ob_s, hu, ob_s, show (((u : Nat) : Int) == 0) = false by rw [beq_eq_false_iff_ne]; omega, oif_f, e1, beq_nat]
    by_cases h1 : n % u = 0
    · rw [decide_eq_true h1, oif_t, Bool.true_and]
      by_cases h2 : 0 < n
      · rw [decide_eq_true (show (n : Int) > 0 by omega), oif_t, nf_add hu h0 hn hsz hl (by omega), decide_eq_true h2, Bool.true_or]
      · rw [decide_eq_false (show ¬ (n : Int) > 0 by omega), oif_f, nf_add hu h0 hn hsz hl (by omega), decide_eq_false h2, Bool.false_or]
    · rw [decide_eq_false h1, oif_f, nf_add hu h0 hn hsz hl (by omega), Bool.false_and]
  have last : ∀ (ag : List ByteArray × Int → Option (List ByteArray)) (l : List ByteArray), l140_0 (d + 11) (n : Int) [(⟨#[109]⟩ : ByteArray), (⟨#[107]⟩ : ByteArray), (⟨#[]⟩ : ByteArray)] (j140_0 (d + 11)) ag (l, ((3 : Nat) : Int)) = some l := by
    intro ag l
    simp only [l140_0, l140_0_b]
    rw [hU, ltn, oif_f]; rfl
  have r2 : ∀ l : List ByteArray, l.length ≤ 2 → iterP (l140_0 (d + 11) (n : Int) [(⟨#[109]⟩ : ByteArray), (⟨#[107]⟩ : ByteArray), (⟨#[]⟩ : ByteArray)] (j140_0 (d + 11))) (m + 2) (l, ((2 : Nat) : Int)) = some (l ++ [dS n]) := by
    intro l hl
    simp only [iterP]
    rw [round _ l 2 1 _ rfl s2 (by omega) (by omega) (by omega) (by decide), ee, Bool.or_true, Bool.and_true, decide_eq_true (Nat.mod_one n), if_pos rfl, Nat.div_one, dS_nil]
    exact last _ _
  have r1 : ∀ l : List ByteArray, l.length ≤ 1 → iterP (l140_0 (d + 11) (n : Int) [(⟨#[109]⟩ : ByteArray), (⟨#[107]⟩ : ByteArray), (⟨#[]⟩ : ByteArray)] (j140_0 (d + 11))) (m + 3) (l, ((1 : Nat) : Int)) = some (l ++ ((if isK n = true then [uS (n / 1000) 107] else []) ++ [dS n])) := by
    intro l hl
    show l140_0 _ _ _ _ (iterP _ (m + 2)) _ = _
    rw [round _ l 1 1000 _ rfl s1 (by omega) (by omega) (by omega) (by decide), ek, Bool.or_false, Bool.and_comm]
    unfold isK
    split
    · rw [r2 _ (by simp; omega), uk]; simp
    · rw [r2 _ (by omega)]; rfl
  show l140_0 _ _ _ _ (iterP _ (m + 3)) ([], ((0 : Nat) : Int)) = _
  rw [round _ [] 0 1000000 _ rfl s0 (by omega) (by omega) (by simp) (by decide), em, Bool.or_false, Bool.and_comm]
  unfold fmV isM
  split
  · rw [r1 _ (by simp), um]; rfl
  · rw [r1 _ (by simp)]

theorem q_numberText {d n : Nat} (hn : n ≤ 1000000000) : g104 (d + 2) (n : Int) = some (ntV n) := by
  rw [e104]
  have e1 : ((n : Int)).tmod 1000000 = ((n % 1000000 : Nat) : Int) := rfl
  have e2 : ((n : Int)).tdiv 1000000 = ((n / 1000000 : Nat) : Int) := rfl
  have e3 : ((n : Int)).tmod 1000 = ((n % 1000 : Nat) : Int) := rfl
  have e4 : ((n : Int)).tdiv 1000 = ((n / 1000 : Nat) : Int) := rfl
  have hdk := dS_size (show n / 1000 ≤ 1000000000 by omega)
  have hdm := dS_size (show n / 1000000 ≤ 1000000000 by omega)
  have zk : (⟨#[107]⟩ : ByteArray).size = 1 := rfl
  have zm : (⟨#[109]⟩ : ByteArray).size = 1 := rfl
  have uk : dS (n / 1000) ++ (⟨#[107]⟩ : ByteArray) = uS (n / 1000) 107 := uS_app _ 107
  have um : dS (n / 1000000) ++ (⟨#[109]⟩ : ByteArray) = uS (n / 1000000) 109 := uS_app _ 109
  unfold j104_1 j104_0 ntV isM isK
  rw [e1, e2, e3, e4, beq_nat, beq_nat, wr (n := ((n / 1000000 : Nat) : Int)) (by omega) (by omega), wr (n := ((n / 1000 : Nat) : Int)) (by omega) (by omega), q_Itoa (by omega), ob_s, q_Itoa (by omega), ob_s, q_Itoa (by omega), ob_s, room2 (by omega), room2 (by omega), um, uk]
  by_cases h0 : 0 < n
  · rw [decide_eq_true (show (n : Int) > 0 by omega), decide_eq_true h0]
    cases decide (n % 1000000 = 0) <;> cases decide (n % 1000 = 0) <;> rfl
  · rw [decide_eq_false (show ¬ (n : Int) > 0 by omega), decide_eq_false h0]
    rfl

theorem q_nuText {d n : Nat} (hn : n ≤ 1000000000) : g107 (d + 13) (n : Int) = some (ntV n) := by
  rw [e107, q_nuForms hn, ob_s]
  obtain ⟨r, hr⟩ := fm_head n
  rw [hr, blt_of (by simp), oif_t]; rfl

def nxV (n : Int) : ByteArray × Bool := if vlOk n = true then (ntV n.toNat, true) else (⟨#[]⟩, false)

def icV (l : List UInt8) : Bool := decide (0 ≤ nrV l) && decide (bl (ntV (nrV l).toNat) = l)

def htV (n : Int) : ByteArray × Bool := if 0 ≤ n ∧ n ≤ 65535 then (ofL (hoL n.toNat), true) else (⟨#[]⟩, false)

theorem hdg_ne {k : Nat} (h0 : 1 ≤ k) (h : k < 16) : (hdg k).toNat ≠ 48 := by
  unfold hdg
  split
  · rw [UInt8.toNat_ofNat']; omega
  · rw [UInt8.toNat_ofNat']; omega

theorem toHx_head : ∀ (f n : Nat) (acc : List UInt8), n < 16 ^ (f + 1) → 1 ≤ n → ∃ c r, toHx f n acc = c :: r ∧ c.toNat ≠ 48
  | 0, n, acc, h, h0 => ⟨hdg n, acc, rfl, hdg_ne h0 (by simpa using h)⟩
  | f + 1, n, acc, h, h0 => by
    simp only [toHx]
    split
    · rename_i h2; exact ⟨hdg n, acc, rfl, hdg_ne h0 h2⟩
    · rename_i h2
      rw [Nat.pow_succ] at h
      exact toHx_head f (n / 16) _ (by omega) (by omega)

theorem hx_rc {n : Nat} (h : n ≤ 65535) : rcV 16 65535 (toHx 7 n []) = (n : Int) := by
  have hp : n < 16 ^ (7 + 1) := by simp only [Nat.reduceAdd, Nat.reducePow]; omega
  have hval := toHx_val 7 n [] hp
  simp only [rdF] at hval
  have hdig := toHx_dig 7 n [] hp (by simp)
  have hv := rdL_of (base := 16) (most := 65535) (by omega) (toHx 7 n []) (n := 0) (fun c hc => by have := hdig c hc; unfold isD at this; exact of_decide_eq_true this) (Int.le_refl _) (by rw [hval]; omega)
  rw [hval] at hv
  rcases Nat.eq_zero_or_pos n with e | e
  · subst e; rfl
  · obtain ⟨c, r, h1, h2⟩ := toHx_head 7 n [] hp e
    rw [h1] at hv ⊢
    simp only [rcV]
    rw [if_neg (fun h => h2 h.1)]; exact hv

theorem ho_hx (n : Nat) : hxB (hoL n) = true := by unfold hxB hoL; simp

theorem ho_ny {n : Nat} (h : n ≤ 65535) : nyV (hoL n) = (n : Int) := by
  unfold nyV; rw [ho_hx, if_pos rfl]; exact hx_rc h

theorem hx_nr {l : List UInt8} (h : hxB l = true) : nrV l = -1 := by
  obtain ⟨r, rfl⟩ := hxB_cons h
  have key : ∀ (q : List UInt8) (most : Int), q ≠ [] → rcV 10 most (48 :: q) = -1 := by
    intro q most hq
    simp only [rcV]; rw [if_pos ⟨by decide, hq⟩]
  cases r with
  | nil => rfl
  | cons x r =>
    obtain ⟨c, hc⟩ : ∃ c, (48 :: 120 :: x :: r).getLast? = some c := ⟨_, List.getLast?_eq_some_getLast (by simp)⟩
    have hdl : (48 :: 120 :: x :: r : List UInt8).dropLast = 48 :: 120 :: (x :: r).dropLast := rfl
    unfold nrV
    rw [hc]
    simp only
    split
    · unfold unV2; rw [hdl, key _ _ (by simp), if_pos (by omega)]
    · split
      · unfold unV2; rw [hdl, key _ _ (by simp), if_pos (by omega)]
      · exact key _ _ (by simp)

abbrev Cu := Int × Int × Int
abbrev Se := (Int × Int × Int) × Int × Int × Int × List Int

def tmOk (t : Int) : Bool := decide (0 ≤ t ∧ t ≤ 100000)

theorem q_isTime {d : Nat} {x : Int} : g48 (d + 1) x = some (tmOk x) := by
  rw [e48]; simp only [oif_ss]; congr 1; rw [Bool.eq_iff_iff]; simp [tmOk]

theorem q_cuTime {d : Nat} {x : Int} : g59 (d + 2) x = some (tmOk x) := by rw [e59, q_l1In, ob_s]; rfl

def cuOk (c : Cu) : Bool := decide (0 ≤ c.1 ∧ c.1 ≤ 100000 ∧ 0 ≤ c.2.1 ∧ c.2.1 ≤ 10000 ∧ 0 ≤ c.2.2 ∧ c.2.2 ≤ 100000)

theorem cu_in {c : Cu} (h : cuOk c = true) : 0 ≤ c.1 ∧ c.1 ≤ 100000 ∧ 0 ≤ c.2.1 ∧ c.2.1 ≤ 10000 ∧ 0 ≤ c.2.2 ∧ c.2.2 ≤ 100000 := of_decide_eq_true h

theorem q_IsCurve {d : Nat} {c : Cu} : g47 (d + 1) c = some (cuOk c) := by
  rw [e47]; simp only [oif_ss]; congr 1; rw [Bool.eq_iff_iff]; simp [cuOk]

theorem q_cuGood {d : Nat} {c : Cu} : g96 (d + 2) c = some (cuOk c) := by
  rw [e96]; simp only [q_l1In, ob_s, oif_ss]; congr 1; rw [Bool.eq_iff_iff]; simp [cuOk, and_assoc]

def seOk (s : Se) : Bool := s.2.2.2.2.all szOk && (cuOk s.1 && decide (0 ≤ s.2.1 ∧ s.2.1 ≤ 100000 ∧ 0 ≤ s.2.2.1 ∧ s.2.2.1 ≤ 1000000 ∧ s.2.2.1 ≤ s.2.2.2.1 ∧ s.2.2.2.1 ≤ 1000000000 ∧ s.2.2.2.2.length ≤ 20))

theorem se_in {s : Se} (h : seOk s = true) : s.2.2.2.2.all szOk = true ∧ cuOk s.1 = true ∧ 0 ≤ s.2.1 ∧ s.2.1 ≤ 100000 ∧ 0 ≤ s.2.2.1 ∧ s.2.2.1 ≤ 1000000 ∧ s.2.2.1 ≤ s.2.2.2.1 ∧ s.2.2.2.1 ≤ 1000000000 ∧ s.2.2.2.2.length ≤ 20 := by
  unfold seOk at h
  simpa only [Bool.and_eq_true, decide_eq_true_eq] using h

theorem se_mk {s : Se} (h1 : s.2.2.2.2.all szOk = true) (h2 : cuOk s.1 = true) (h3 : 0 ≤ s.2.1 ∧ s.2.1 ≤ 100000 ∧ 0 ≤ s.2.2.1 ∧ s.2.2.1 ≤ 1000000 ∧ s.2.2.1 ≤ s.2.2.2.1 ∧ s.2.2.2.1 ≤ 1000000000 ∧ s.2.2.2.2.length ≤ 20) : seOk s = true := by
  unfold seOk
  simp only [Bool.and_eq_true, decide_eq_true_eq]; exact ⟨h1, h2, h3⟩

theorem q_IsSession {d : Nat} {s : Se} (hl : s.2.2.2.2.length < 4194304) : g11 (d + 2) s = some (seOk s) := by
  rw [e11]
  refine (range_eq (fun (t : Bool) (i : Int) => (t, i)) s.2.2.2.2 (fun x _ t k => oif (szOk x) (k t) (some false)) (j11_0 (d + 1) s) ?_ ?_ (by rw [fuelN_eq]; exact hl) false).trans ?_
  · intro ag t i x hx; have hi := (List.getElem?_eq_some_iff.1 hx).1; simp only [l11_0, l11_0_b, ltl hx, bltl hx, nn, ofNat_toNat, hx, ob_s, oif_t]; rw [wr1 (by omega)]
    rw [q_isSize, ob_s]; cases szOk x <;> rfl
  · intro ag t; simp only [l11_0, l11_0_b, ltn, oif_f]
  · rw [rangeR_all (p := szOk)]
    unfold j11_0 seOk
    simp only [q_IsCurve, q_isTime, ob_s, oif_ss]
    congr 1
    rw [Bool.eq_iff_iff]
    generalize s.2.2.2.2.all szOk = b
    generalize cuOk s.1 = a
    unfold tmOk
    cases a <;> cases b <;> simp <;> omega

theorem q_hfGood {d : Nat} {s : Se} (hl : s.2.2.2.2.length < 4194304) : g44 (d + 3) s = some (seOk s) := by
  rw [e44]
  simp only [q_cuGood, q_cuTime, q_l1In, q_l1All hl, ob_s]
  have e : (fun x : Int => decide (1 ≤ x ∧ x ≤ 1500)) = szOk := rfl
  rw [e]
  unfold seOk tmOk
  simp only [oif_ss]
  congr 1
  rw [Bool.eq_iff_iff]
  generalize s.2.2.2.2.all szOk = b
  generalize cuOk s.1 = a
  cases a <;> cases b <;> simp <;> omega

theorem q_sIsSession {d : Nat} {s : Se} (hl : s.2.2.2.2.length < 4194304) : g12 (d + 4) s = some (seOk s) := by
  rw [e12, q_hfGood hl, ob_s]

/-- The curve. -/
theorem mul_in {a b A B : Int} (h0 : 0 ≤ a) (h1 : a ≤ A) (h2 : 0 ≤ b) (h3 : b ≤ B) : 0 ≤ a * b ∧ a * b ≤ A * B := ⟨Int.mul_nonneg h0 h2, Int.mul_le_mul h1 h3 h2 (by omega)⟩

theorem mul_split {F a b c : Int} (h : a = b + c) : F * a = F * b + F * c := by subst h; exact Int.mul_add _ _ _

theorem mul_up {F S x : Int} (h : F ≤ S) (hx : 0 ≤ x) : F * x ≤ S * x := Int.mul_le_mul_of_nonneg_right h hx

def cuV (c : Cu) (t : Int) : Int := if t ≤ c.2.1 then c.1 * t else c.1 * c.2.1 + c.2.2 * (t - c.2.1)

theorem cu_lo {c : Cu} {t : Int} (h : t ≤ c.2.1) : cuV c t = c.1 * t := by unfold cuV; rw [if_pos h]

theorem cu_hi {c : Cu} {t : Int} (h : c.2.1 ≤ t) : cuV c t = c.1 * c.2.1 + c.2.2 * (t - c.2.1) := by
  unfold cuV
  by_cases h1 : t ≤ c.2.1
  · have : t = c.2.1 := by omega
    rw [if_pos h1, this, Int.sub_self, Int.mul_zero, Int.add_zero]
  · rw [if_neg h1]

theorem cuV_in {c : Cu} {t : Int} (hc : cuOk c = true) (h0 : 0 ≤ t) (h1 : t ≤ 100000) : 0 ≤ cuV c t ∧ cuV c t ≤ 20000000000 := by
  obtain ⟨a1, a2, a3, a4, a5, a6⟩ := cu_in hc
  rcases Int.le_total t c.2.1 with h | h
  · rw [cu_lo h]
    have := mul_in a1 a2 h0 h1
    omega
  · rw [cu_hi h]
    have b1 := mul_in a1 a2 a3 a4
    have b2 := mul_in (a := c.2.2) (b := t - c.2.1) a5 a6 (by omega) (show t - c.2.1 ≤ 100000 by omega)
    omega

theorem cuV_mono {c : Cu} {a b : Int} (hc : cuOk c = true) (h0 : 0 ≤ a) (h : a ≤ b) : cuV c a ≤ cuV c b := by
  obtain ⟨a1, a2, a3, a4, a5, a6⟩ := cu_in hc
  rcases Int.le_total b c.2.1 with h1 | h1
  · rw [cu_lo h1, cu_lo (by omega)]
    exact Int.mul_le_mul_of_nonneg_left h a1
  · rw [cu_hi h1]
    rcases Int.le_total a c.2.1 with h2 | h2
    · rw [cu_lo h2]
      have b1 : c.1 * a ≤ c.1 * c.2.1 := Int.mul_le_mul_of_nonneg_left h2 a1
      have b2 : 0 ≤ c.2.2 * (b - c.2.1) := Int.mul_nonneg a5 (by omega)
      omega
    · rw [cu_hi h2]
      have b1 : c.2.2 * (a - c.2.1) ≤ c.2.2 * (b - c.2.1) := Int.mul_le_mul_of_nonneg_left (by omega) a5
      omega

theorem q_curveAt {d : Nat} {c : Cu} {t : Int} (hc : cuOk c = true) (h0 : 0 ≤ t) (h1 : t ≤ 100000) : g99 (d + 1) c t = some (cuV c t) := by
  obtain ⟨a1, a2, a3, a4, a5, a6⟩ := cu_in hc
  rw [e99]
  unfold cuV
  by_cases h : t ≤ c.2.1
  · have b1 := mul_in a1 a2 h0 h1
    rw [decide_eq_true h, oif_t, if_pos h, wr (by omega) (by omega)]
  · have b1 := mul_in a1 a2 a3 a4
    have b2 := mul_in (a := c.2.2) (b := t - c.2.1) a5 a6 (by omega) (show t - c.2.1 ≤ 100000 by omega)
    rw [decide_eq_false h, oif_f, if_neg h, wr (n := t - c.2.1) (by omega) (by omega), wr (n := c.1 * c.2.1) (by omega) (by omega), wr (n := c.2.2 * (t - c.2.1)) (by omega) (by omega), wr (by omega) (by omega)]

theorem q_cuAt {d : Nat} {c : Cu} {t : Int} (hc : cuOk c = true) (h0 : 0 ≤ t) (h1 : t ≤ 100000) : g134 (d + 1) c t = some (cuV c t) := by
  obtain ⟨a1, a2, a3, a4, a5, a6⟩ := cu_in hc
  rw [e134]
  unfold cuV
  by_cases h : t ≤ c.2.1
  · have b1 := mul_in a1 a2 h0 h1
    rw [decide_eq_true h, oif_t, if_pos h, wr (by omega) (by omega)]
  · have b1 := mul_in a1 a2 a3 a4
    have b2 := mul_in (a := c.2.2) (b := t - c.2.1) a5 a6 (by omega) (show t - c.2.1 ≤ 100000 by omega)
    rw [decide_eq_false h, oif_f, if_neg h, wr (n := t - c.2.1) (by omega) (by omega), wr (n := c.1 * c.2.1) (by omega) (by omega), wr (n := c.2.2 * (t - c.2.1)) (by omega) (by omega), wr (by omega) (by omega)]

/-- The service of a session. -/
def seAt (s : Se) (t : Int) : Int := s.2.2.1 + cuV s.1 (t - s.2.1)

theorem seAt_in {s : Se} {t : Int} (hc : cuOk s.1 = true) (h1 : 0 ≤ s.2.1) (h2 : 0 ≤ s.2.2.1) (h3 : s.2.2.1 ≤ 1000000) (h4 : s.2.1 ≤ t) (h5 : t ≤ 100000) : 0 ≤ seAt s t ∧ seAt s t ≤ 30000000000 := by
  have := cuV_in (t := t - s.2.1) hc (by omega) (by omega)
  unfold seAt; omega

theorem q_serviceAt {d : Nat} {s : Se} {t : Int} (hc : cuOk s.1 = true) (h1 : 0 ≤ s.2.1) (h2 : 0 ≤ s.2.2.1) (h3 : s.2.2.1 ≤ 1000000) (h4 : s.2.1 ≤ t) (h5 : t ≤ 100000) : g49 (d + 2) s t = some (seAt s t) := by
  have := cuV_in (t := t - s.2.1) hc (by omega) (by omega)
  rw [e49, wr (n := t - s.2.1) (by omega) (by omega), q_curveAt hc (by omega) (by omega), ob_s, wr (by omega) (by omega)]; rfl

theorem q_hfAt {d : Nat} {s : Se} {t : Int} (hc : cuOk s.1 = true) (h1 : 0 ≤ s.2.1) (h2 : 0 ≤ s.2.2.1) (h3 : s.2.2.1 ≤ 1000000) (h4 : s.2.1 ≤ t) (h5 : t ≤ 100000) : g103 (d + 2) s t = some (seAt s t) := by
  have := cuV_in (t := t - s.2.1) hc (by omega) (by omega)
  rw [e103, wr (n := t - s.2.1) (by omega) (by omega), q_cuAt hc (by omega) (by omega), ob_s, wr (by omega) (by omega)]; rfl

def svV (s : Se) (t : Int) : Int × Bool := if seOk s = true ∧ s.2.1 ≤ t ∧ t ≤ 100000 then (seAt s t, true) else (0, false)

theorem q_ServiceAt {d : Nat} {s : Se} {t : Int} (hl : s.2.2.2.2.length < 4194304) : g13 (d + 3) s t = some (svV s t) := by
  rw [e13, q_IsSession hl, ob_s]
  unfold svV
  cases hs : seOk s with
  | false => rw [if_neg (by simp)]; rfl
  | true =>
    obtain ⟨b0, b1, b2, b3, b4, b5, b6, b7, b8⟩ := se_in hs
    rw [Bool.not_true, oif_f, q_isTime, ob_s]
    unfold tmOk
    by_cases h1 : 0 ≤ t ∧ t ≤ 100000
    · rw [decide_eq_true h1, Bool.not_true, oif_f]
      by_cases h2 : t < s.2.1
      · rw [decide_eq_true h2, oif_t, if_neg (by omega)]
      · rw [decide_eq_false h2, oif_f, q_serviceAt b1 b2 b4 b5 (by omega) h1.2, ob_s, if_pos ⟨by trivial, by omega, h1.2⟩]
    · rw [decide_eq_false h1, if_neg (by omega)]; rfl

/-- The least place where something holds. -/
def lstN (f : Nat → Bool) : Nat → Nat → Nat
  | 0, i => i
  | k + 1, i => if f i = true then i else lstN f k (i + 1)

theorem lstN_spec (f : Nat → Bool) : ∀ (k i : Nat), i ≤ lstN f k i ∧ lstN f k i ≤ i + k ∧ (∀ j, i ≤ j → j < lstN f k i → f j = false) ∧ (lstN f k i < i + k → f (lstN f k i) = true)
  | 0, i => ⟨Nat.le_refl _, Nat.le_refl _, fun j h1 h2 => by simp only [lstN] at h2; omega, fun h => by simp only [lstN] at h; omega⟩
  | k + 1, i => by
    simp only [lstN]
    by_cases h : f i = true
    · rw [if_pos h]; exact ⟨Nat.le_refl _, by omega, fun j h1 h2 => by omega, fun _ => h⟩
    · rw [if_neg h]
      obtain ⟨a, b, c, e⟩ := lstN_spec f k (i + 1)
      refine ⟨by omega, by omega, fun j h1 h2 => ?_, fun h3 => e (by omega)⟩
      by_cases hj : j = i
      · subst hj; simpa using h
      · exact c j (by omega) h2

def thV (c : Cu) (y : Int) : Int := ((lstN (fun t => decide (y ≤ cuV c (t : Int))) 100001 0 : Nat) : Int)

theorem th_spec {c : Cu} {y : Int} (hc : cuOk c = true) : 0 ≤ thV c y ∧ thV c y ≤ 100001 ∧ ∀ t : Int, 0 ≤ t → t ≤ 100000 → (thV c y ≤ t ↔ y ≤ cuV c t) := by
  obtain ⟨a, b, e, f⟩ := lstN_spec (fun t => decide (y ≤ cuV c (t : Int))) 100001 0
  have hd : thV c y = ((lstN (fun t => decide (y ≤ cuV c (t : Int))) 100001 0 : Nat) : Int) := rfl
  generalize lstN (fun t => decide (y ≤ cuV c (t : Int))) 100001 0 = m at a b e f hd
  rw [hd]
  refine ⟨by omega, by omega, fun t h0 h1 => ?_⟩
  obtain ⟨n, rfl⟩ := Int.eq_ofNat_of_zero_le h0
  constructor
  · intro h
    have h2 := of_decide_eq_true (f (by omega))
    have h3 := cuV_mono (a := (m : Int)) (b := (n : Int)) hc (by omega) h
    omega
  · intro h
    rcases Nat.lt_or_ge n m with h2 | h2
    · have := of_decide_eq_false (e n (by omega) h2)
      exact absurd h this
    · omega

theorem q_cuLeast {d : Nat} {c : Cu} {y : Int} (hc : cuOk c = true) : g98 (d + 2) c y = some (if thV c y ≤ 100000 then thV c y else -1) := by
  obtain ⟨t1, t2, t3⟩ := th_spec (y := y) hc
  rw [e98, q_cuAt hc (by omega) (by omega), ob_s]
  by_cases h : cuV c 100000 < y
  · have := (t3 100000 (by omega) (by omega)).1
    rw [decide_eq_true h, oif_t, if_neg (by omega)]
  · have := (t3 100000 (by omega) (by omega)).2 (by omega)
    rw [decide_eq_false h, oif_f, if_pos this]
    refine iter_eq (fun _ => some (thV c y)) (fun st => (st.2 - st.1).toNat) (fun st => 0 ≤ st.1 ∧ st.1 ≤ thV c y ∧ thV c y ≤ st.2 ∧ st.2 ≤ 100000) ?_ fuelN (0, 100000) ⟨by simp, by simp only; omega, by simp only; omega, by simp⟩ (by rw [fuelN_eq]; decide)
    rintro ⟨lo, hi⟩ ag ⟨h1, h2, h3, h4⟩ hag
    simp only at h1 h2 h3 h4
    simp only [l98_0, l98_0_b]
    by_cases hlt : lo < hi
    · rw [decide_eq_true hlt, oif_t, wr (n := lo + hi) (by omega) (by omega), Int.tdiv_eq_ediv_of_nonneg (by omega), wr (n := (lo + hi) / 2) (by omega) (by omega), q_cuAt hc (by omega) (by omega), ob_s, wr (n := (lo + hi) / 2 + 1) (by omega) (by omega)]
      have hm := t3 ((lo + hi) / 2) (by omega) (by omega)
      by_cases hy : cuV c ((lo + hi) / 2) < y
      · have : ¬ thV c y ≤ (lo + hi) / 2 := fun h => by have := hm.1 h; omega
        rw [decide_eq_true hy, oif_t, hag _ ⟨by simp only; omega, by simp only; omega, h3, h4⟩ (by simp only; omega)]
      · have := hm.2 (by omega)
        rw [decide_eq_false hy, oif_f, hag _ ⟨h1, h2, by simp only; omega, by simp only; omega⟩ (by simp only; omega)]
    · rw [decide_eq_false hlt, oif_f]
      unfold j98_0
      congr 1; omega

/-- The deadline. -/
def dlV (s : Se) : Int × Bool := match s.2.2.2.2 with
  | [] => (0, false)
  | x :: _ => if s.2.1 + thV s.1 (s.2.2.2.1 + x - s.2.2.1) ≤ 100000 then (s.2.1 + thV s.1 (s.2.2.2.1 + x - s.2.2.1), true) else (0, false)

theorem sz_in {x : Int} (h : szOk x = true) : 1 ≤ x ∧ x ≤ 1500 := of_decide_eq_true h

theorem q_deadlineOf {d : Nat} {s : Se} (hs : seOk s = true) : g43 (d + 5) s = some (dlV s) := by
  obtain ⟨b0, b1, b2, b3, b4, b5, b6, b7, b8⟩ := se_in hs
  rw [e43]
  unfold dlV
  cases hz : s.2.2.2.2 with
  | nil => rfl
  | cons x r =>
    rw [hz] at b0 b8
    simp only [List.all_cons, Bool.and_eq_true] at b0
    have hx := sz_in b0.1
    obtain ⟨t1, t2, t3⟩ := th_spec (y := s.2.2.2.1 + x - s.2.2.1) b1
    have hq := seAt_in b1 b2 b4 b5 b3 (Int.le_refl 100000)
    have hm := t3 (100000 - s.2.1) (by omega) (by omega)
    have hat : seAt s 100000 = s.2.2.1 + cuV s.1 (100000 - s.2.1) := rfl
    rw [show ((((x :: r).length : Nat) : Int) == 0) = false by rw [beq_eq_false_iff_ne]; simp; omega, oif_f, List.getElem?_cons_zero, ob_s, q_serviceAt b1 b2 b4 b5 b3 (Int.le_refl _), ob_s, wr (n := s.2.2.2.1 + x) (by omega) (by omega)]
    simp only
    by_cases h : seAt s 100000 < s.2.2.2.1 + x
    · rw [decide_eq_true h, oif_t, if_neg (fun h2 => by have := hm.1 (by omega); omega)]
    · have h2 := hm.2 (by omega)
      rw [decide_eq_false h, oif_f, if_pos (by omega)]
      generalize hT : s.2.1 + thV s.1 (s.2.2.2.1 + x - s.2.2.1) = T
      refine iter_eq (fun _ => some (T, true)) (fun st => (st.2 + 1 - st.1).toNat) (fun st => s.2.1 ≤ st.1 ∧ st.1 ≤ T ∧ T ≤ st.2 + 1 ∧ st.2 ≤ 100000) ?_ fuelN (s.2.1, 100000) ⟨Int.le_refl _, by simp only; omega, by simp only; omega, Int.le_refl _⟩ (by rw [fuelN_eq]; simp only; omega)
      rintro ⟨lo, hi⟩ ag ⟨h3, h4, h5, h6⟩ hag
      simp only at h3 h4 h5 h6
      simp only [l43i94_0, l43i94_0_b]
      by_cases hlt : lo ≤ hi
      · have hq2 := seAt_in (t := (lo + hi) / 2) b1 b2 b4 b5 (by omega) (by omega)
        rw [decide_eq_true hlt, oif_t, wr (n := lo + hi) (by omega) (by omega), Int.tdiv_eq_ediv_of_nonneg (by omega), wr (n := (lo + hi) / 2) (by omega) (by omega), q_serviceAt b1 b2 b4 b5 (by omega) (by omega), ob_s, wr (n := s.2.2.2.1 + x) (by omega) (by omega), wr (n := (lo + hi) / 2 + 1) (by omega) (by omega), wr (n := (lo + hi) / 2 - 1) (by omega) (by omega)]
        have hm2 := t3 ((lo + hi) / 2 - s.2.1) (by omega) (by omega)
        have hat2 : seAt s ((lo + hi) / 2) = s.2.2.1 + cuV s.1 ((lo + hi) / 2 - s.2.1) := rfl
        by_cases hy : seAt s ((lo + hi) / 2) ≥ s.2.2.2.1 + x
        · have := hm2.2 (by omega)
          rw [decide_eq_true hy, oif_t, hag _ ⟨h3, h4, by simp only; omega, by simp only; omega⟩ (by simp only; omega)]
        · have : ¬ thV s.1 (s.2.2.2.1 + x - s.2.2.1) ≤ (lo + hi) / 2 - s.2.1 := fun h => by have := hm2.1 h; omega
          rw [decide_eq_false hy, oif_f, hag _ ⟨by simp only; omega, by simp only; omega, h5, h6⟩ (by simp only; omega)]
      · rw [decide_eq_false hlt, oif_f]
        unfold j43i94_0
        congr 2; omega

theorem dlV_in {s : Se} (hs : seOk s = true) : ((dlV s).2 = true ∧ 0 ≤ (dlV s).1) ∨ dlV s = (0, false) := by
  obtain ⟨b0, b1, b2, b3, b4, b5, b6, b7, b8⟩ := se_in hs
  unfold dlV
  split
  · exact .inr rfl
  · rename_i x r hz
    have := (th_spec (y := s.2.2.2.1 + x - s.2.2.1) b1).1
    by_cases h : s.2.1 + thV s.1 (s.2.2.2.1 + x - s.2.2.1) ≤ 100000
    · rw [if_pos h]; exact .inl ⟨rfl, by simp only; omega⟩
    · rw [if_neg h]; exact .inr rfl

def doV (s : Se) : Int × Bool := if seOk s = true then dlV s else (0, false)

theorem q_DeadlineOf {d : Nat} {s : Se} (hl : s.2.2.2.2.length < 4194304) : g9 (d + 6) s = some (doV s) := by
  rw [e9, q_IsSession hl, ob_s]
  unfold doV
  cases hs : seOk s with
  | false => rfl
  | true => rw [Bool.not_true, oif_f, q_deadlineOf hs, ob_s, if_pos rfl]

theorem q_hfDeadline {d : Nat} {s : Se} (hs : seOk s = true) : g45 (d + 3) s = some (if (dlV s).2 = true then (dlV s).1 else -1) := by
  obtain ⟨b0, b1, b2, b3, b4, b5, b6, b7, b8⟩ := se_in hs
  rw [e45]
  unfold dlV
  cases hz : s.2.2.2.2 with
  | nil => rfl
  | cons x r =>
    rw [hz] at b0 b8
    simp only [List.all_cons, Bool.and_eq_true] at b0
    have hx := sz_in b0.1
    obtain ⟨t1, t2, t3⟩ := th_spec (y := s.2.2.2.1 + x - s.2.2.1) b1
    rw [show ((((x :: r).length : Nat) : Int) == 0) = false by rw [beq_eq_false_iff_ne]; simp; omega, oif_f, List.getElem?_cons_zero, ob_s, wr (n := s.2.2.2.1 + x) (by omega) (by omega), wr (n := s.2.2.2.1 + x - s.2.2.1) (by omega) (by omega), q_cuLeast b1, ob_s]
    simp only
    by_cases h : thV s.1 (s.2.2.2.1 + x - s.2.2.1) ≤ 100000
    · rw [if_pos h, decide_eq_false (by omega), oif_f, wr (n := s.2.1 + thV s.1 (s.2.2.2.1 + x - s.2.2.1)) (by omega) (by omega)]
      by_cases h2 : s.2.1 + thV s.1 (s.2.2.2.1 + x - s.2.2.1) ≤ 100000
      · rw [if_pos h2, decide_eq_false (by omega), oif_f]; rfl
      · rw [if_neg h2, decide_eq_true (by omega), oif_t]; rfl
    · rw [if_neg h, if_neg (show ¬ s.2.1 + thV s.1 (s.2.2.2.1 + x - s.2.2.1) ≤ 100000 by omega)]; rfl

theorem q_sDeadlineOf {d : Nat} {s : Se} (hl : s.2.2.2.2.length < 4194304) : g10 (d + 4) s = some (doV s) := by
  rw [e10, q_hfGood hl, ob_s]
  unfold doV
  cases hs : seOk s with
  | false => rfl
  | true =>
    rw [Bool.not_true, oif_f, q_hfDeadline hs, ob_s, if_pos rfl]
    rcases dlV_in hs with ⟨h1, h2⟩ | h
    · rw [if_pos h1, decide_eq_false (by omega), oif_f, ob_s]
      generalize hv : dlV s = v at h1
      obtain ⟨a, b⟩ := v
      simp only at h1; subst h1; rfl
    · rw [h]; rfl

/-- A session is served. -/
theorem q_CloneI {d : Nat} {l : List Int} (hl : l.length ≤ 100000) : g50 (d + 1) l = some l := by
  rw [e50, room (by simp; omega), oif_t, List.nil_append]
  cases l with
  | nil => simp [nilB, both]
  | cons x r => rfl

theorem q_l1Own2 {d : Nat} {l : List Int} (hl : l.length ≤ 100000) : g100 (d + 1) l = some l := by
  rw [e100, room (by simp; omega), oif_t, List.nil_append]

theorem q_hfOwn {d : Nat} {s : Se} (hl : s.2.2.2.2.length ≤ 100000) : g56 (d + 2) s = some s := by
  rw [e56, q_l1Own2 hl, ob_s]

theorem q_copySession {d : Nat} {s : Se} (hl : s.2.2.2.2.length ≤ 100000) : g54 (d + 2) s = some s := by
  rw [e54, q_CloneI hl, ob_s]

def noSe : Se := ((0, 0, 0), 0, 0, 0, [])

def soV (s : Se) : Se × Int × Bool := match s.2.2.2.2 with
  | [] => (noSe, 0, false)
  | x :: r => if seOk s = true ∧ s.2.2.2.1 + x ≤ 1000000000 then ((s.1, s.2.1, s.2.2.1, s.2.2.2.1 + x, r), x, true) else (noSe, 0, false)

theorem q_ServeOne {d : Nat} {s : Se} (hl : s.2.2.2.2.length ≤ 100000) : g14 (d + 3) s = some (soV s) := by
  rw [e14, q_IsSession (by omega), ob_s]
  unfold soV j14_0
  cases hs : seOk s with
  | false =>
    rw [Bool.not_false, oif_t, oif_t]
    split
    · rfl
    · rw [if_neg (by simp)]; rfl
  | true =>
    obtain ⟨b0, b1, b2, b3, b4, b5, b6, b7, b8⟩ := se_in hs
    rw [Bool.not_true, oif_f]
    cases hz : s.2.2.2.2 with
    | nil => rfl
    | cons x r =>
      rw [hz] at b0 b8
      simp only [List.all_cons, Bool.and_eq_true] at b0
      have hx := sz_in b0.1
      simp only [List.length_cons] at b8
      rw [show ((((x :: r).length : Nat) : Int) == 0) = false by rw [beq_eq_false_iff_ne]; simp; omega, oif_f, List.getElem?_cons_zero, ob_s, wr (n := s.2.2.2.1 + x) (by omega) (by omega)]
      simp only
      by_cases h : s.2.2.2.1 + x > 1000000000
      · rw [decide_eq_true h, oif_t, if_neg (by omega)]; rfl
      · rw [decide_eq_false h, oif_f, if_pos ⟨by trivial, by omega⟩, ob_s, show Nat.ble 1 (x :: r).length = true by rw [Nat.ble_eq]; simp, oif_t, List.drop_one, List.tail_cons, q_CloneI (by omega), ob_s, wr (n := s.2.2.2.1 + x) (by omega) (by omega)]

theorem q_hfServe {d : Nat} {s : Se} {x : Int} {r : List Int} (hz : s.2.2.2.2 = x :: r) (hl : r.length ≤ 1000) (h0 : -1000000000000 ≤ s.2.2.2.1 + x) (h1 : s.2.2.2.1 + x ≤ 1000000000000) : g51 (d + 3) s = some (s.1, s.2.1, s.2.2.1, s.2.2.2.1 + x, r) := by
  rw [e51, q_hfOwn (by rw [hz]; simp; omega), ob_s, hz, List.getElem?_cons_zero, ob_s, show Nat.ble 1 (x :: r).length = true by rw [Nat.ble_eq]; simp, oif_t, List.drop_one, List.tail_cons, q_l1Own2 (by omega), ob_s, wr (n := s.2.2.2.1 + x) (by omega) (by omega)]

theorem q_sServeOne {d : Nat} {s : Se} (hl : s.2.2.2.2.length ≤ 100000) : g15 (d + 4) s = some (soV s) := by
  rw [e15, q_hfGood (by omega), ob_s]
  unfold soV
  cases hs : seOk s with
  | false =>
    rw [Bool.not_false, oif_t]
    split
    · rfl
    · rw [if_neg (by simp)]; rfl
  | true =>
    obtain ⟨b0, b1, b2, b3, b4, b5, b6, b7, b8⟩ := se_in hs
    rw [Bool.not_true, oif_f]
    cases hz : s.2.2.2.2 with
    | nil => rfl
    | cons x r =>
      have c0 := b0
      rw [hz] at c0 b8
      simp only [List.all_cons, Bool.and_eq_true] at c0
      have hx := sz_in c0.1
      simp only [List.length_cons] at b8
      rw [show ((((x :: r).length : Nat) : Int) == 0) = false by rw [beq_eq_false_iff_ne]; simp; omega, oif_f, q_hfServe hz (by omega) (by omega) (by omega), ob_s, q_hfGood (by simp only; omega), ob_s]
      simp only
      by_cases h : s.2.2.2.1 + x ≤ 1000000000
      · have e : seOk (s.1, s.2.1, s.2.2.1, s.2.2.2.1 + x, r) = true := se_mk c0.2 b1 (by simp only; omega)
        rw [e, Bool.not_true, oif_f, ob_s, List.getElem?_cons_zero, ob_s, if_pos ⟨by trivial, h⟩]
      · have e : seOk (s.1, s.2.1, s.2.2.1, s.2.2.2.1 + x, r) = false := by
          cases hc : seOk (s.1, s.2.1, s.2.2.1, s.2.2.2.1 + x, r) with
          | false => rfl
          | true =>
            have := (se_in hc).2.2.2.2.2.2.2.1
            simp only at this; omega
        rw [e, Bool.not_false, oif_t, if_neg (fun h2 => h h2.2)]; rfl

theorem q_pSameSession {d : Nat} {s : Se} (hl : s.2.2.2.2.length < 4194304) : g16 (d + 2) s s = some true := by
  rw [e16]
  simp only [beq_self_eq_true, Bool.and_self, Bool.true_and, oif_t]
  rw [q_sameInts hl, ob_s]

def outV (s : Se) (t : Int) : Se := (s.1, t, s.2.2.2.1, s.2.2.2.1, s.2.2.2.2)

def inT (t u : Int) : Bool := decide (t ≤ u ∧ u ≤ 100000)

def leV (a b : Se) (u : Int) : Bool := decide (seAt a u ≤ seAt b u)

def belV (s : Se) (t : Int) : Bool := [t, s.2.1 + s.1.2.1, t + s.1.2.1, 100000].all fun u => !inT t u || leV (outV s t) s u

def rsOk (s : Se) (t : Int) : Bool := seOk s && (inT s.2.1 t && decide (s.2.2.2.1 ≤ 1000000))

def rsV (s : Se) (t : Int) : Se × Bool := if rsOk s t = true then (if belV s t = true then outV s t else s, true) else (noSe, false)

theorem rs_in {s : Se} {t : Int} (h : rsOk s t = true) : seOk s = true ∧ s.2.1 ≤ t ∧ t ≤ 100000 ∧ s.2.2.2.1 ≤ 1000000 := by
  unfold rsOk inT at h
  simp only [Bool.and_eq_true, decide_eq_true_eq] at h
  exact ⟨h.1, h.2.1.1, h.2.1.2, h.2.2⟩

theorem q_RestartSession {d : Nat} {s : Se} {t : Int} (hl : s.2.2.2.2.length ≤ 100000) : g18 (d + 3) s t = some (rsV s t) := by
  rw [e18, q_IsSession (by omega), ob_s]
  unfold rsV
  cases hr : rsOk s t with
  | false =>
    rw [if_neg (by simp)]
    have hj : j18_1 (d + 2) s t true = some (noSe, false) := rfl
    unfold rsOk inT at hr
    cases hs : seOk s with
    | false => rw [Bool.not_false, oif_t, hj]
    | true =>
      obtain ⟨b0, b1, b2, b3, b4, b5, b6, b7, b8⟩ := se_in hs
      rw [hs, Bool.true_and] at hr
      rw [Bool.not_true, oif_f, q_isTime, ob_s]
      cases ht : tmOk t with
      | false => rw [Bool.not_false, oif_t, hj]
      | true =>
        have ht := of_decide_eq_true ht
        rw [Bool.not_true, oif_f]
        by_cases h : t < s.2.1
        · rw [decide_eq_true h, oif_t, hj]
        · rw [decide_eq_true (show s.2.1 ≤ t ∧ t ≤ 100000 by omega), Bool.true_and] at hr
          have hr := of_decide_eq_false hr
          rw [decide_eq_false h, oif_f, decide_eq_true (by omega), hj]
  | true =>
    obtain ⟨hs, r1, r2, r3⟩ := rs_in hr
    obtain ⟨b0, b1, b2, b3, b4, b5, b6, b7, b8⟩ := se_in hs
    obtain ⟨a1, a2, a3, a4, a5, a6⟩ := cu_in b1
    rw [hs, Bool.not_true, oif_f, q_isTime, ob_s]
    unfold tmOk
    rw [decide_eq_true (show 0 ≤ t ∧ t ≤ 100000 by omega), Bool.not_true, oif_f, decide_eq_false (by omega), oif_f, decide_eq_false (by omega)]
    unfold j18_1
    rw [oif_f, q_copySession (by omega), ob_s, if_pos rfl]
    refine (range_eq (fun (b : Bool) (i : Int) => (b, i)) [t, s.2.1 + s.1.2.1, t + s.1.2.1, 100000] (fun u _ b k => oif (!inT t u || leV (outV s t) s u) (k b) (some (s, true))) (j18_0 (d + 2) s t s) ?_ ?_ (by rw [fuelN_eq]; simp) false).trans ?_
    · intro ag b i u hu
      have hi := (List.getElem?_eq_some_iff.1 hu).1
      simp only [l18_0, l18_0_b]
      rw [wr (n := s.2.1 + s.1.2.1) (by omega) (by omega), wr (n := t + s.1.2.1) (by omega) (by omega)]
      simp only [ltl hu, bltl hu, nn, ofNat_toNat, hu, ob_s, oif_t]
      rw [wr1 (by simp at hi; omega)]
      unfold inT
      by_cases h1 : u ≥ t
      · rw [decide_eq_true h1, oif_t]
        by_cases h2 : u ≤ 100000
        · have q1 : g49 (d + 2) (s.1, t, s.2.2.2.1, s.2.2.2) u = some (seAt (outV s t) u) := q_serviceAt (s := outV s t) b1 (by show 0 ≤ t; omega) (by show 0 ≤ s.2.2.2.1; omega) r3 h1 h2
          rw [decide_eq_true h2, oif_t, q1, ob_s, q_serviceAt b1 b2 b4 b5 (by omega) h2, ob_s, decide_eq_true (show t ≤ u ∧ u ≤ 100000 by omega), Bool.not_true, Bool.false_or]
          unfold leV
          by_cases h3 : seAt (outV s t) u > seAt s u
          · rw [decide_eq_true h3, oif_t, q_copySession (by omega), ob_s, decide_eq_false (by omega), oif_f]
          · rw [decide_eq_false h3, oif_f, decide_eq_true (by omega), oif_t]
        · rw [decide_eq_false h2, oif_f, decide_eq_false (by omega)]; rfl
      · rw [decide_eq_false h1, oif_f, decide_eq_false (by omega)]; rfl
    · intro ag b
      simp only [l18_0, l18_0_b]
      rw [decide_eq_false (by simp), oif_f]
    · rw [rangeR_all (p := fun u => !inT t u || leV (outV s t) s u)]
      show oif (belV s t) _ _ = _
      cases belV s t <;> rfl

theorem q_hfBelow {d : Nat} {s : Se} {t : Int} (hr : rsOk s t = true) : g57 (d + 3) (outV s t) s = some (belV s t) := by
  obtain ⟨hs, r1, r2, r3⟩ := rs_in hr
  obtain ⟨b0, b1, b2, b3, b4, b5, b6, b7, b8⟩ := se_in hs
  obtain ⟨a1, a2, a3, a4, a5, a6⟩ := cu_in b1
  have w1 : IntKind.i64.wrap ((outV s t).2.1 + (outV s t).1.2.1) = t + s.1.2.1 := wr (n := t + s.1.2.1) (by omega) (by omega)
  have w2 : IntKind.i64.wrap (s.2.1 + s.1.2.1) = s.2.1 + s.1.2.1 := wr (by omega) (by omega)
  have eo : (outV s t).2.1 = t := rfl
  rw [e57]
  refine (range_eq (fun (l : List Int) (i : Int) => (l, i)) [t + s.1.2.1, s.2.1 + s.1.2.1] (fun u _ l k => oif (inT t u) (oif (Nat.ble ((l.length + [u].length) * 8) roomMax) (k (l ++ [u])) none) (k l)) (j57_1 (d + 2) (outV s t) s) ?_ ?_ (by rw [fuelN_eq]; simp) [(outV s t).2.1, 100000]).trans ?_
  · intro ag l i u hu
    have hi := (List.getElem?_eq_some_iff.1 hu).1
    simp only [l57_0, l57_0_b]
    rw [w1, w2]
    simp only [ltl hu, bltl hu, nn, ofNat_toNat, hu, ob_s, oif_t]
    rw [wr1 (by simp at hi; omega), q_l1In, ob_s]
    rfl
  · intro ag l
    simp only [l57_0, l57_0_b]
    rw [w1, w2, decide_eq_false (by simp), oif_f]
  · rw [rangeR_sel (c := fun u _ => inT t u) (e := fun u _ => u) (w := 8) _ _ _ (by simp)]
    have fin : ∀ l : List Int, l.length ≤ 1000 → (∀ u ∈ l, t ≤ u ∧ u ≤ 100000) → j57_1 (d + 2) (outV s t) s l = some (l.all (leV (outV s t) s)) := by
      intro l hl hin
      unfold j57_1
      refine (range_eq (fun (b : Bool) (i : Int) => (b, i)) l (fun u _ b k => oif (inT t u) (oif (leV (outV s t) s u) (k b) (some false)) none) (j57_0 (d + 2)) ?_ ?_ (by rw [fuelN_eq]; omega) false).trans ?_
      · intro ag b i x hx
        have hi := (List.getElem?_eq_some_iff.1 hx).1
        simp only [l57_1, l57_1_b, ltl hx, bltl hx, nn, ofNat_toNat, hx, ob_s, oif_t]
        rw [wr1 (by omega)]
        have hm := hin x (List.mem_of_getElem? hx)
        have q1 : g103 (d + 2) (outV s t) x = some (seAt (outV s t) x) := q_hfAt (s := outV s t) b1 (by show 0 ≤ t; omega) (by show 0 ≤ s.2.2.2.1; omega) r3 hm.1 hm.2
        rw [q1, ob_s, q_hfAt b1 b2 b4 b5 (by omega) hm.2, ob_s]
        unfold inT leV
        rw [decide_eq_true hm, oif_t]
        by_cases h3 : seAt (outV s t) x > seAt s x
        · rw [decide_eq_true h3, oif_t, decide_eq_false (by omega), oif_f]
        · rw [decide_eq_false h3, oif_f, decide_eq_true (by omega), oif_t]
      · intro ag t; simp only [l57_1, l57_1_b, ltn, oif_f]
      · rw [rangeR_congr (step' := fun u _ b k => oif (leV (outV s t) s u) (k b) (some false)) (fin' := j57_0 (d + 2)) l 0 false (fun u hu i b k => by
          have : inT t u = true := decide_eq_true (hin u hu)
          rw [this, oif_t]) (fun _ => rfl), rangeR_all (p := leV (outV s t) s)]
        cases l.all _ <;> rfl
    have hT : inT t t = true := decide_eq_true (by omega)
    have h1 : inT t 100000 = true := decide_eq_true (by omega)
    rw [fin _ (by have := selI_len (c := fun u (_ : Nat) => inT t u) (e := fun u _ => u) [t + s.1.2.1, s.2.1 + s.1.2.1] 0; simp only [List.length_append, List.length_cons, List.length_nil] at this ⊢; omega) (by
      intro u hu
      rcases List.mem_append.1 hu with h | h
      · simp only [List.mem_cons, List.not_mem_nil, or_false] at h
        rcases h with h | h
        · rw [h, eo]; omega
        · omega
      · obtain ⟨j, z, _, h2, h3⟩ := selI_mem _ _ h
        subst h3; exact of_decide_eq_true h2)]
    congr 1
    unfold belV
    rw [eo]
    simp only [selI, List.all_append, List.all_cons, List.all_nil, Bool.and_true, hT, h1, Bool.not_true, Bool.false_or]
    generalize leV (outV s t) s t = p
    generalize leV (outV s t) s 100000 = q
    rcases Bool.eq_false_or_eq_true (inT t (t + s.1.2.1)) with h2 | h2 <;> rcases Bool.eq_false_or_eq_true (inT t (s.2.1 + s.1.2.1)) with h3 | h3 <;> simp only [h2, h3, if_true, Bool.false_eq_true, if_false, List.all_cons, List.all_nil, Bool.and_true, Bool.not_true, Bool.not_false, Bool.true_or, Bool.false_or, Bool.true_and] <;> generalize leV (outV s t) s (t + s.1.2.1) = a <;> generalize leV (outV s t) s (s.2.1 + s.1.2.1) = b <;> cases p <;> cases q <;> cases a <;> cases b <;> rfl

theorem q_sRestartSession {d : Nat} {s : Se} {t : Int} (hl : s.2.2.2.2.length ≤ 100000) : g19 (d + 5) s t = some (rsV s t) := by
  rw [e19, e55, q_hfGood (by omega), ob_s]
  unfold rsV
  have hj : j19_0 (d + 4) s t true = some (noSe, false) := rfl
  cases hr : rsOk s t with
  | false =>
    rw [if_neg (by simp)]
    unfold rsOk at hr
    cases hs : seOk s with
    | false => rw [oif_f, ob_s, Bool.not_false, oif_t, hj]
    | true =>
      rw [hs, Bool.true_and] at hr
      rw [oif_t, q_l1In, ob_s, ob_s]
      unfold inT at hr
      cases h : decide (s.2.1 ≤ t ∧ t ≤ 100000) with
      | false => rw [Bool.not_false, oif_t, hj]
      | true =>
        rw [h, Bool.true_and] at hr
        have hr := of_decide_eq_false hr
        rw [Bool.not_true, oif_f, decide_eq_true (by omega), hj]
  | true =>
    obtain ⟨hs, r1, r2, r3⟩ := rs_in hr
    rw [hs, oif_t, q_l1In, ob_s, ob_s, decide_eq_true (show s.2.1 ≤ t ∧ t ≤ 100000 by omega), Bool.not_true, oif_f, decide_eq_false (by omega)]
    unfold j19_0
    have hb : g57 (d + 4) (s.1, t, s.2.2.2.1, s.2.2.2) s = some (belV s t) := q_hfBelow (d := d + 1) hr
    rw [oif_f, q_hfOwn (by omega), ob_s, hb, ob_s, if_pos rfl]
    cases belV s t <;> rfl

/-- Where it is below at the corners, it is below. -/
theorem bel_all {s : Se} {t m : Int} (hr : rsOk s t = true) (hb : belV s t = true) (h0 : t ≤ m) (h1 : m ≤ 100000) : seAt (outV s t) m ≤ seAt s m := by
  obtain ⟨hs, r1, r2, r3⟩ := rs_in hr
  obtain ⟨b0, b1, b2, b3, b4, b5, b6, b7, b8⟩ := se_in hs
  obtain ⟨a1, a2, a3, a4, a5, a6⟩ := cu_in b1
  unfold belV at hb
  simp only [List.all_cons, List.all_nil, Bool.and_true, Bool.and_eq_true, Bool.or_eq_true, Bool.not_eq_true', inT, leV, decide_eq_true_eq, decide_eq_false_iff_not] at hb
  obtain ⟨p1, p2, p3, p4⟩ := hb
  replace p1 := p1.resolve_left (by omega)
  replace p4 := p4.resolve_left (by omega)
  have eo : ∀ u, seAt (outV s t) u = s.2.2.2.1 + cuV s.1 (u - t) := fun _ => rfl
  have es : ∀ u, seAt s u = s.2.2.1 + cuV s.1 (u - s.2.1) := fun _ => rfl
  simp only [eo, es] at p1 p2 p3 p4 ⊢
  generalize s.1 = c at *
  obtain ⟨F, L, S⟩ := c
  simp only at a1 a2 a3 a4 a5 a6 p2 p3
  generalize s.2.1 = A at *
  generalize s.2.2.1 = B at *
  generalize s.2.2.2.1 = V at *
  rcases Int.le_total (m - A) L with k1 | k1
  · rw [cu_lo (c := (F, L, S)) (t := t - t) (by simp only; omega), cu_lo (c := (F, L, S)) (t := t - A) (by simp only; omega)] at p1
    rw [cu_lo (c := (F, L, S)) (t := m - t) (by simp only; omega), cu_lo (c := (F, L, S)) (t := m - A) k1]
    simp only at p1 ⊢
    have := mul_split (F := F) (show m - A = (m - t) + (t - A) by omega)
    rw [Int.sub_self, Int.mul_zero] at p1
    omega
  · rcases Int.le_total (m - t) L with k2 | k2
    · rw [cu_lo (c := (F, L, S)) (t := m - t) k2, cu_hi (c := (F, L, S)) (t := m - A) k1]
      simp only
      rcases Int.le_total F S with k3 | k3
      · by_cases k4 : t ≤ A + L
        · replace p2 := p2.resolve_left (by omega)
          rw [cu_lo (c := (F, L, S)) (t := A + L - t) (by simp only; omega), cu_lo (c := (F, L, S)) (t := A + L - A) (by simp only; omega)] at p2
          simp only at p2
          have e1 := mul_split (F := F) (show m - t = (A + L - t) + (m - A - L) by omega)
          have e2 := mul_up (x := m - A - L) k3 (by omega)
          rw [show A + L - A = L by omega] at p2
          omega
        · rw [cu_lo (c := (F, L, S)) (t := t - t) (by simp only; omega), cu_hi (c := (F, L, S)) (t := t - A) (by simp only; omega)] at p1
          simp only at p1
          have e1 := mul_split (F := S) (show m - A - L = (t - A - L) + (m - t) by omega)
          have e2 := mul_up (x := m - t) k3 (by omega)
          rw [Int.sub_self, Int.mul_zero] at p1
          omega
      · by_cases k4 : t + L ≤ 100000
        · replace p3 := p3.resolve_left (by omega)
          rw [cu_lo (c := (F, L, S)) (t := t + L - t) (by simp only; omega), cu_hi (c := (F, L, S)) (t := t + L - A) (by simp only; omega)] at p3
          simp only at p3
          rw [show t + L - t = L by omega, show t + L - A - L = t - A by omega] at p3
          have e1 := mul_split (F := F) (show L = (m - t) + (t + L - m) by omega)
          have e2 := mul_split (F := S) (show t - A = (m - A - L) + (t + L - m) by omega)
          have e3 := mul_up (x := t + L - m) k3 (by omega)
          omega
        · rw [cu_lo (c := (F, L, S)) (t := 100000 - t) (by simp only; omega), cu_hi (c := (F, L, S)) (t := 100000 - A) (by simp only; omega)] at p4
          simp only at p4
          have e1 := mul_split (F := F) (show 100000 - t = (m - t) + (100000 - m) by omega)
          have e2 := mul_split (F := S) (show 100000 - A - L = (m - A - L) + (100000 - m) by omega)
          have e3 := mul_up (x := 100000 - m) k3 (by omega)
          omega
    · rw [cu_hi (c := (F, L, S)) (t := m - t) k2, cu_hi (c := (F, L, S)) (t := m - A) k1]
      simp only
      replace p3 := p3.resolve_left (by omega)
      rw [cu_lo (c := (F, L, S)) (t := t + L - t) (by simp only; omega), cu_hi (c := (F, L, S)) (t := t + L - A) (by simp only; omega)] at p3
      simp only at p3
      rw [show t + L - t = L by omega, show t + L - A - L = t - A by omega] at p3
      have e2 := mul_split (F := S) (show m - A - L = (t - A) + (m - t - L) by omega)
      omega

/-- Eligible. -/
def eaV (s : Se) (t : Int) : Bool := decide (0 < s.2.2.2.2.length ∧ s.2.1 ≤ t ∧ s.2.2.2.1 ≤ seAt s t)

def elV (s : Se) (t : Int) : Bool × Bool := if seOk s = true ∧ tmOk t = true then (eaV s t, true) else (false, false)

theorem q_EligibleAt {d : Nat} {s : Se} {t : Int} (hl : s.2.2.2.2.length < 4194304) : g21 (d + 4) s t = some (elV s t) := by
  rw [e21, q_IsSession hl, ob_s]
  unfold elV
  cases hs : seOk s with
  | false => rw [if_neg (by simp)]; rfl
  | true =>
    obtain ⟨b0, b1, b2, b3, b4, b5, b6, b7, b8⟩ := se_in hs
    rw [Bool.not_true, oif_f, q_isTime, ob_s]
    cases ht : tmOk t with
    | false => rw [if_neg (by simp)]; rfl
    | true =>
      have ht2 := of_decide_eq_true ht
      rw [Bool.not_true, oif_f, if_pos ⟨by trivial, by trivial⟩, e58]
      unfold eaV
      by_cases h1 : (((s.2.2.2.2.length : Nat) : Int) > 0)
      · rw [decide_eq_true h1, oif_t]
        by_cases h2 : t ≥ s.2.1
        · rw [decide_eq_true h2, oif_t, q_serviceAt b1 b2 b4 b5 h2 ht2.2, ob_s, ob_s]
          congr 2
          rw [Bool.eq_iff_iff]; simp; omega
        · rw [decide_eq_false h2, oif_f, ob_s, decide_eq_false (by omega)]
      · rw [decide_eq_false h1, oif_f, ob_s, decide_eq_false (by omega)]

theorem q_sEligibleAt {d : Nat} {s : Se} {t : Int} (hl : s.2.2.2.2.length < 4194304) : g22 (d + 4) s t = some (elV s t) := by
  rw [e22, q_hfGood hl, ob_s]
  unfold elV
  cases hs : seOk s with
  | false => rw [if_neg (by simp)]; rfl
  | true =>
    obtain ⟨b0, b1, b2, b3, b4, b5, b6, b7, b8⟩ := se_in hs
    rw [Bool.not_true, oif_f, q_cuTime, ob_s]
    cases ht : tmOk t with
    | false => rw [if_neg (by simp)]; rfl
    | true =>
      have ht2 := of_decide_eq_true ht
      rw [Bool.not_true, oif_f, if_pos ⟨by trivial, by trivial⟩, e60]
      unfold eaV
      by_cases h1 : (((s.2.2.2.2.length : Nat) : Int) > 0)
      · rw [decide_eq_true h1, oif_t]
        by_cases h2 : t ≥ s.2.1
        · rw [decide_eq_true h2, oif_t, q_hfAt b1 b2 b4 b5 h2 ht2.2, ob_s, ob_s]
          congr 2
          rw [Bool.eq_iff_iff]; simp; omega
        · rw [decide_eq_false h2, oif_f, ob_s, decide_eq_false (by omega)]
      · rw [decide_eq_false h1, oif_f, ob_s, decide_eq_false (by omega)]

theorem nt_size {n : Nat} (h : n ≤ 1000000000) : (ntV n).size ≤ 20 := by
  obtain ⟨r, hr⟩ := fm_head n
  exact (fm_at (i := 0) h (by rw [hr]; rfl)).2.1

def cuL (c : Cu) : List UInt8 := bl (ntV c.1.toNat) ++ (47 :: (bl (ntV c.2.1.toNat) ++ (47 :: bl (ntV c.2.2.toNat))))

theorem cuL_len {c : Cu} (hc : cuOk c = true) : (cuL c).length ≤ 62 := by
  obtain ⟨a1, a2, a3, a4, a5, a6⟩ := cu_in hc
  have h1 := nt_size (n := c.1.toNat) (by omega)
  have h2 := nt_size (n := c.2.1.toNat) (by omega)
  have h3 := nt_size (n := c.2.2.toNat) (by omega)
  rw [bl_len] at h1 h2 h3
  unfold cuL
  simp only [List.length_append, List.length_cons]; omega

theorem cuL_app (c : Cu) : ntV c.1.toNat ++ (⟨#[47]⟩ : ByteArray) ++ ntV c.2.1.toNat ++ (⟨#[47]⟩ : ByteArray) ++ ntV c.2.2.toNat = ofL (cuL c) := by
  refine bl_inj.1 ?_
  rw [bl_app, bl_app, bl_app, bl_app, bl_ofL, bl_lit [47]]
  unfold cuL; simp

theorem q_curveText {d : Nat} {c : Cu} (hc : cuOk c = true) : g61 (d + 3) c = some (ofL (cuL c)) := by
  obtain ⟨a1, a2, a3, a4, a5, a6⟩ := cu_in hc
  have h1 := nt_size (n := c.1.toNat) (by omega)
  have h2 := nt_size (n := c.2.1.toNat) (by omega)
  have h3 := nt_size (n := c.2.2.toNat) (by omega)
  have z : (⟨#[47]⟩ : ByteArray).size = 1 := rfl
  have e1 : g104 (d + 2) c.1 = some (ntV c.1.toNat) := by have := q_numberText (d := d) (n := c.1.toNat) (by omega); rwa [Int.toNat_of_nonneg a1] at this
  have e2 : g104 (d + 2) c.2.1 = some (ntV c.2.1.toNat) := by have := q_numberText (d := d) (n := c.2.1.toNat) (by omega); rwa [Int.toNat_of_nonneg a3] at this
  have e3 : g104 (d + 2) c.2.2 = some (ntV c.2.2.toNat) := by have := q_numberText (d := d) (n := c.2.2.toNat) (by omega); rwa [Int.toNat_of_nonneg a5] at this
  rw [e61, e1, ob_s, room2 (by omega), e2, ob_s, room2 (by simp only [ByteArray.size_append]; omega), room2 (by simp only [ByteArray.size_append]; omega), e3, ob_s, room2 (by simp only [ByteArray.size_append]; omega), cuL_app]

theorem q_cuText {d : Nat} {c : Cu} (hc : cuOk c = true) : g63 (d + 14) c = some (ofL (cuL c)) := by
  obtain ⟨a1, a2, a3, a4, a5, a6⟩ := cu_in hc
  have h1 := nt_size (n := c.1.toNat) (by omega)
  have h2 := nt_size (n := c.2.1.toNat) (by omega)
  have h3 := nt_size (n := c.2.2.toNat) (by omega)
  have z : (⟨#[47]⟩ : ByteArray).size = 1 := rfl
  have e1 : g107 (d + 13) c.1 = some (ntV c.1.toNat) := by have := q_nuText (d := d) (n := c.1.toNat) (by omega); rwa [Int.toNat_of_nonneg a1] at this
  have e2 : g107 (d + 13) c.2.1 = some (ntV c.2.1.toNat) := by have := q_nuText (d := d) (n := c.2.1.toNat) (by omega); rwa [Int.toNat_of_nonneg a3] at this
  have e3 : g107 (d + 13) c.2.2 = some (ntV c.2.2.toNat) := by have := q_nuText (d := d) (n := c.2.2.toNat) (by omega); rwa [Int.toNat_of_nonneg a5] at this
  rw [e63, e1, ob_s, room2 (by omega), e2, ob_s, room2 (by simp only [ByteArray.size_append]; omega), room2 (by simp only [ByteArray.size_append]; omega), e3, ob_s, room2 (by simp only [ByteArray.size_append]; omega), cuL_app]

/-- Numbers between blanks. -/
def tlL (r : List Nat) : List UInt8 := (r.map fun y => 32 :: Go.Lib.decDigits y).flatten

def jnL : List Nat → List UInt8
  | [] => []
  | x :: r => Go.Lib.decDigits x ++ tlL r

theorem tlL_len : ∀ r : List Nat, (∀ x ∈ r, x ≤ 1000000000) → (tlL r).length ≤ 11 * r.length
  | [], _ => by simp [tlL]
  | x :: r, h => by
    have h1 := tlL_len r (fun y hy => h y (by simp [hy]))
    have h2 := (dd_len 9 x (by have := h x (by simp); omega)).2
    unfold tlL at h1 ⊢
    simp only [List.map_cons, List.flatten_cons, List.length_append, List.length_cons]; omega

theorem join_jn (x : Nat) (r : List Nat) : joinB ((x :: r).map dS) ⟨#[32]⟩ = jnL (x :: r) := by
  unfold joinB
  rw [List.map_map, List.map_cons, Go.Lib.join_cons]
  simp only [Function.comp, jnL, tlL, Go.Lib.joinTail]
  have e1 : (dS x).data.toList = Go.Lib.decDigits x := bl_dS x
  rw [e1]
  congr 1
  rw [List.map_map]
  congr 1

theorem selI_all {α γ : Type} {e : α → γ} : ∀ (l : List α) (i : Nat), selI (fun _ _ => true) (fun x _ => e x) l i = l.map e
  | [], i => rfl
  | x :: r, i => by simp only [selI, if_true, List.map_cons]; rw [selI_all r (i + 1)]

theorem q_joinNumbers {d : Nat} {x : Nat} {r : List Nat} (h2 : r.length ≤ 1000) (hx : ∀ y ∈ x :: r, y ≤ 1000000000) : g62 (d + 2) ((x :: r).map fun n : Nat => (n : Int)) = some (ofL (jnL (x :: r))) := by
  have hl : ((x :: r).map fun n : Nat => (n : Int)).length = r.length + 1 := by simp
  rw [e62, nn, oif_t, hl, ofNat_toNat, show (Nat.ble 0 (r.length + 1) && Nat.ble ((r.length + 1) * 16) roomMax) = true by rw [Bool.and_eq_true, Nat.ble_eq, Nat.ble_eq]; unfold roomMax; omega, oif_t]
  refine (range_eq (fun (t : List ByteArray) (i : Int) => (t, i)) ((x :: r).map fun n : Nat => (n : Int)) (fun y i t k => oif ((fun (_ : Int) (_ : Nat) => true) y i) (oif (Nat.ble ((t.length + [dS y.toNat].length) * 16) roomMax) (k (t ++ [dS y.toNat])) none) (k t)) (j62_0 (d + 1)) ?_ ?_ (by rw [fuelN_eq, hl]; omega) []).trans ?_
  · intro ag t i y hy
    have hi := (List.getElem?_eq_some_iff.1 hy).1
    rw [hl] at hi
    obtain ⟨n, hn, rfl⟩ := List.mem_map.1 (List.mem_of_getElem? hy)
    simp only [l62_0, l62_0_b, ltl hy, nn, ofNat_toNat, hy, ob_s, oif_t]
    rw [q_Itoa (by have := hx n hn; omega), ob_s, wr1 (by omega)]
  · intro ag t
    simp only [l62_0, l62_0_b, ltn, oif_f]
  · rw [rangeR_sel (c := fun _ _ => true) (e := fun (y : Int) _ => dS y.toNat) (w := 16) _ _ _ (by rw [hl]; simp; omega), selI_all, List.nil_append, List.map_map]
    have em : ((x :: r).map ((fun y : Int => dS y.toNat) ∘ fun n : Nat => (n : Int))) = (x :: r).map dS := by
      apply List.map_congr_left; intro y _; simp only [Function.comp, Int.toNat_natCast]
    rw [em]
    unfold j62_0
    rw [e106]
    unfold joinV
    have h3 := tlL_len r (fun y hy => hx y (by simp [hy]))
    have h4 := (dd_len 9 x (by have := hx x (by simp); omega)).2
    rw [join_jn, show (Nat.ble 1 ((x :: r).map dS).length && (Nat.ble ((x :: r).map dS).length 1000000 && Nat.ble (jnL (x :: r)).length 1000000000)) = true by
      rw [Bool.and_eq_true, Bool.and_eq_true, Nat.ble_eq, Nat.ble_eq, Nat.ble_eq]
      simp only [jnL, List.length_map, List.length_cons, List.length_append]; omega]
    rfl

def nsL (s : Se) : List Nat := s.2.1.toNat :: s.2.2.1.toNat :: s.2.2.2.1.toNat :: s.2.2.2.2.map Int.toNat

def txL (s : Se) : List UInt8 := cuL s.1 ++ (32 :: jnL (nsL s))

def txV (s : Se) : ByteArray × Bool := if seOk s = true then (ofL (txL s), true) else (⟨#[]⟩, false)

theorem szs_in {s : Se} (hs : seOk s = true) : ∀ x ∈ s.2.2.2.2, 1 ≤ x ∧ x ≤ 1500 := fun x hx => sz_in (List.all_eq_true.1 (se_in hs).1 x hx)

theorem q_SessionText {d : Nat} {s : Se} (hl : s.2.2.2.2.length < 4194304) : g24 (d + 4) s = some (txV s) := by
  rw [e24, q_IsSession hl, ob_s]
  unfold txV
  cases hs : seOk s with
  | false => rfl
  | true =>
    obtain ⟨b0, b1, b2, b3, b4, b5, b6, b7, b8⟩ := se_in hs
    have hz := szs_in hs
    have hc := cuL_len b1
    have z : (⟨#[32]⟩ : ByteArray).size = 1 := rfl
    have hsz : (ofL (cuL s.1)).size ≤ 62 := by rw [bl_len, bl_ofL]; exact hc
    have en : [s.2.1, s.2.2.1, s.2.2.2.1] ++ s.2.2.2.2 = (nsL s).map fun n : Nat => (n : Int) := by
      unfold nsL
      simp only [List.map_cons, List.map_map, List.cons_append, List.nil_append]
      rw [Int.toNat_of_nonneg b2, Int.toNat_of_nonneg b4, Int.toNat_of_nonneg (by omega)]
      congr 3
      conv => lhs; rw [← List.map_id s.2.2.2.2]
      apply List.map_congr_left
      intro x hx
      have := hz x hx
      simp only [Function.comp, id]
      omega
    have hin : ∀ y ∈ nsL s, y ≤ 1000000000 := by
      intro y hy
      unfold nsL at hy
      simp only [List.mem_cons, List.mem_map] at hy
      rcases hy with rfl | rfl | rfl | ⟨x, hx, rfl⟩
      · omega
      · omega
      · omega
      · have := hz x hx; omega
    have hj := tlL_len (nsL s).tail (fun y hy => hin y (List.mem_of_mem_tail hy))
    have hj0 := (dd_len 9 s.2.1.toNat (by omega)).2
    have hjn : (ofL (jnL (nsL s))).size ≤ 1000 := by
      rw [bl_len, bl_ofL]
      unfold nsL at hj ⊢
      simp only [jnL, List.tail_cons, List.length_cons, List.length_map, List.length_append] at hj ⊢
      omega
    have hq : g62 (d + 3) ((nsL s).map fun n : Nat => (n : Int)) = some (ofL (jnL (nsL s))) := q_joinNumbers (d := d + 1) (by simp; omega) hin
    rw [Bool.not_true, oif_f, q_curveText b1, ob_s, room2 (by omega), room (by simp; omega), oif_t, en, hq, ob_s, room2 (by simp only [ByteArray.size_append]; omega), if_pos rfl]
    refine congrArg (fun z => some (z, true)) (bl_inj.1 ?_)
    rw [bl_app, bl_app, bl_ofL, bl_ofL, bl_ofL, bl_lit [32]]
    unfold txL; simp

theorem tl_range {β : Type} {fin : ByteArray → Option β} : ∀ (l : List Int) (i : Nat) (t : ByteArray), (∀ x ∈ l, 1 ≤ x ∧ x ≤ 1500) → t.size + 20 * l.length ≤ 1000000 →
    rangeR (fun (x : Int) _ (t : ByteArray) k => oif (Nat.ble ((⟨#[32]⟩ : ByteArray).size + (dS x.toNat).size) 9223372036854775807) (oif (Nat.ble (t.size + ((⟨#[32]⟩ : ByteArray) ++ dS x.toNat).size) 9223372036854775807) (k (t ++ ((⟨#[32]⟩ : ByteArray) ++ dS x.toNat))) none) none) fin l i t = fin (ofL (bl t ++ tlL (l.map Int.toNat)))
  | [], i, t, _, _ => by simp [rangeR, tlL, ofL_bl]
  | x :: r, i, t, h, ht => by
    have hx := h x (by simp)
    have hd := dS_size (n := x.toNat) (by omega)
    have z : (⟨#[32]⟩ : ByteArray).size = 1 := rfl
    simp only [List.length_cons] at ht
    simp only [rangeR]
    rw [room2 (by omega), room2 (by simp only [ByteArray.size_append]; omega), tl_range r (i + 1) _ (fun y hy => h y (by simp [hy])) (by simp only [ByteArray.size_append]; omega), bl_app, bl_app, bl_lit [32], bl_dS]
    unfold tlL; simp

theorem q_sSessionText {d : Nat} {s : Se} (hl : s.2.2.2.2.length < 4194304) : g25 (d + 15) s = some (txV s) := by
  rw [e25, q_hfGood hl, ob_s]
  unfold txV
  cases hs : seOk s with
  | false => rfl
  | true =>
    obtain ⟨b0, b1, b2, b3, b4, b5, b6, b7, b8⟩ := se_in hs
    have hz := szs_in hs
    have hc := cuL_len b1
    have z : (⟨#[32]⟩ : ByteArray).size = 1 := rfl
    have hsz : (ofL (cuL s.1)).size ≤ 62 := by rw [bl_len, bl_ofL]; exact hc
    have n1 : g64 (d + 14) s.2.1 = some (dS s.2.1.toNat) := by have := q_l1Num 9 (d := d + 4) (n := s.2.1.toNat) (by omega) (by omega) (by omega); rwa [Int.toNat_of_nonneg b2] at this
    have n2 : g64 (d + 14) s.2.2.1 = some (dS s.2.2.1.toNat) := by have := q_l1Num 9 (d := d + 4) (n := s.2.2.1.toNat) (by omega) (by omega) (by omega); rwa [Int.toNat_of_nonneg b4] at this
    have n3 : g64 (d + 14) s.2.2.2.1 = some (dS s.2.2.2.1.toNat) := by have := q_l1Num 9 (d := d + 4) (n := s.2.2.2.1.toNat) (by omega) (by omega) (by omega); rwa [Int.toNat_of_nonneg (by omega)] at this
    have s1 := dS_size (n := s.2.1.toNat) (by omega)
    have s2 := dS_size (n := s.2.2.1.toNat) (by omega)
    have s3 := dS_size (n := s.2.2.2.1.toNat) (by omega)
    rw [Bool.not_true, oif_f, q_cuText b1, ob_s, room2 (by omega), n1, ob_s, room2 (by simp only [ByteArray.size_append]; omega), room2 (by simp only [ByteArray.size_append]; omega), n2, ob_s, room2 (by simp only [ByteArray.size_append]; omega), room2 (by simp only [ByteArray.size_append]; omega), n3, ob_s, room2 (by simp only [ByteArray.size_append]; omega), if_pos rfl]
    refine (range_eq (fun (t : ByteArray) (i : Int) => (t, i)) s.2.2.2.2 (fun (x : Int) _ (t : ByteArray) k => oif (Nat.ble ((⟨#[32]⟩ : ByteArray).size + (dS x.toNat).size) 9223372036854775807) (oif (Nat.ble (t.size + ((⟨#[32]⟩ : ByteArray) ++ dS x.toNat).size) 9223372036854775807) (k (t ++ ((⟨#[32]⟩ : ByteArray) ++ dS x.toNat))) none) none) (j25_0 (d + 14)) ?_ ?_ (by rw [fuelN_eq]; exact hl) _).trans ?_
    · intro ag t i x hx
      have hi := (List.getElem?_eq_some_iff.1 hx).1
      have hm := hz x (List.mem_of_getElem? hx)
      simp only [l25_0, l25_0_b, ltl hx, nn, ofNat_toNat, hx, ob_s, oif_t]
      have n4 : g64 (d + 14) x = some (dS x.toNat) := by have := q_l1Num 9 (d := d + 4) (n := x.toNat) (by omega) (by omega) (by omega); rwa [Int.toNat_of_nonneg (by omega)] at this
      rw [n4, ob_s, wr1 (by omega)]
    · intro ag t
      simp only [l25_0, l25_0_b, ltn, oif_f]
    · rw [tl_range _ _ _ hz (by simp only [ByteArray.size_append]; omega)]
      unfold j25_0
      refine congrArg (fun z => some (ofL z, true)) ?_
      simp only [bl_app, bl_ofL, bl_lit [32], bl_dS]
      unfold txL nsL jnL tlL
      simp

/-- The draws. -/
theorem p_curve {d m : Nat} {c : List Int × Int × Int} (hc : CurOk m c) (hm : m + 100 < 4611686018427387904) : Ok (g132 (d + 4) c) fun r => CurOk (m + 20) r.2 := by
  rw [e132]
  refine Ok.bind (p_pick hc (by omega)) fun a ha => ?_
  refine Ok.bind (p_among ha.2.2 (by omega) (by simp)) fun b hb => ?_
  refine Ok.bind (p_among hb.2 (by omega) (by simp)) fun e he => ?_
  refine Ok.bind (p_pick he.2 (by omega)) fun f hf => ?_
  refine Ok.bind (p_among hf.2.2 (by omega) (by simp)) fun u hu => ?_
  refine Ok.bind (p_one hu.2 (by omega)) fun v hv => ?_
  exact Ok.oif (fun _ => Ok.some (hv.mono (by omega))) (fun _ => Ok.some (hv.mono (by omega)))

theorem p_anyCurve {d m : Nat} {c : List Int × Int × Int} (hc : CurOk m c) (hm : m + 200 < 4611686018427387904) : Ok (g133 (d + 5) c) fun r => CurOk (m + 30) r.2 := by
  rw [e133]
  refine Ok.bind (p_curve hc (by omega)) fun a ha => ?_
  refine Ok.bind (p_pick ha (by omega)) fun b hb => ?_
  refine Ok.oif (fun _ => ?_) (fun _ => Ok.oif (fun _ => ?_) (fun _ => Ok.oif (fun _ => ?_) (fun _ => Ok.some (hb.2.2.mono (by omega)))))
  all_goals exact Ok.bind (p_among hb.2.2 (by omega) (by simp)) fun u hu => Ok.some (hu.2.mono (by omega))

theorem p_session {d m : Nat} {c : List Int × Int × Int} (hc : CurOk m c) (hm : m + 1000 < 4611686018427387904) : Ok (g93 (d + 6) c) fun r => r.1.2.2.2.2.length ≤ 30 ∧ CurOk (m + 200) r.2 := by
  rw [e93]
  refine Ok.bind (p_curve hc (by omega)) fun a ha => ?_
  refine Ok.bind (p_among ha (by omega) (by simp)) fun b hb => ?_
  refine Ok.bind (p_among hb.2 (by omega) (by simp)) fun e he => ?_
  refine Ok.bind (p_among he.2 (by omega) (by simp)) fun f hf => ?_
  refine Ok.bind (p_pick hf.2 (by omega)) fun u hu => ?_
  obtain ⟨u1, u2, u3⟩ := hu
  have tail : ∀ (l8 : List Int) (n9 n10 n11 n12 n13 n14 n15 n16 : Int) (l17 : List Int), CurOk (m + 60) (l8, n9, n10) → l17.length ≤ 10 → Ok (j93_2 (d + 5) l8 n9 n10 n11 n12 n13 n14 n15 n16 l17) fun r => r.1.2.2.2.2.length ≤ 30 ∧ CurOk (m + 200) r.2 := by
    intro l8 n9 n10 n11 n12 n13 n14 n15 n16 l17 h1 h2
    unfold j93_2
    refine Ok.bind (p_pick h1 (by omega)) fun v hv => ?_
    obtain ⟨v1, v2, v3⟩ := hv
    refine Ok.oif (fun _ => ?_) (fun _ => Ok.oif (fun _ => ?_) (fun _ => Ok.oif (fun _ => ?_) (fun _ => Ok.oif (fun _ => ?_) (fun _ => Ok.oif (fun _ => ?_) (fun _ => Ok.oif (fun _ => ?_) (fun _ => ?_))))))
    · exact Ok.bind (p_among v3 (by omega) (by simp)) fun w hw => Ok.some ⟨by simp only; omega, hw.2.mono (by omega)⟩
    · refine Ok.bind (p_among v3 (by omega) (by simp)) fun w hw => ?_
      exact Ok.bind (p_among hw.2 (by omega) (by simp)) fun z hz => Ok.some ⟨by simp only; omega, hz.2.mono (by omega)⟩
    · exact Ok.bind (p_among v3 (by omega) (by simp)) fun w hw => Ok.some ⟨by simp only; omega, hw.2.mono (by omega)⟩
    · refine Ok.bind (p_pick v3 (by omega)) fun w hw => ?_
      obtain ⟨w1, w2, w3⟩ := hw
      refine iter_ok (fun j st => st.2.2.2.2.length + j = 25) ?_ _ (25 - l17.length) _ (by rw [fuelN_eq]; omega) (by simp only; omega)
      rintro j ⟨⟨x1, x2, x3⟩, x4, x5, x6, x7⟩ ag h3 hag
      simp only at h3
      simp only [l93_1, l93_1_b]
      rw [wr (n := (20 : Int) + w.1) (by omega) (by omega)]
      refine Ok.oif (fun h => ?_) (fun h => ?_)
      · have h := of_decide_eq_true h
        rw [room (by simp; omega), oif_t]
        exact hag (j - 1) _ (by omega) (by simp only [List.length_append, List.length_cons, List.length_nil]; omega)
      · unfold j93_1 j93_0
        exact Ok.some ⟨by simp only; omega, w3.mono (by omega)⟩
    · refine Ok.bind (p_among v3 (by omega) (by simp)) fun w hw => ?_
      rw [room (by simp; omega), oif_t]
      unfold j93_0
      exact Ok.some ⟨by simp; omega, hw.2.mono (by omega)⟩
    · refine Ok.bind (p_anyCurve v3 (by omega)) fun w hw => ?_
      unfold j93_0
      exact Ok.some ⟨by simp only; omega, hw.mono (by omega)⟩
    · unfold j93_0
      exact Ok.some ⟨by simp only; omega, v3.mono (by omega)⟩
  refine iter_ok (fun j st => st.1 = (j : Int) ∧ j ≤ 5 ∧ st.2.2.2.2.2.2.length + j ≤ 5 ∧ CurOk (m + 30 + 2 * (5 - j)) st.2.1) ?_ _ u.1.toNat _ (by rw [fuelN_eq]; omega) ⟨by simp only; omega, by omega, by simp; omega, u3.mono (by omega)⟩
  rintro j ⟨k, x, q⟩ ag ⟨h1, h2, h3, h4⟩ hag
  simp only at h1 h3 h4
  subst h1
  simp only [l93_0, l93_0_b]
  refine Ok.oif (fun h => ?_) (fun h => ?_)
  · have h := of_decide_eq_true h
    refine Ok.bind (p_among h4 (by omega) (by simp)) fun w hw => ?_
    rw [room (by simp; omega), oif_t, wr (by omega) (by omega)]
    exact hag (j - 1) _ (by omega) ⟨by simp only; omega, by omega, by simp; omega, hw.2.mono (by omega)⟩
  · exact tail _ _ _ _ _ _ _ _ _ _ (h4.mono (by omega)) (by omega)

theorem p_DrawIsSession {d : Nat} {x : List Int} (hx : Bytes x) : Ok (g42 (d + 7) x) fun s => s.2.2.2.2.length ≤ 30 := by
  rw [e42]
  exact Ok.bind (p_session (CurOk.new hx) (by omega)) fun r hr => Ok.some hr.1

theorem p_DrawDeadlineOf {d : Nat} {x : List Int} (hx : Bytes x) : Ok (g8 (d + 8) x) fun s => s.2.2.2.2.length ≤ 30 := by
  rw [e8]
  exact Ok.bind (p_DrawIsSession hx) fun r hr => Ok.some hr

theorem p_DrawSessionText {d : Nat} {x : List Int} (hx : Bytes x) : Ok (g23 (d + 8) x) fun s => s.2.2.2.2.length ≤ 30 := by
  rw [e23]
  exact Ok.bind (p_DrawIsSession hx) fun r hr => Ok.some hr

theorem p_DrawServiceAt {d : Nat} {x : List Int} (hx : Bytes x) : Ok (g53 (d + 7) x) fun s => s.1.2.2.2.2.length ≤ 30 := by
  rw [e53]
  refine Ok.bind (p_session (CurOk.new hx) (by omega)) fun r hr => ?_
  refine Ok.bind (p_among hr.2 (by omega) (by simp)) fun a ha => ?_
  exact Ok.bind (p_pick ha.2 (by omega)) fun b hb => Ok.some hr.1

theorem p_DrawRestartSession {d : Nat} {x : List Int} (hx : Bytes x) : Ok (g17 (d + 8) x) fun s => s.1.2.2.2.2.length ≤ 30 := by
  rw [e17]
  exact Ok.bind (p_DrawServiceAt hx) fun r hr => Ok.some hr

theorem p_DrawEligibleAt {d : Nat} {x : List Int} (hx : Bytes x) : Ok (g20 (d + 8) x) fun s => s.1.2.2.2.2.length ≤ 30 := by
  rw [e20]
  exact Ok.bind (p_DrawServiceAt hx) fun r hr => Ok.some hr

theorem ext_only {f : Nat} (h0 : f ≠ 105) (h1 : f ≠ 106) : pvVext f = none ∧ pvExt f = none := by
  constructor
  · unfold pvVext; split <;> simp_all
  · unfold pvExt; split <;> simp_all

theorem extAll : ExtAll Tryd.prog pvAnn := by
  refine ⟨⟨fun f v h => ?_, fun f h => ?_, fun f h => ?_⟩, fun f e h => ?_⟩
  · by_cases h0' : f = 105
    · subst h0'
      have h' : pvVext 105 = some v := h
      have h2 : some (fun (a : Int) => itoaV a) = some v := h'
      injection h2 with h2
      subst h2
      exact ⟨_, rfl, itoa_fn⟩
    · by_cases h1' : f = 106
      · subst h1'
        have h' : pvVext 106 = some v := h
        have h2 : some (fun (a : List ByteArray × ByteArray) => joinV a.1 a.2) = some v := h'
        injection h2 with h2
        subst h2
        exact ⟨_, rfl, join_fn⟩
      · have : pvVext f = some v := h
        rw [(ext_only h0' h1').1] at this; simp at this
  · by_cases h0' : f = 105
    · subst h0'
      have h2 : some (fun (a : Int) => itoaV a) = none := h
      simp at h2
    · by_cases h1' : f = 106
      · subst h1'
        have h2 : some (fun (a : List ByteArray × ByteArray) => joinV a.1 a.2) = none := h
        simp at h2
      · exact (ext_only h0' h1').2
  · by_cases h0' : f = 105
    · subst h0'
      have h2 : false = true := h
      simp at h2
    · by_cases h1' : f = 106
      · subst h1'
        have h2 : false = true := h
        simp at h2
      · exact (ext_only h0' h1').1
  · by_cases h0' : f = 105
    · subst h0'
      have h2 : some itoaX = some e := h
      injection h2 with h2
      subst h2
      exact itoa_ext
    · by_cases h1' : f = 106
      · subst h1'
        have h2 : some joinX = some e := h
        injection h2 with h2
        subst h2
        exact join_ext
      · have h2 : pvExt f = some e := h
        rw [(ext_only h0' h1').2] at h2; simp at h2

end Go.Proofs.YtkanolaeiaieaaaDoor
