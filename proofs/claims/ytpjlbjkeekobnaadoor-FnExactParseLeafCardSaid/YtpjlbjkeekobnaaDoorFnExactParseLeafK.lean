/-
  What the cursor's functions and the small ones give by value.
  Conditions: the cursor has not been moved 2^62 times.
  Comparing and adding up lists of numbers; ranges.
  Conditions: the lists are shorter than the fuel.
  Texts: their elements, and the draws of texts.
  Conditions: none, but those of the cursor for the draws.
  Numbers and their texts, in both packages.
  Conditions: none, but those of the cursor for the draws.
  Tokens of a text, in both packages.
  Conditions: the text is shorter than the fuel.
  Signs, words and numbers at a place of a text; all tokens; in both packages.
  Conditions: the text is shorter than the fuel.
  All tokens of a text, in both packages; what tokens look like.
  Conditions: the text is shorter than the fuel.
  Reading tokens one by one, in both packages.
  Conditions: tokens as they are read from a text.
  Nothing is given for functions outside.
  Conditions: none.
-/
import Derived.Test.YtpjlbjkeekobnaaDoorFnExactParseLeafRes
import Derived.Test.YtpjlbjkeekobnaaDoorPKit2
import Derived.Laws.Strings
set_option linter.all false
namespace Go.Proofs.YtpjlbjkeekobnaaDoor
open Go.Ev Go.Pv

theorem q_l1In {d : Nat} {x y z : Int} : g31 (d + 1) x y z = some (decide (y ≤ x ∧ x ≤ z)) := by
  rw [e31]; simp only [oif_ss]; congr 1; rw [Bool.eq_iff_iff]; simp

def szOk (s : Int) : Bool := decide (1 ≤ s ∧ s ≤ 1500)

abbrev By := ByteArray

def bl (s : ByteArray) : List UInt8 := s.data.toList

theorem bl_len (s : ByteArray) : s.size = (bl s).length := rfl

theorem bl_def (s : ByteArray) : s.data.toList = bl s := rfl

theorem bl_app (a b : ByteArray) : bl (a ++ b) = bl a ++ bl b := by simp [bl]

theorem bl_ext (s : ByteArray) (a b : Nat) : bl (s.extract a b) = ((bl s).drop a).take (b - a) := by simp [bl]

theorem bl_lit (l : List UInt8) : bl ⟨l.toArray⟩ = l := by simp [bl]

theorem bl_inj {a b : ByteArray} : bl a = bl b ↔ a = b := by
  constructor
  · intro h
    cases a with | mk a => cases b with | mk b =>
      simp only [bl] at h
      rw [Array.toList_inj.1 h]
  · intro h; rw [h]

theorem bl_eq (a b : ByteArray) : (a.toList == b.toList) = decide (bl a = bl b) := by
  rw [ByteArray.toList_eq, ByteArray.toList_eq]
  by_cases h : bl a = bl b
  · rw [decide_eq_true h]; simpa [bl] using h
  · rw [decide_eq_false h]; simpa [bl] using h

theorem strL_len (l : List Int) : (strL l).size = l.length := by rw [bl_len]; simp [bl, strL]

theorem ble_t {a b : Nat} (h : a ≤ b) : Nat.ble a b = true := by rw [Nat.ble_eq]; exact h

theorem slice_t {α : Type} {a b n : Nat} {x y : Option α} (h1 : a ≤ b) (h2 : b ≤ n) : oif (Nat.ble a b && Nat.ble b n) x y = x := by rw [ble_t h1, ble_t h2]; rfl

theorem room2 {α : Type} {a b : Nat} {x y : Option α} (h : a + b ≤ 9223372036854775807) : oif (Nat.ble (a + b) 9223372036854775807) x y = x := by rw [ble_t h]; rfl

theorem q_nuUnits {d : Nat} : g116 (d + 1) = some [(⟨#[109]⟩ : ByteArray), (⟨#[107]⟩ : ByteArray), (⟨#[]⟩ : ByteArray)] := e116 d

theorem q_nuSize0 {d : Nat} : g117 (d + 1) 0 = some 1000000 := by rw [e117]; rfl

theorem q_nuSize1 {d : Nat} : g117 (d + 1) 1 = some 1000 := by rw [e117]; rfl

theorem q_nuSize2 {d : Nat} : g117 (d + 1) 2 = some 1 := by rw [e117]; rfl

def vlOk (n : Int) : Bool := decide (0 ≤ n ∧ n ≤ 1000000000)

/-- Scaling. -/
def scN (n num den : Int) (up : Bool) : Int := if up then (n * num + (den - 1)) / den else (n * num) / den

def scOk (n num den : Int) : Bool := vlOk n && decide (0 ≤ num ∧ num ≤ 1000000 ∧ 1 ≤ den ∧ den ≤ 1000000)

def scV (n num den : Int) (up : Bool) : Int × Bool := if scOk n num den && decide (scN n num den up ≤ 1000000000) then (scN n num den up, true) else (0, false)

theorem sc_in {n num den : Int} (h : scOk n num den = true) : 0 ≤ n * num ∧ n * num ≤ 1000000000000000 ∧ 1 ≤ den ∧ den ≤ 1000000 := by
  simp only [scOk, vlOk, Bool.and_eq_true, decide_eq_true_eq] at h
  have k1 : 0 ≤ n * num := Int.mul_nonneg (by omega) (by omega)
  have k2 : n * num ≤ 1000000000 * num := Int.mul_le_mul_of_nonneg_right (by omega) (by omega)
  omega

theorem div_le_self' {a b : Int} (h0 : 0 ≤ a) (h1 : 1 ≤ b) : 0 ≤ a / b ∧ a / b ≤ a := ⟨Int.ediv_nonneg h0 (by omega), Int.ediv_le_self _ h0⟩

/-- Adding. -/
def vlsOk (l : List Int) : Bool := l.all vlOk && decide (l.length ≤ 40)

def adV (l : List Int) : Int × Bool := if vlsOk l && decide (l.sum ≤ 1000000000) then (l.sum, true) else (0, false)

theorem ad_range {β : Type} {no : Option β} {fin : Int → Option β} : ∀ (l : List Int) (i : Nat) (t : Int), (∀ x ∈ l, 0 ≤ x ∧ x ≤ 1000000000) → 0 ≤ t → t ≤ 1000000000 →
    rangeR (fun x _ t k => oif (decide (IntKind.i64.wrap (t + x) > 1000000000)) no (k (IntKind.i64.wrap (t + x)))) fin l i t = if t + l.sum ≤ 1000000000 then fin (t + l.sum) else no
  | [], i, t, _, h0, h1 => by
    have e : t + ([] : List Int).sum = t := by simp
    rw [e, if_pos h1]; rfl
  | x :: r, i, t, hl, h0, h1 => by
    have hx := hl x (by simp)
    have hr : 0 ≤ r.sum := List.sum_nonneg' r (fun y hy => (hl y (by simp [hy])).1)
    have e : t + (x :: r).sum = t + x + r.sum := by rw [List.sum_cons]; omega
    rw [e]
    simp only [rangeR]
    rw [wr (n := t + x) (by omega) (by omega)]
    by_cases h : t + x > 1000000000
    · rw [decide_eq_true h, oif_t, if_neg (by omega)]
    · rw [decide_eq_false h, oif_f, ad_range r (i + 1) (t + x) (fun y hy => hl y (by simp [hy])) (by omega) (by omega)]

theorem vlsOk_in {l : List Int} (h : vlsOk l = true) : (∀ x ∈ l, 0 ≤ x ∧ x ≤ 1000000000) ∧ l.length ≤ 40 := by
  simp only [vlsOk, vlOk, Bool.and_eq_true, List.all_eq_true, decide_eq_true_eq] at h
  exact h

/-- Multiplying. -/
def muV (a b : Int) : Int × Bool := if vlOk a && (vlOk b && decide (a * b ≤ 1000000000)) then (a * b, true) else (0, false)

theorem mu_in {a b : Int} (ha : vlOk a = true) (hb : vlOk b = true) : 0 ≤ a * b ∧ a * b ≤ 1000000000000000000 := by
  simp only [vlOk, decide_eq_true_eq] at ha hb
  have k1 : 0 ≤ a * b := Int.mul_nonneg (by omega) (by omega)
  have k2 : a * b ≤ 1000000000 * b := Int.mul_le_mul_of_nonneg_right (by omega) (by omega)
  omega

/-- Digits, and the number of a list of them. -/
def dg (c : UInt8) : Int := if 48 ≤ c.toNat ∧ c.toNat ≤ 57 then (c.toNat : Int) - 48 else if 97 ≤ c.toNat ∧ c.toNat ≤ 102 then (c.toNat : Int) - 87 else 99

theorem dg_in (c : UInt8) : 0 ≤ dg c ∧ dg c ≤ 99 := by unfold dg; (repeat' split) <;> omega

def rdL (base most : Int) : Int → List UInt8 → Int
  | n, [] => n
  | n, c :: r => if dg c ≥ base then -1 else if n * base + dg c > most then -1 else rdL base most (n * base + dg c) r

def rdS (base most : Int) : Int → List UInt8 → Int
  | n, [] => if n > most then -1 else n
  | n, c :: r => if dg c ≥ base then -1 else if n > most then -1 else rdS base most (n * base + dg c) r

theorem rdS_over {base most : Int} {n : Int} (h : n > most) : ∀ l, rdS base most n l = -1
  | [] => by simp only [rdS]; rw [if_pos h]
  | c :: r => by simp only [rdS]; rw [if_pos h]; split <;> rfl

theorem rdS_eq {base most : Int} : ∀ (l : List UInt8) {n : Int}, n ≤ most → rdS base most n l = rdL base most n l
  | [], n, h => by simp only [rdS, rdL]; rw [if_neg (by omega)]
  | c :: r, n, h => by
    simp only [rdS, rdL]
    split
    · rfl
    · rw [if_neg (by omega)]
      by_cases h2 : n * base + dg c > most
      · rw [if_pos h2, rdS_over h2]
      · rw [if_neg h2, rdS_eq r (by omega)]

theorem rdL_in {base most : Int} (hb : 1 ≤ base) : ∀ (l : List UInt8) {n : Int}, 0 ≤ n → n ≤ most → rdL base most n l = -1 ∨ (n ≤ rdL base most n l ∧ rdL base most n l ≤ most)
  | [], n, h0, h1 => .inr ⟨Int.le_refl _, h1⟩
  | c :: r, n, h0, h1 => by
    simp only [rdL]
    split
    · exact .inl rfl
    · split
      · exact .inl rfl
      · have hd := dg_in c
        have k : n * 1 ≤ n * base := Int.mul_le_mul_of_nonneg_left hb h0
        rcases rdL_in (most := most) hb r (n := n * base + dg c) (by omega) (by omega) with h | h
        · exact .inl h
        · exact .inr (by omega)

def rcV (base most : Int) : List UInt8 → Int
  | [] => -1
  | c :: r => if c.toNat = 48 ∧ r ≠ [] then -1 else rdL base most 0 (c :: r)

theorem rcV_in {base most : Int} (hb : 1 ≤ base) (hm : 0 ≤ most) : ∀ l, -1 ≤ rcV base most l ∧ rcV base most l ≤ most
  | [] => by simp only [rcV]; omega
  | c :: r => by
    simp only [rcV]
    split
    · omega
    · have := rdL_in (base := base) (most := most) hb (c :: r) (n := 0) (by omega) hm
      omega

/-- No needless zero: the number is positive. -/
theorem rdL_pos {base most : Int} {c : UInt8} {r : List UInt8} (hb : 1 ≤ base) (hm : 0 ≤ most) (hc : c.toNat ≠ 48) : rdL base most 0 (c :: r) = -1 ∨ 1 ≤ rdL base most 0 (c :: r) := by
  simp only [rdL]
  split
  · exact .inl rfl
  · split
    · exact .inl rfl
    · have hd : 1 ≤ dg c := by unfold dg; (repeat' split) <;> omega
      rcases rdL_in (most := most) hb r (n := 0 * base + dg c) (by omega) (by omega) with h | h
      · exact .inl h
      · exact .inr (by omega)

def onR {β : Type} (no : Option β) (fin : Int → Option β) (v : Int) : Option β := if v = -1 then no else fin v

theorem nd_range {β : Type} {base most : Int} {no : Option β} {fin : Int → Option β} (hb : 1 ≤ base) (hb2 : base ≤ 16) (hm : most ≤ 1000000000) : ∀ (l : List UInt8) (i : Nat) (t : Int), 0 ≤ t →
    rangeR (fun x _ t k => oif (decide (dg x ≥ base)) no (oif (decide (t > most)) no (k (IntKind.i64.wrap (IntKind.i64.wrap (t * base) + dg x))))) (fun t => oif (decide (t > most)) no (fin t)) l i t = onR no fin (rdS base most t l)
  | [], i, t, h0 => by
    simp only [rangeR, rdS]
    by_cases h : t > most
    · rw [decide_eq_true h, oif_t, if_pos h]; rfl
    · rw [decide_eq_false h, oif_f, if_neg h]; unfold onR; rw [if_neg (by omega)]
  | c :: r, i, t, h0 => by
    simp only [rangeR, rdS]
    have hd := dg_in c
    by_cases h : dg c ≥ base
    · rw [decide_eq_true h, oif_t, if_pos h]; rfl
    rw [decide_eq_false h, oif_f, if_neg h]
    by_cases h2 : t > most
    · rw [decide_eq_true h2, oif_t, if_pos h2]; rfl
    have k1 : 0 ≤ t * base := Int.mul_nonneg h0 (by omega)
    have k2 : t * base ≤ t * 16 := Int.mul_le_mul_of_nonneg_left hb2 h0
    rw [decide_eq_false h2, oif_f, if_neg h2, wr (n := t * base) (by omega) (by omega), wr (n := t * base + dg c) (by omega) (by omega)]
    exact nd_range hb hb2 hm r (i + 1) _ (by omega)

theorem u8_lt (c : UInt8) : (c.toNat : Int) < 256 := by have := c.toNat_lt; omega

theorem q_nuDigits {d : Nat} {s : ByteArray} {base most : Int} (hb : 1 ≤ base) (hb2 : base ≤ 16) (hm0 : 0 ≤ most) (hm : most ≤ 1000000000) (hs : s.size < 4194304) : g115 (d + 1) s base most = some (rcV base most (bl s)) := by
  rw [e115, bl_eq, bl_lit []]
  simp only [bl_def]
  rw [bl_len] at hs ⊢
  unfold j115_4
  have loop : iterP (l115_0 d s base most (j115_0 d most)) fuelN (0, 0, 0) = some (rdL base most 0 (bl s)) := by
    refine (range_eq (fun (t : Int) (i : Int) => ((0 : Int), t, i)) (bl s) (fun x _ t k => oif (decide (dg x ≥ base)) (some (-1)) (oif (decide (t > most)) (some (-1)) (k (IntKind.i64.wrap (IntKind.i64.wrap (t * base) + dg x))))) (fun t => oif (decide (t > most)) (some (-1)) (some t)) ?_ ?_ (by rw [fuelN_eq]; exact hs) 0).trans ?_
    · intro ag t i x hx
      have hi := (List.getElem?_eq_some_iff.1 hx).1
      have hc := u8_lt x
      simp only [l115_0, l115_0_b, bl_def]
      rw [bl_len]
      simp only [bl_def, ltl hx, nn, ofNat_toNat, hx, ob_s, oif_t, j115_3, j115_2, j115_1]
      rw [wr1 (by omega), wr (n := (x.toNat : Int)) (by omega) (by omega), wr (n := (x.toNat : Int) - 48) (by omega) (by omega), wr (n := (x.toNat : Int) - 97) (by omega) (by omega), wr (n := (x.toNat : Int) - 97 + 10) (by omega) (by omega)]
      by_cases h1 : 48 ≤ x.toNat
      · rw [decide_eq_true (show (x.toNat : Int) ≥ 48 by omega), oif_t]
        by_cases h2 : x.toNat ≤ 57
        · have e : dg x = (x.toNat : Int) - 48 := by unfold dg; rw [if_pos ⟨h1, h2⟩]
          rw [decide_eq_true (show (x.toNat : Int) ≤ 57 by omega), oif_t, e]
        · rw [decide_eq_false (show ¬ (x.toNat : Int) ≤ 57 by omega), oif_f]
          by_cases h3 : 97 ≤ x.toNat
          · rw [decide_eq_true (show (x.toNat : Int) ≥ 97 by omega), oif_t]
            by_cases h4 : x.toNat ≤ 102
            · have e : dg x = (x.toNat : Int) - 87 := by unfold dg; rw [if_neg (by omega), if_pos ⟨h3, h4⟩]
              rw [decide_eq_true (show (x.toNat : Int) ≤ 102 by omega), oif_t, e, show (x.toNat : Int) - 97 + 10 = (x.toNat : Int) - 87 by omega]
            · have e : dg x = 99 := by unfold dg; rw [if_neg (by omega), if_neg (by omega)]
              rw [decide_eq_false (show ¬ (x.toNat : Int) ≤ 102 by omega), oif_f, e]
          · have e : dg x = 99 := by unfold dg; rw [if_neg (by omega), if_neg (by omega)]
            rw [decide_eq_false (show ¬ (x.toNat : Int) ≥ 97 by omega), oif_f, oif_f, e]
      · have e : dg x = 99 := by unfold dg; rw [if_neg (by omega), if_neg (by omega)]
        rw [decide_eq_false (show ¬ (x.toNat : Int) ≥ 48 by omega), oif_f, oif_f, decide_eq_false (show ¬ (x.toNat : Int) ≥ 97 by omega), oif_f, oif_f, e]
    · intro ag t
      simp only [l115_0, l115_0_b]
      rw [bl_len, ltn, oif_f]; rfl
    · rw [nd_range hb hb2 hm _ _ _ (Int.le_refl 0), rdS_eq _ hm0]
      unfold onR
      by_cases h : rdL base most 0 (bl s) = -1
      · rw [if_pos h, h]
      · rw [if_neg h]
  cases hL : bl s with
  | nil => rfl
  | cons c r =>
    rw [hL] at loop
    simp only [List.getElem?_cons_zero, ob_s]
    rw [decide_eq_false (by simp), oif_f]
    by_cases hc : c.toNat = 48
    · have hc2 : ((c.toNat : Int) == 48) = true := by rw [hc]; rfl
      rw [hc2, oif_t]
      cases r with
      | nil =>
        rw [decide_eq_false (by simp), oif_f, loop]
        simp [rcV]
      | cons c2 r =>
        rw [decide_eq_true (by simp; omega), oif_t]
        simp [rcV, hc]
    · have hc2 : ((c.toNat : Int) == 48) = false := by simp; omega
      rw [hc2, oif_f, oif_f, loop]
      simp [rcV, hc]

def unV2 (u most : Int) (l : List UInt8) : Int := if rcV 10 most l ≤ 0 then -1 else rcV 10 most l * u

def nrV (l : List UInt8) : Int := match l.getLast? with
  | none => -1
  | some c => if c.toNat = 109 then unV2 1000000 1000 l.dropLast else if c.toNat = 107 then unV2 1000 1000000 l.dropLast else rcV 10 1000000000 l

def toR (n : Int) : Int × Bool := if n < 0 then (0, false) else (n, true)

theorem unV2_in {u most : Int} (hm : 0 ≤ most) (h : most * u ≤ 1000000000) (hu : 1 ≤ u) (l : List UInt8) : -1 ≤ unV2 u most l ∧ unV2 u most l ≤ 1000000000 := by
  unfold unV2
  have := rcV_in (base := 10) (by omega) hm l
  split
  · omega
  · have k : rcV 10 most l * u ≤ most * u := Int.mul_le_mul_of_nonneg_right (by omega) (by omega)
    have k2 : 0 ≤ rcV 10 most l * u := Int.mul_nonneg (by omega) (by omega)
    omega

theorem nrV_in (l : List UInt8) : -1 ≤ nrV l ∧ nrV l ≤ 1000000000 := by
  unfold nrV
  split
  · omega
  · split
    · exact unV2_in (by omega) (by omega) (by omega) _
    · split
      · exact unV2_in (by omega) (by omega) (by omega) _
      · exact rcV_in (by omega) (by omega) _

def toU (u v : Int) : Int × Bool := if v = -1 then (0, false) else (v * u, true)

theorem rn_range {u most : Int} (hu : 1 ≤ u) (hum : most * u = 1000000000) (hm : 0 ≤ most) : ∀ (l : List UInt8) (i : Nat) (t : Int), 0 ≤ t → t ≤ most →
    rangeR (fun x _ t k => oif (decide (48 ≤ x.toNat ∧ x.toNat ≤ 57)) (oif (decide (IntKind.i64.wrap (IntKind.i64.wrap (IntKind.i64.wrap (10 * t) + IntKind.i64.wrap (IntKind.u8.wrap ((x.toNat : Int) - 48))) * u) > 1000000000)) (some (0, false)) (k (IntKind.i64.wrap (IntKind.i64.wrap (10 * t) + IntKind.i64.wrap (IntKind.u8.wrap ((x.toNat : Int) - 48)))))) (some (0, false))) (fun t => some (IntKind.i64.wrap (t * u), true)) l i t
      = some (toU u (rdL 10 most t l))
  | [], i, t, h0, h1 => by
    simp only [rangeR, rdL]
    have k : t * u ≤ most * u := Int.mul_le_mul_of_nonneg_right h1 (by omega)
    have k2 : 0 ≤ t * u := Int.mul_nonneg h0 (by omega)
    rw [wr (n := t * u) (by omega) (by omega)]; unfold toU; rw [if_neg (by omega)]
  | c :: r, i, t, h0, h1 => by
    simp only [rangeR, rdL]
    by_cases h : 48 ≤ c.toNat ∧ c.toNat ≤ 57
    · have e : dg c = (c.toNat : Int) - 48 := by unfold dg; rw [if_pos h]
      have hu8 : IntKind.u8.wrap ((c.toNat : Int) - 48) = (c.toNat : Int) - 48 := by
        show ((c.toNat : Int) - 48) % 256 = _
        omega
      have hmb : most ≤ 1000000000 := by
        have : most * 1 ≤ most * u := Int.mul_le_mul_of_nonneg_left hu hm
        omega
      rw [decide_eq_true h, oif_t, hu8, wr (n := (c.toNat : Int) - 48) (by omega) (by omega), wr (n := 10 * t) (by omega) (by omega), ← e, if_neg (by omega), Int.mul_comm 10 t]
      have hd : 0 ≤ dg c ∧ dg c ≤ 9 := by omega
      rw [wr (n := t * 10 + dg c) (by omega) (by omega)]
      have hub : u ≤ 1000000000 ∨ most = 0 := by
        rcases Int.lt_or_eq_of_le hm with h5 | h5
        · left
          have : 1 * u ≤ most * u := Int.mul_le_mul_of_nonneg_right (by omega) (by omega)
          omega
        · right; omega
      rcases hub with hub | hub
      · have k1 : (t * 10 + dg c) * u ≤ (most * 10 + 9) * u := Int.mul_le_mul_of_nonneg_right (by omega) (by omega)
        have k2 : (most * 10 + 9) * u = 10 * (most * u) + 9 * u := by rw [Int.add_mul, Int.mul_comm most 10, Int.mul_assoc]
        have k3 : 0 ≤ (t * 10 + dg c) * u := Int.mul_nonneg (by omega) (by omega)
        rw [wr (n := (t * 10 + dg c) * u) (by omega) (by omega)]
        have key : (t * 10 + dg c) * u > 1000000000 ↔ t * 10 + dg c > most := by
          constructor
          · intro hh
            rcases Int.lt_or_le most (t * 10 + dg c) with h6 | h6
            · exact h6
            · have := Int.mul_le_mul_of_nonneg_right h6 (show 0 ≤ u by omega); omega
          · intro hh
            have := Int.mul_le_mul_of_nonneg_right (show most + 1 ≤ t * 10 + dg c by omega) (show 0 ≤ u by omega)
            rw [Int.add_mul] at this; omega
        by_cases h7 : t * 10 + dg c > most
        · rw [decide_eq_true (key.2 h7), oif_t, if_pos h7]; rfl
        · rw [decide_eq_false (fun hh => h7 (key.1 hh)), oif_f, if_neg h7]
          exact rn_range hu hum hm r (i + 1) _ (by omega) (by omega)
      · rw [hub, Int.zero_mul] at hum; omega
    · have e : dg c ≥ 10 := by unfold dg; rw [if_neg h]; split <;> omega
      rw [decide_eq_false h, oif_f, if_pos e]; rfl

theorem q_isDigit {d : Nat} {c : UInt8} : g104 (d + 1) (c.toNat : Int) = some (decide (48 ≤ c.toNat ∧ c.toNat ≤ 57)) := by
  rw [e104]; simp only [oif_ss]; congr 1; rw [Bool.eq_iff_iff]; simp; omega

theorem rn_loop {d : Nat} {s : ByteArray} {u most : Int} (hu : 1 ≤ u) (hum : most * u = 1000000000) (hm : 0 ≤ most) (hs : s.size < 4194304) : iterP (l106_0 (d + 1) u s (j106_0 (d + 1) u)) fuelN (0, false, 0, 0) = some (toU u (rdL 10 most 0 (bl s))) := by
  rw [bl_len] at hs
  refine (range_eq (fun (t : Int) (i : Int) => ((0 : Int), false, t, i)) (bl s) (fun x _ t k => oif (decide (48 ≤ x.toNat ∧ x.toNat ≤ 57)) (oif (decide (IntKind.i64.wrap (IntKind.i64.wrap (IntKind.i64.wrap (10 * t) + IntKind.i64.wrap (IntKind.u8.wrap ((x.toNat : Int) - 48))) * u) > 1000000000)) (some (0, false)) (k (IntKind.i64.wrap (IntKind.i64.wrap (10 * t) + IntKind.i64.wrap (IntKind.u8.wrap ((x.toNat : Int) - 48)))))) (some (0, false))) (fun t => some (IntKind.i64.wrap (t * u), true)) ?_ ?_ (by rw [fuelN_eq]; exact hs) 0).trans (rn_range hu hum hm _ _ _ (Int.le_refl 0) hm)
  · intro ag t i x hx
    have hi := (List.getElem?_eq_some_iff.1 hx).1
    simp only [l106_0, l106_0_b, bl_def]
    rw [bl_len]
    simp only [bl_def, ltl hx, nn, ofNat_toNat, hx, ob_s, oif_t, q_isDigit]
    rw [wr1 (by omega)]
    cases decide (48 ≤ x.toNat ∧ x.toNat ≤ 57) <;> rfl
  · intro ag t
    simp only [l106_0, l106_0_b]
    rw [bl_len, ltn, oif_f]; rfl

theorem rn_unit {d : Nat} {s t : ByteArray} {u most : Int} (hu : 1 ≤ u) (hum : most * u = 1000000000) (hm : 0 ≤ most) (hs : t.size < 4194304) (h0 : bl s ≠ [48]) : j106_2 (d + 1) s u t = some (toR (unV2 u most (bl t))) := by
  have loop := rn_loop (d := d) hu hum hm hs
  unfold j106_2 j106_1
  rw [bl_eq, bl_eq, bl_lit [], bl_lit [48], decide_eq_false h0]
  simp only [bl_def]
  cases hL : bl t with
  | nil => rfl
  | cons c r =>
    rw [hL] at loop
    simp only [List.getElem?_cons_zero, ob_s]
    rw [decide_eq_false (by simp), oif_f]
    by_cases hc : c.toNat = 48
    · have hc2 : ((c.toNat : Int) == 48) = true := by rw [hc]; rfl
      rw [hc2, oif_t, Bool.not_false, oif_t]
      have : rcV 10 most (c :: r) ≤ 0 := by
        simp only [rcV]
        split
        · omega
        · next hh =>
          have hr : r = [] := by
            cases r with
            | nil => rfl
            | cons a b => exact absurd ⟨hc, by simp⟩ hh
          subst hr
          have hd : dg c = 0 := by unfold dg; rw [if_pos (by omega)]; omega
          simp only [rdL, hd]
          split
          · omega
          · split <;> omega
      unfold unV2 toR
      rw [if_pos this]; rfl
    · have hc2 : ((c.toNat : Int) == 48) = false := by simp; omega
      rw [hc2, oif_f, oif_f, loop]
      have hrc : rcV 10 most (c :: r) = rdL 10 most 0 (c :: r) := by
        simp only [rcV]; rw [if_neg (fun hh => hc hh.1)]
      unfold unV2 toR toU
      rw [hrc]
      rcases rdL_pos (base := 10) (most := most) (r := r) (by omega) hm hc with h | h
      · rw [h]; rfl
      · have k : 1 * u ≤ rdL 10 most 0 (c :: r) * u := Int.mul_le_mul_of_nonneg_right h (by omega)
        rw [if_neg (by omega), if_neg (by omega), if_neg (by omega)]

theorem rn_one {d : Nat} {s : ByteArray} (hs : s.size < 4194304) : j106_2 (d + 1) s 1 s = some (toR (rcV 10 1000000000 (bl s))) := by
  have loop := rn_loop (d := d) (u := 1) (most := 1000000000) (by omega) (by omega) (by omega) hs
  unfold j106_2 j106_1
  rw [bl_eq, bl_eq, bl_lit [], bl_lit [48]]
  simp only [bl_def]
  cases hL : bl s with
  | nil => rfl
  | cons c r =>
    rw [hL] at loop
    simp only [List.getElem?_cons_zero, ob_s]
    rw [decide_eq_false (show ¬ (c :: r = []) by simp), oif_f]
    have fin : toU 1 (rdL 10 1000000000 0 (c :: r)) = toR (rdL 10 1000000000 0 (c :: r)) := by
      unfold toR toU
      rcases rdL_in (base := 10) (most := 1000000000) (by omega) (c :: r) (n := 0) (by omega) (by omega) with h | h
      · rw [if_pos h, if_pos (by omega)]
      · rw [if_neg (by omega), if_neg (by omega), Int.mul_one]
    by_cases hc : c.toNat = 48
    · have hc2 : ((c.toNat : Int) == 48) = true := by rw [hc]; rfl
      have hc3 : c = 48 := by rw [← UInt8.toNat_inj]; exact hc
      rw [hc2, oif_t]
      cases r with
      | nil =>
        rw [decide_eq_true (by rw [hc3]), Bool.not_true, oif_f, loop, fin]
        simp [rcV]
      | cons a b =>
        rw [decide_eq_false (by simp), Bool.not_false, oif_t]
        simp [rcV, hc, toR]
    · have hc2 : ((c.toNat : Int) == 48) = false := by simp; omega
      rw [hc2, oif_f, oif_f, loop, fin]
      simp [rcV, hc]

theorem last_get {l : List UInt8} {c : UInt8} (h : l.getLast? = some c) : 0 < l.length ∧ l[l.length - 1]? = some c := by
  rw [List.getLast?_eq_getElem?] at h
  exact ⟨by have := (List.getElem?_eq_some_iff.1 h).1; omega, h⟩

theorem bl_init (s : ByteArray) : bl (s.extract 0 (s.size - 1)) = (bl s).dropLast := by
  rw [bl_ext, bl_len, List.drop_zero, Nat.sub_zero, List.dropLast_eq_take]

theorem not_zero {l : List UInt8} {c : UInt8} (h : l.getLast? = some c) (hc : c.toNat ≠ 48) : l ≠ [48] := fun h2 => by
  rw [h2] at h
  simp at h
  rw [← h] at hc; exact hc rfl

theorem q_ReadNumber {d : Nat} {s : ByteArray} (hs : s.size < 4194304) : g106 (d + 2) s = some (toR (nrV (bl s))) := by
  rw [e106]
  cases hl : (bl s).getLast? with
  | none =>
    have hn : bl s = [] := by simpa using hl
    rw [bl_len, hn]
    have := rn_one (d := d) hs
    rw [hn] at this
    show oif (decide (((0 : Nat) : Int) > 0)) _ _ = _
    rw [decide_eq_false (by omega), oif_f, this]; rfl
  | some c =>
    obtain ⟨h1, h2⟩ := last_get hl
    have hsz : ((s.size : Nat) : Int) - 1 = ((s.size - 1 : Nat) : Int) := by rw [bl_len]; omega
    have hb := bl_len s
    rw [wr (n := ((s.size : Nat) : Int) - 1) (by omega) (by omega), hsz]
    simp only [ofNat_toNat, nn, oif_t]
    rw [slice_t (by omega) (by omega), slice_t (by omega) (by omega), decide_eq_true (by rw [bl_len]; omega), oif_t]
    rw [bl_def, show s.size - 1 = (bl s).length - 1 by rw [bl_len], h2, ob_s, show (bl s).length - 1 = s.size - 1 by rw [bl_len]]
    have hsz2 : (s.extract 0 (s.size - 1)).size < 4194304 := by rw [ByteArray.size_extract]; omega
    unfold nrV
    rw [hl]
    simp only
    by_cases h3 : c.toNat = 107
    · rw [show ((c.toNat : Int) == 107) = true by rw [h3]; rfl, oif_t, if_neg (by omega), if_pos h3, rn_unit (u := 1000) (most := 1000000) (by omega) (by omega) (by omega) hsz2 (not_zero hl (by omega)), bl_init]
    · rw [show ((c.toNat : Int) == 107) = false by simp; omega, oif_f, if_neg h3]
      by_cases h4 : c.toNat = 109
      · rw [show ((c.toNat : Int) == 109) = true by rw [h4]; rfl, oif_t, if_pos h4, rn_unit (u := 1000000) (most := 1000) (by omega) (by omega) (by omega) hsz2 (not_zero hl (by omega)), bl_init]
      · rw [show ((c.toNat : Int) == 109) = false by simp; omega, oif_f, if_neg h4, rn_one hs]

theorem bl_last (s : ByteArray) {c : UInt8} (h : (bl s).getLast? = some c) : bl (s.extract (s.size - 1) s.size) = [c] := by
  obtain ⟨h1, h2⟩ := last_get h
  rw [bl_ext, bl_len, List.drop_eq_getElem_cons (show (bl s).length - 1 < (bl s).length by omega), List.drop_eq_nil_of_le (by omega)]
  rw [List.getElem?_eq_getElem (by omega)] at h2
  injection h2 with h2
  rw [h2, show (bl s).length - ((bl s).length - 1) = 1 by omega]; rfl

theorem q_nuRead {d : Nat} {s : ByteArray} (hs : s.size < 4194304) : g114 (d + 2) s = some (nrV (bl s)) := by
  rw [e114, q_nuUnits, ob_s]
  refine (range_eq (fun (t : Int) (i : Int) => (t, i)) [(⟨#[109]⟩ : ByteArray), (⟨#[107]⟩ : ByteArray), (⟨#[]⟩ : ByteArray)] (fun x i t k => oif (!(x.toList == (⟨#[]⟩ : ByteArray).toList)) (oif (decide (((s.size : Nat) : Int) > 0)) (oif ((s.extract (s.size - 1) s.size).toList == x.toList) (obind (g117 (d + 1) (i : Int)) fun r11 => oif (r11 == 0) none (obind (g115 (d + 1) (s.extract 0 (s.size - 1)) 10 (IntKind.i64.wrap ((1000000000 : Int).tdiv r11))) fun r12 => oif (decide (r12 ≤ 0)) (some (-1)) (obind (g117 (d + 1) (i : Int)) fun r13 => some (IntKind.i64.wrap (r12 * r13))))) (k t)) (k t)) (k t)) (j114_0 (d + 1) s) ?_ ?_ (by rw [fuelN_eq]; simp) 0).trans ?_
  · intro ag t i x hx
    have hi := (List.getElem?_eq_some_iff.1 hx).1
    simp only [List.length_cons, List.length_nil] at hi
    simp only [l114_0, l114_0_b, ltl hx, bltl hx, nn, ofNat_toNat, hx, ob_s, oif_t, oif_f, j114_1]
    rw [wr1 (by omega)]
    cases hsz : decide (((s.size : Nat) : Int) > 0) with
    | false => simp only [oif_f]
    | true =>
      simp only [decide_eq_true_eq] at hsz
      have he : ((s.size : Nat) : Int) - 1 = ((s.size - 1 : Nat) : Int) := by omega
      rw [wr (n := ((s.size : Nat) : Int) - 1) (by omega) (by omega), he]
      simp only [ofNat_toNat, nn, oif_t]
      rw [slice_t (by omega) (by omega), slice_t (by omega) (by omega)]
  · intro ag t; simp only [l114_0, l114_0_b, ltn, oif_f]
  · simp only [rangeR]
    have e0 : ((⟨#[109]⟩ : ByteArray).toList == (⟨#[]⟩ : ByteArray).toList) = false := by rw [bl_eq]; rfl
    have e1 : ((⟨#[107]⟩ : ByteArray).toList == (⟨#[]⟩ : ByteArray).toList) = false := by rw [bl_eq]; rfl
    have e2 : ((⟨#[]⟩ : ByteArray).toList == (⟨#[]⟩ : ByteArray).toList) = true := by rw [bl_eq]; rfl
    simp only [e0, e1, e2, Bool.not_true, Bool.not_false, oif_t, oif_f]
    rw [show ((0 : Nat) : Int) = 0 from rfl, show ((0 + 1 : Nat) : Int) = 1 from rfl, q_nuSize0, q_nuSize1]
    simp only [ob_s, show ((1000000 : Int) == 0) = false from rfl, show ((1000 : Int) == 0) = false from rfl, oif_f]
    rw [show (1000000000 : Int).tdiv 1000000 = 1000 from rfl, show (1000000000 : Int).tdiv 1000 = 1000000 from rfl, wr (n := (1000 : Int)) (by omega) (by omega), wr (n := (1000000 : Int)) (by omega) (by omega)]
    unfold j114_0
    rw [q_nuDigits (by omega) (by omega) (by omega) (by omega) hs, ob_s]
    cases hl : (bl s).getLast? with
    | none =>
      have hn : bl s = [] := by simpa using hl
      have hz : s.size = 0 := by rw [bl_len, hn]; rfl
      rw [hz, decide_eq_false (by omega), oif_f, oif_f]
      unfold nrV
      rw [hl, hn]; rfl
    | some c =>
      obtain ⟨h1, h2⟩ := last_get hl
      have hb := bl_len s
      have hsz2 : (s.extract 0 (s.size - 1)).size < 4194304 := by rw [ByteArray.size_extract]; omega
      rw [decide_eq_true (show ((s.size : Nat) : Int) > 0 by omega), oif_t, oif_t, bl_eq, bl_eq, bl_last s hl, bl_lit [109], bl_lit [107]]
      rw [q_nuDigits (by omega) (by omega) (by omega) (by omega) hsz2, ob_s, q_nuDigits (by omega) (by omega) (by omega) (by omega) hsz2, ob_s, bl_init]
      unfold nrV
      rw [hl]
      simp only
      have key : ∀ u most : Int, 0 ≤ most → most * u = 1000000000 → 1 ≤ u → oif (decide (rcV 10 most (bl s).dropLast ≤ 0)) (some (-1)) (some (IntKind.i64.wrap (rcV 10 most (bl s).dropLast * u))) = some (unV2 u most (bl s).dropLast) := by
        intro u most hm hum hu
        unfold unV2
        have h5 := rcV_in (base := 10) (most := most) (by omega) hm (bl s).dropLast
        by_cases h6 : rcV 10 most (bl s).dropLast ≤ 0
        · rw [decide_eq_true h6, oif_t, if_pos h6]
        · have k : rcV 10 most (bl s).dropLast * u ≤ most * u := Int.mul_le_mul_of_nonneg_right (by omega) (by omega)
          have k2 : 0 ≤ rcV 10 most (bl s).dropLast * u := Int.mul_nonneg (by omega) (by omega)
          rw [decide_eq_false h6, oif_f, if_neg h6, wr (by omega) (by omega)]
      rw [key 1000000 1000 (by omega) (by omega) (by omega), key 1000 1000000 (by omega) (by omega) (by omega)]
      by_cases h3 : c.toNat = 109
      · have hc : c = 109 := by rw [← UInt8.toNat_inj]; exact h3
        rw [if_pos h3, decide_eq_true (by rw [hc]), oif_t]
      · have hc : ¬ ([c] = [109]) := fun h => h3 (by injection h with h; rw [h]; rfl)
        rw [if_neg h3, decide_eq_false hc, oif_f]
        by_cases h4 : c.toNat = 107
        · have hc : c = 107 := by rw [← UInt8.toNat_inj]; exact h4
          rw [if_pos h4, decide_eq_true (by rw [hc]), oif_t]
        · have hc : ¬ ([c] = [107]) := fun h => h4 (by injection h with h; rw [h]; rfl)
          rw [if_neg h4, decide_eq_false hc, oif_f]

/-- Hexadecimal texts. -/
def hxB (l : List UInt8) : Bool := decide (l.take 2 = [48, 120])

def nyV (l : List UInt8) : Int := if hxB l then rcV 16 65535 (l.drop 2) else nrV l

theorem nyV_in (l : List UInt8) : -1 ≤ nyV l ∧ nyV l ≤ 1000000000 := by
  unfold nyV
  split
  · have := rcV_in (base := 16) (most := 65535) (by omega) (by omega) (l.drop 2); omega
  · exact nrV_in l

theorem hxB_cons {l : List UInt8} (h : hxB l = true) : ∃ r, l = 48 :: 120 :: r := by
  simp only [hxB, decide_eq_true_eq] at h
  match l, h with
  | a :: b :: r, h =>
    simp only [List.take_succ_cons, List.take_zero, List.cons.injEq, and_true] at h
    exact ⟨r, by rw [h.1, h.2]⟩

theorem hx_two {s : ByteArray} (h : ¬ ((s.size : Nat) : Int) ≥ 2) : hxB (bl s) = false := by
  cases hb : hxB (bl s) with
  | false => rfl
  | true =>
    obtain ⟨r, hr⟩ := hxB_cons hb
    rw [bl_len, hr] at h
    simp at h; omega

theorem hx_ext (s : ByteArray) : ((s.extract 0 2).toList == (⟨#[48, 120]⟩ : ByteArray).toList) = hxB (bl s) := by
  rw [bl_eq, bl_ext, bl_lit [48, 120], List.drop_zero]; rfl

theorem q_nuIsHex {d : Nat} {s : ByteArray} : g112 (d + 1) s = some (hxB (bl s)) := by
  rw [e112]
  by_cases h : ((s.size : Nat) : Int) ≥ 2
  · rw [decide_eq_true h, oif_t, slice_t (by omega) (by omega), hx_ext]
  · rw [decide_eq_false h, oif_f, hx_two h]

theorem q_nuAny {d : Nat} {s : ByteArray} (hs : s.size < 4194304) : g109 (d + 3) s = some (nyV (bl s)) := by
  rw [e109, q_nuIsHex, ob_s]
  unfold nyV
  cases hx : hxB (bl s) with
  | false => rw [oif_f, q_nuRead hs, ob_s]; rfl
  | true =>
    obtain ⟨r, hr⟩ := hxB_cons hx
    have h2 : 2 ≤ s.size := by rw [bl_len, hr]; simp
    have hsz : (s.extract 2 s.size).size < 4194304 := by rw [ByteArray.size_extract]; omega
    rw [oif_t, e113, q_nuIsHex, ob_s, hx, Bool.not_true, oif_f, slice_t h2 (Nat.le_refl _), q_nuDigits (by omega) (by omega) (by omega) (by omega) hsz, ob_s, ob_s, bl_ext]
    rw [List.take_of_length_le (by rw [List.length_drop]; rw [bl_len]; omega)]; rfl

theorem shl_or {n e : Int} (h0 : 0 ≤ n) (h1 : n ≤ 1099511627775) (h2 : 0 ≤ e) (h3 : e < 16) : IntKind.i64.wrap ((BitVec.ofInt IntKind.i64.bits (IntKind.i64.wrap (n * 2 ^ (min (4 : Int).toNat IntKind.i64.bits))) ||| BitVec.ofInt IntKind.i64.bits e).toNat : Int) = n * 16 + e := by
  obtain ⟨n, rfl⟩ := Int.eq_ofNat_of_zero_le h0
  obtain ⟨e, rfl⟩ := Int.eq_ofNat_of_zero_le h2
  have e1 : (2 : Int) ^ (min (4 : Int).toNat IntKind.i64.bits) = 16 := rfl
  rw [e1, wr (n := (n : Int) * 16) (by omega) (by omega)]
  have e2 : (n : Int) * 16 = ((n * 16 : Nat) : Int) := by push_cast; rfl
  rw [e2, BitVec.ofInt_natCast, BitVec.ofInt_natCast, BitVec.toNat_or, BitVec.toNat_ofNat, BitVec.toNat_ofNat]
  have e3 : (2 : Nat) ^ IntKind.i64.bits = 18446744073709551616 := rfl
  rw [e3, Nat.mod_eq_of_lt (by omega), Nat.mod_eq_of_lt (by omega)]
  have e4 := Nat.two_pow_add_eq_or_of_lt (i := 4) (b := e) (by omega) n
  rw [show n * 16 = 2 ^ 4 * n by omega, ← e4, wr (by omega) (by omega)]; omega

theorem q_hexDigit {d : Nat} {c : UInt8} : g111 (d + 2) (c.toNat : Int) = some (if dg c ≥ 16 then -1 else dg c) := by
  have hc := c.toNat_lt
  rw [e111, q_isDigit, ob_s]
  by_cases h : 48 ≤ c.toNat ∧ c.toNat ≤ 57
  · have e : dg c = (c.toNat : Int) - 48 := by unfold dg; rw [if_pos h]
    have hu8 : IntKind.u8.wrap ((c.toNat : Int) - 48) = (c.toNat : Int) - 48 := by
      show ((c.toNat : Int) - 48) % 256 = _
      omega
    rw [decide_eq_true h, oif_t, hu8, wr (by omega) (by omega), if_neg (by omega), e]
  · rw [decide_eq_false h, oif_f]
    by_cases h2 : 97 ≤ c.toNat ∧ c.toNat ≤ 102
    · have e : dg c = (c.toNat : Int) - 87 := by unfold dg; rw [if_neg h, if_pos h2]
      have hu8 : IntKind.u8.wrap ((c.toNat : Int) - 97) = (c.toNat : Int) - 97 := by
        show ((c.toNat : Int) - 97) % 256 = _
        omega
      rw [decide_eq_true (by omega), oif_t, decide_eq_true (by omega), oif_t, hu8, wr (n := (c.toNat : Int) - 97) (by omega) (by omega), wr (by omega) (by omega), if_neg (by omega), e]
      congr 1; omega
    · have e : dg c = 99 := by unfold dg; rw [if_neg h, if_neg h2]
      rw [if_pos (by omega)]
      by_cases h3 : (c.toNat : Int) ≥ 97
      · rw [decide_eq_true h3, oif_t, decide_eq_false (by omega), oif_f]
      · rw [decide_eq_false h3, oif_f]

theorem rh_range : ∀ (l : List UInt8) (i : Nat) (t : Int), 0 ≤ t → t ≤ 65535 →
    rangeR (fun (x : UInt8) _ (t : Int) k => oif (decide ((if dg x ≥ 16 then -1 else dg x) < 0)) (some ((0 : Int), false)) (oif (decide (IntKind.i64.wrap ((BitVec.ofInt IntKind.i64.bits (IntKind.i64.wrap (t * 2 ^ (min (4 : Int).toNat IntKind.i64.bits))) ||| BitVec.ofInt IntKind.i64.bits (if dg x ≥ 16 then -1 else dg x)).toNat : Int) > 65535)) (some (0, false)) (k (IntKind.i64.wrap ((BitVec.ofInt IntKind.i64.bits (IntKind.i64.wrap (t * 2 ^ (min (4 : Int).toNat IntKind.i64.bits))) ||| BitVec.ofInt IntKind.i64.bits (if dg x ≥ 16 then -1 else dg x)).toNat : Int))))) (fun t => some (t, true)) l i t = some (toR (rdL 16 65535 t l))
  | [], i, t, h0, h1 => by
    simp only [rangeR, rdL]; unfold toR; rw [if_neg (by omega)]
  | c :: r, i, t, h0, h1 => by
    simp only [rangeR, rdL]
    have hd := dg_in c
    by_cases h : dg c ≥ 16
    · rw [if_pos h, if_pos h]; rfl
    · rw [if_neg h, if_neg h, decide_eq_false (by omega), oif_f, shl_or h0 (by omega) hd.1 (by omega)]
      by_cases h2 : t * 16 + dg c > 65535
      · rw [decide_eq_true h2, oif_t, if_pos h2]; rfl
      · rw [decide_eq_false h2, oif_f, if_neg h2]
        exact rh_range r (i + 1) _ (by omega) (by omega)

theorem q_ReadHex {d : Nat} {s : ByteArray} (hs : s.size < 4194304) (hx : hxB (bl s) = true) : g105 (d + 3) s = some (toR (rcV 16 65535 ((bl s).drop 2))) := by
  obtain ⟨r, hr⟩ := hxB_cons hx
  have loop : iterP (l105_0 (d + 2) s (j105_0 (d + 2))) fuelN (0, false, 0, 2) = some (toR (rdL 16 65535 0 ((bl s).drop 2))) := by
    have hs2 := hs
    rw [bl_len] at hs2
    refine (range_from (fun (t : Int) (i : Int) => ((0 : Int), false, t, i)) (bl s) (fun (x : UInt8) _ (t : Int) k => oif (decide ((if dg x ≥ 16 then -1 else dg x) < 0)) (some ((0 : Int), false)) (oif (decide (IntKind.i64.wrap ((BitVec.ofInt IntKind.i64.bits (IntKind.i64.wrap (t * 2 ^ (min (4 : Int).toNat IntKind.i64.bits))) ||| BitVec.ofInt IntKind.i64.bits (if dg x ≥ 16 then -1 else dg x)).toNat : Int) > 65535)) (some (0, false)) (k (IntKind.i64.wrap ((BitVec.ofInt IntKind.i64.bits (IntKind.i64.wrap (t * 2 ^ (min (4 : Int).toNat IntKind.i64.bits))) ||| BitVec.ofInt IntKind.i64.bits (if dg x ≥ 16 then -1 else dg x)).toNat : Int))))) (fun t => some (t, true)) ?_ ?_ fuelN 2 0 (by rw [fuelN_eq]; omega) (by rw [hr]; simp)).trans (rh_range _ _ _ (Int.le_refl 0) (by omega))
    · intro ag t i x hx
      have hi := (List.getElem?_eq_some_iff.1 hx).1
      simp only [l105_0, l105_0_b, bl_def]
      rw [bl_len]
      simp only [bl_def, ltl hx, nn, ofNat_toNat, hx, ob_s, oif_t, q_hexDigit]
      rw [wr1 (by omega)]
    · intro ag t
      simp only [l105_0, l105_0_b]
      rw [bl_len, ltn, oif_f]; rfl
  rw [e105]
  unfold j105_1
  simp only [bl_def]
  rw [bl_len]
  rw [hr] at loop ⊢
  rw [List.drop_succ_cons, List.drop_succ_cons, List.drop_zero] at loop ⊢
  simp only [List.getElem?_cons_zero, List.getElem?_cons_succ, ob_s]
  have c1 : ((((48 : UInt8).toNat : Nat) : Int) != 48) = false := rfl
  have c2 : ((((120 : UInt8).toNat : Nat) : Int) != 120) = false := rfl
  cases r with
  | nil => rw [decide_eq_true (by simp), oif_t, oif_t]; rfl
  | cons c r =>
    rw [decide_eq_false (by simp; omega), oif_f, c1, oif_f, c2, oif_f]
    simp only [List.getElem?_cons_zero, ob_s]
    by_cases hc : c.toNat = 48
    · have hc2 : ((c.toNat : Int) == 48) = true := by rw [hc]; rfl
      rw [hc2, oif_t]
      cases r with
      | nil =>
        rw [decide_eq_false (by simp), oif_f, loop]; simp [rcV]
      | cons a b =>
        rw [decide_eq_true (by simp; omega), oif_t]; simp [rcV, hc, toR]
    · have hc2 : ((c.toNat : Int) == 48) = false := by simp; omega
      rw [hc2, oif_f, oif_f, loop]; simp [rcV, hc]

theorem q_ReadAny {d : Nat} {s : ByteArray} (hs : s.size < 4194304) : g93 (d + 4) s = some (toR (nyV (bl s))) := by
  rw [e93]
  unfold nyV
  by_cases h : ((s.size : Nat) : Int) ≥ 2
  · rw [decide_eq_true h, oif_t, slice_t (by omega) (by omega), hx_ext]
    cases hx : hxB (bl s) with
    | true => rw [oif_t, q_ReadHex hs hx, ob_s]; rfl
    | false => rw [oif_f, q_ReadNumber hs, ob_s]; rfl
  · rw [decide_eq_false h, oif_f, q_ReadNumber hs, ob_s, hx_two h]; rfl

def sgI (x y : Int) : Int := if x < y then -1 else if x > y then 1 else 0

def ctV (a b : List UInt8) : Int × Bool := if nyV a < 0 ∨ nyV b < 0 then (0, false) else (sgI (nyV a) (nyV b), true)

theorem sgI_flip (x y : Int) : sgI y x = 0 - sgI x y := by
  unfold sgI; (repeat' split) <;> omega

theorem q_scBytes {d : Nat} {n : Int} : g22 (d + 1) n = some (decide (n ≤ 4000)) := e22 d n

def pl (c : UInt8) : Bool := decide ((32 ≤ c.toNat ∧ c.toNat ≤ 126) ∨ c.toNat = 9 ∨ c.toNat = 10)

theorem pl_if (c : UInt8) : oif (decide ((c.toNat : Int) ≥ 32)) (oif (decide ((c.toNat : Int) ≤ 126)) (some true) (oif ((c.toNat : Int) == 9) (some true) (some ((c.toNat : Int) == 10)))) (oif ((c.toNat : Int) == 9) (some true) (some ((c.toNat : Int) == 10))) = some (pl c) := by
  simp only [oif_ss]; congr 1
  rw [Bool.eq_iff_iff]; unfold pl
  simp only [decide_eq_true_eq, beq_iff_eq]
  (repeat' split) <;> simp <;> omega

theorem q_isPlain {d : Nat} {c : UInt8} : g89 (d + 1) (c.toNat : Int) = some (pl c) := by rw [e89]; exact pl_if c

theorem q_scPlain {d : Nat} {c : UInt8} : g97 (d + 1) (c.toNat : Int) = some (pl c) := by rw [e97]; exact pl_if c

theorem q_nReadAny {d : Nat} {s : ByteArray} (hs : s.size < 4194304) : g102 (d + 4) s = some (toR (nyV (bl s))) := by
  rw [e102, q_nuAny hs, ob_s]
  unfold toR
  by_cases h : nyV (bl s) < 0
  · rw [decide_eq_true h, oif_t, if_pos h]
  · rw [decide_eq_false h, oif_f, if_neg h]

def fstN (c : Nat → Bool) (k : Nat) : Nat → Nat
  | 0 => k
  | r + 1 => if c k then k else fstN c (k + 1) r

theorem fstN_in {c : Nat → Bool} : ∀ (r k : Nat), k ≤ fstN c k r ∧ fstN c k r ≤ k + r
  | 0, k => ⟨Nat.le_refl _, Nat.le_refl _⟩
  | r + 1, k => by
    simp only [fstN]
    have := fstN_in (c := c) r (k + 1)
    split <;> omega

def bt (s : ByteArray) (i : Nat) : UInt8 := (bl s).getD i 0

theorem bt_get {s : ByteArray} {i : Nat} (h : i < s.size) : s.data.toList[i]? = some (bt s i) := by
  have h2 : i < (bl s).length := h
  show (bl s)[i]? = some ((bl s).getD i 0)
  rw [List.getD_eq_getElem?_getD, List.getElem?_eq_getElem h2]; rfl

def cmC (s : ByteArray) (k : Nat) : Bool := decide ((bt s k).toNat = 10) || !pl (bt s k)

def cmE (s : ByteArray) (a : Nat) : Nat := fstN (cmC s) a (s.size - a)

theorem cmE_in {s : ByteArray} {a : Nat} (h : a ≤ s.size) : a ≤ cmE s a ∧ cmE s a ≤ s.size := by
  have := fstN_in (c := cmC s) (s.size - a) a
  unfold cmE; omega

theorem cmE_t {s : ByteArray} {a : Nat} (h : a < s.size) (h2 : cmC s a = true) : cmE s a = a := by
  unfold cmE
  rw [show s.size - a = (s.size - a - 1) + 1 by omega, fstN, h2]; rfl

theorem cmE_f {s : ByteArray} {a : Nat} (h : a < s.size) (h2 : cmC s a = false) : cmE s a = cmE s (a + 1) := by
  unfold cmE
  rw [show s.size - a = (s.size - (a + 1)) + 1 by omega, fstN, h2]; rfl

theorem cmE_n {s : ByteArray} : cmE s s.size = s.size := by unfold cmE; rw [Nat.sub_self]; rfl

theorem cm_impl {d : Nat} {s : ByteArray} {β : Type} {K : Int → Int → Bool → Bool → Bool → Bool → Option Int} {X : Nat → Option Int} (hK : ∀ (n : Nat) b1 b2 b3 b4, K (n : Int) (n : Int) b1 b2 b3 b4 = X n) (hs : s.size < 4000000) :
    ∀ (k fuel a : Nat), a + k = s.size → k < fuel → iterP (l75_1 (d + 1) s K) fuel (a : Int) = X (cmE s a)
  | _, 0, _, _, h => by omega
  | 0, fuel + 1, a, h, hf => by
    obtain rfl : a = s.size := by omega
    simp only [iterP, l75_1, l75_1_b]
    rw [ltn, oif_f, hK, cmE_n]
  | k + 1, fuel + 1, a, h, hf => by
    have ha : a < s.size := by omega
    simp only [iterP, l75_1, l75_1_b]
    rw [decide_eq_true (show (a : Int) < ((s.size : Nat) : Int) by omega), oif_t, nn, oif_t, ofNat_toNat, bt_get ha, ob_s, oif_t, ob_s, q_isPlain, ob_s]
    by_cases h1 : (bt s a).toNat = 10
    · rw [show (((bt s a).toNat : Int) != 10) = false by rw [bne_eq_false_iff_eq]; omega, oif_f, hK, cmE_t ha (by unfold cmC; rw [decide_eq_true h1]; rfl)]
    · rw [show (((bt s a).toNat : Int) != 10) = true by rw [bne_iff_ne]; omega, oif_t]
      cases hp : pl (bt s a) with
      | true =>
        rw [oif_t, wr1 (by omega), cmE_f ha (by unfold cmC; rw [decide_eq_false h1, hp]; rfl)]
        exact cm_impl (β := β) hK hs k fuel (a + 1) (by omega) (by omega)
      | false => rw [oif_f, hK, cmE_t ha (by unfold cmC; rw [hp]; simp)]

theorem cm_spec {d : Nat} {s : ByteArray} {β : Type} {K : Int → Int → Bool → Bool → Bool → Bool → Option Int} {X : Nat → Option Int} (hK : ∀ (n : Nat) b1 b2 b3 b4, K (n : Int) (n : Int) b1 b2 b3 b4 = X n) (hs : s.size < 4000000) :
    ∀ (k fuel a : Nat), a + k = s.size → k < fuel → iterP (l85_1 (d + 1) s K) fuel (a : Int) = X (cmE s a)
  | _, 0, _, _, h => by omega
  | 0, fuel + 1, a, h, hf => by
    obtain rfl : a = s.size := by omega
    simp only [iterP, l85_1, l85_1_b]
    rw [ltn, oif_f, hK, cmE_n]
  | k + 1, fuel + 1, a, h, hf => by
    have ha : a < s.size := by omega
    simp only [iterP, l85_1, l85_1_b]
    rw [decide_eq_true (show (a : Int) < ((s.size : Nat) : Int) by omega), oif_t, nn, oif_t, ofNat_toNat, bt_get ha, ob_s, oif_t, ob_s, q_scPlain, ob_s]
    by_cases h1 : (bt s a).toNat = 10
    · rw [show (((bt s a).toNat : Int) != 10) = false by rw [bne_eq_false_iff_eq]; omega, oif_f, hK, cmE_t ha (by unfold cmC; rw [decide_eq_true h1]; rfl)]
    · rw [show (((bt s a).toNat : Int) != 10) = true by rw [bne_iff_ne]; omega, oif_t]
      cases hp : pl (bt s a) with
      | true =>
        rw [oif_t, wr1 (by omega), cmE_f ha (by unfold cmC; rw [decide_eq_false h1, hp]; rfl)]
        exact cm_spec (β := β) hK hs k fuel (a + 1) (by omega) (by omega)
      | false => rw [oif_f, hK, cmE_t ha (by unfold cmC; rw [hp]; simp)]

/-- Space. -/
def isSp (c : UInt8) : Bool := (((c.toNat : Int) == 32) || (((c.toNat : Int) == 9) || ((c.toNat : Int) == 10)))

def isEs (s : ByteArray) (a : Nat) : Bool := ((bt s a).toNat : Int) == 92 && (decide (((a + 1 : Nat) : Int) < ((s.size : Nat) : Int)) && ((bt s (a + 1)).toNat : Int) == 10)

def skV (s : ByteArray) : Nat → Nat → Nat
  | 0, a => a
  | f + 1, a => if a < s.size then (if isSp (bt s a) = true then skV s f (a + 1) else if isEs s a = true then skV s f (a + 2) else if (((bt s a).toNat : Int) == 35) = true then skV s f (cmE s (a + 1)) else a) else a

theorem isEs_in {s : ByteArray} {a : Nat} (h : isEs s a = true) : a + 1 < s.size := by
  unfold isEs at h
  simp only [Bool.and_eq_true, decide_eq_true_eq] at h
  omega

theorem skV_in {s : ByteArray} : ∀ (f : Nat) {a : Nat}, a ≤ s.size → a ≤ skV s f a ∧ skV s f a ≤ s.size
  | 0, a, h => ⟨Nat.le_refl _, h⟩
  | f + 1, a, h => by
    simp only [skV]
    split
    · rename_i hlt
      split
      · have := skV_in f (s := s) (a := a + 1) (by omega); omega
      · split
        · rename_i he
          have := isEs_in he
          have := skV_in f (s := s) (a := a + 2) (by omega); omega
        · split
          · have := cmE_in (s := s) (a := a + 1) (by omega)
            have := skV_in f (s := s) (a := cmE s (a + 1)) (by omega); omega
          · omega
    · omega

theorem sk_end {d : Nat} {s : ByteArray} {ag : Int × Int → Option Int} {a : Nat} {n : Int} (ha : a < s.size) (hs : s.size < 4000000) (h1 : isSp (bt s a) = false) {n1 : Int} {b1 b2 b3 b4 b5 : Bool} :
    j75_3 (d + 1) s ag (a : Int) n false n1 b1 b2 b3 b4 b5 = if isEs s a = true then ag (((a + 2 : Nat) : Int), n) else if (((bt s a).toNat : Int) == 35) = true then ag ((cmE s (a + 1) : Nat), n) else some (a : Int) := by
  unfold j75_3 isEs
  rw [oif_f, nn, oif_t, ofNat_toNat, bt_get ha, ob_s]
  have h2 : ∀ (b : Bool) {n1 : Int} {b1 b2 b3 b4 b5 : Bool}, j75_2 (d + 1) s ag (a : Int) n b n1 b1 b2 b3 b4 b5 = if b = true then ag (((a + 2 : Nat) : Int), n) else if (((bt s a).toNat : Int) == 35) = true then ag ((cmE s (a + 1) : Nat), n) else some (a : Int) := by
    intro b n1 b1 b2 b3 b4 b5
    unfold j75_2
    cases b with
    | true => rw [oif_t, if_pos rfl, show ((a : Int) + 2) = ((a + 2 : Nat) : Int) by omega, wr (by omega) (by omega)]
    | false =>
      rw [oif_f, nn, oif_t, ofNat_toNat, bt_get ha, ob_s, if_neg (by simp)]
      cases hc : (((bt s a).toNat : Int) == 35) with
      | true =>
        rw [oif_t, if_pos rfl, wr1 (by omega)]
        exact cm_impl (β := Unit) (X := fun k => ag ((k : Int), n)) (fun _ _ _ _ _ => rfl) hs (s.size - (a + 1)) fuelN (a + 1) (by omega) (by rw [fuelN_eq]; omega)
      | false => rw [oif_f, if_neg (by simp)]
  cases h3 : (((bt s a).toNat : Int) == 92) with
  | false => rw [oif_f, h2]; simp
  | true =>
    rw [oif_t, wr1 (by omega)]
    by_cases h4 : a + 1 < s.size
    · rw [decide_eq_true (show ((a + 1 : Nat) : Int) < ((s.size : Nat) : Int) by omega), oif_t, nn, oif_t, ofNat_toNat, bt_get h4, ob_s, h2]; simp
    · rw [decide_eq_false (show ¬ ((a + 1 : Nat) : Int) < ((s.size : Nat) : Int) by omega), oif_f, h2]; simp

theorem sk_impl {d : Nat} {s : ByteArray} {n : Int} (hs : s.size < 4000000) : ∀ (f fuel a : Nat), s.size - a < f → f ≤ fuel → a ≤ s.size → iterP (l75_0 (d + 1) s (j75_0 (d + 1))) fuel ((a : Int), n) = some ((skV s f a : Nat) : Int)
  | 0, _, _, h, _, _ => by omega
  | f + 1, 0, _, _, h, _ => by omega
  | f + 1, fuel + 1, a, h, hf, ha => by
    simp only [iterP, l75_0, l75_0_b, skV]
    by_cases hlt : a < s.size
    case neg => rw [decide_eq_false (show ¬ (a : Int) < ((s.size : Nat) : Int) by omega), oif_f, if_neg hlt]; rfl
    rw [decide_eq_true (show (a : Int) < ((s.size : Nat) : Int) by omega), oif_t, if_pos hlt, nn, oif_t, ofNat_toNat, bt_get hlt, ob_s, oif_t, ob_s, oif_t, ob_s]
    have ht : isSp (bt s a) = true → ∀ {n1 : Int} {b1 b2 b3 b4 b5 : Bool}, j75_3 (d + 1) s (iterP (l75_0 (d + 1) s (j75_0 (d + 1))) fuel) (a : Int) n true n1 b1 b2 b3 b4 b5 = some (((if isSp (bt s a) = true then skV s f (a + 1) else if isEs s a = true then skV s f (a + 2) else if (((bt s a).toNat : Int) == 35) = true then skV s f (cmE s (a + 1)) else a : Nat)) : Int) := by
      intro h1 n1 b1 b2 b3 b4 b5
      unfold j75_3
      rw [oif_t, if_pos h1, wr1 (by omega)]
      exact sk_impl hs f fuel (a + 1) (by omega) (by omega) (by omega)
    have hn : isSp (bt s a) = false → ∀ {n1 : Int} {b1 b2 b3 b4 b5 : Bool}, j75_3 (d + 1) s (iterP (l75_0 (d + 1) s (j75_0 (d + 1))) fuel) (a : Int) n false n1 b1 b2 b3 b4 b5 = some (((if isSp (bt s a) = true then skV s f (a + 1) else if isEs s a = true then skV s f (a + 2) else if (((bt s a).toNat : Int) == 35) = true then skV s f (cmE s (a + 1)) else a : Nat)) : Int) := by
      intro h1 n1 b1 b2 b3 b4 b5
      rw [sk_end hlt hs h1, h1, if_neg (show ¬ false = true by simp)]
      have hc := cmE_in (s := s) (a := a + 1) (by omega)
      by_cases h2 : isEs s a = true
      · have := isEs_in h2
        rw [if_pos h2, if_pos h2]
        exact sk_impl hs f fuel (a + 2) (by omega) (by omega) (by omega)
      · rw [if_neg h2, if_neg h2]
        by_cases h3 : (((bt s a).toNat : Int) == 35) = true
        · rw [if_pos h3, if_pos h3]
          exact sk_impl hs f fuel _ (by omega) (by omega) (by omega)
        · rw [if_neg h3, if_neg h3]
    unfold isSp at ht hn
    cases h1 : (((bt s a).toNat : Int) == 32) with
    | true => rw [oif_t]; exact ht (by rw [h1]; rfl)
    | false =>
      rw [oif_f]
      cases h2 : (((bt s a).toNat : Int) == 9) with
      | true => rw [oif_t]; exact ht (by rw [h1, h2]; rfl)
      | false =>
        rw [oif_f]
        cases h3 : (((bt s a).toNat : Int) == 10) with
        | true => exact ht (by rw [h1, h2, h3]; rfl)
        | false => exact hn (by rw [h1, h2, h3]; rfl)

theorem sk_endS {d : Nat} {s : ByteArray} {ag : Int × Int → Option Int} {a : Nat} {n : Int} (ha : a < s.size) (hs : s.size < 4000000) (h1 : isSp (bt s a) = false) {n1 : Int} {b1 b2 b3 b4 b5 : Bool} :
    j85_3 (d + 1) s ag (a : Int) n false n1 b1 b2 b3 b4 b5 = if isEs s a = true then ag (((a + 2 : Nat) : Int), n) else if (((bt s a).toNat : Int) == 35) = true then ag ((cmE s (a + 1) : Nat), n) else some (a : Int) := by
  unfold j85_3 isEs
  rw [oif_f, nn, oif_t, ofNat_toNat, bt_get ha, ob_s]
  have h2 : ∀ (b : Bool) {n1 : Int} {b1 b2 b3 b4 b5 : Bool}, j85_2 (d + 1) s ag (a : Int) n b n1 b1 b2 b3 b4 b5 = if b = true then ag (((a + 2 : Nat) : Int), n) else if (((bt s a).toNat : Int) == 35) = true then ag ((cmE s (a + 1) : Nat), n) else some (a : Int) := by
    intro b n1 b1 b2 b3 b4 b5
    unfold j85_2
    cases b with
    | true => rw [oif_t, if_pos rfl, show ((a : Int) + 2) = ((a + 2 : Nat) : Int) by omega, wr (by omega) (by omega)]
    | false =>
      rw [oif_f, nn, oif_t, ofNat_toNat, bt_get ha, ob_s, if_neg (by simp)]
      cases hc : (((bt s a).toNat : Int) == 35) with
      | true =>
        rw [oif_t, if_pos rfl]
        have h35 : (bt s a).toNat = 35 := by rw [beq_iff_eq] at hc; omega
        rw [← cmE_f ha (by unfold cmC pl; rw [h35]; decide)]
        exact cm_spec (β := Unit) (X := fun k => ag ((k : Int), n)) (fun _ _ _ _ _ => rfl) hs (s.size - a) fuelN a (by omega) (by rw [fuelN_eq]; omega)
      | false => rw [oif_f, if_neg (by simp)]
  cases h3 : (((bt s a).toNat : Int) == 92) with
  | false => rw [oif_f, h2]; simp
  | true =>
    rw [oif_t, wr1 (by omega)]
    by_cases h4 : a + 1 < s.size
    · rw [decide_eq_true (show ((a + 1 : Nat) : Int) < ((s.size : Nat) : Int) by omega), oif_t, nn, oif_t, ofNat_toNat, bt_get h4, ob_s, h2]; simp
    · rw [decide_eq_false (show ¬ ((a + 1 : Nat) : Int) < ((s.size : Nat) : Int) by omega), oif_f, h2]; simp

theorem sk_spec {d : Nat} {s : ByteArray} {n : Int} (hs : s.size < 4000000) : ∀ (f fuel a : Nat), s.size - a < f → f ≤ fuel → a ≤ s.size → iterP (l85_0 (d + 1) s (j85_0 (d + 1))) fuel ((a : Int), n) = some ((skV s f a : Nat) : Int)
  | 0, _, _, h, _, _ => by omega
  | f + 1, 0, _, _, h, _ => by omega
  | f + 1, fuel + 1, a, h, hf, ha => by
    simp only [iterP, l85_0, l85_0_b, skV]
    by_cases hlt : a < s.size
    case neg => rw [decide_eq_false (show ¬ (a : Int) < ((s.size : Nat) : Int) by omega), oif_f, if_neg hlt]; rfl
    rw [decide_eq_true (show (a : Int) < ((s.size : Nat) : Int) by omega), oif_t, if_pos hlt, nn, oif_t, ofNat_toNat, bt_get hlt, ob_s, oif_t, ob_s, oif_t, ob_s]
    have ht : isSp (bt s a) = true → ∀ {n1 : Int} {b1 b2 b3 b4 b5 : Bool}, j85_3 (d + 1) s (iterP (l85_0 (d + 1) s (j85_0 (d + 1))) fuel) (a : Int) n true n1 b1 b2 b3 b4 b5 = some (((if isSp (bt s a) = true then skV s f (a + 1) else if isEs s a = true then skV s f (a + 2) else if (((bt s a).toNat : Int) == 35) = true then skV s f (cmE s (a + 1)) else a : Nat)) : Int) := by
      intro h1 n1 b1 b2 b3 b4 b5
      unfold j85_3
      rw [oif_t, if_pos h1, wr1 (by omega)]
      exact sk_spec hs f fuel (a + 1) (by omega) (by omega) (by omega)
    have hn : isSp (bt s a) = false → ∀ {n1 : Int} {b1 b2 b3 b4 b5 : Bool}, j85_3 (d + 1) s (iterP (l85_0 (d + 1) s (j85_0 (d + 1))) fuel) (a : Int) n false n1 b1 b2 b3 b4 b5 = some (((if isSp (bt s a) = true then skV s f (a + 1) else if isEs s a = true then skV s f (a + 2) else if (((bt s a).toNat : Int) == 35) = true then skV s f (cmE s (a + 1)) else a : Nat)) : Int) := by
      intro h1 n1 b1 b2 b3 b4 b5
      rw [sk_endS hlt hs h1, h1, if_neg (show ¬ false = true by simp)]
      have hc := cmE_in (s := s) (a := a + 1) (by omega)
      by_cases h2 : isEs s a = true
      · have := isEs_in h2
        rw [if_pos h2, if_pos h2]
        exact sk_spec hs f fuel (a + 2) (by omega) (by omega) (by omega)
      · rw [if_neg h2, if_neg h2]
        by_cases h3 : (((bt s a).toNat : Int) == 35) = true
        · rw [if_pos h3, if_pos h3]
          exact sk_spec hs f fuel _ (by omega) (by omega) (by omega)
        · rw [if_neg h3, if_neg h3]
    unfold isSp at ht hn
    cases h1 : (((bt s a).toNat : Int) == 32) with
    | true => rw [oif_t]; exact ht (by rw [h1]; rfl)
    | false =>
      rw [oif_f]
      cases h2 : (((bt s a).toNat : Int) == 9) with
      | true => rw [oif_t]; exact ht (by rw [h1, h2]; rfl)
      | false =>
        rw [oif_f]
        cases h3 : (((bt s a).toNat : Int) == 10) with
        | true => exact ht (by rw [h1, h2, h3]; rfl)
        | false => exact hn (by rw [h1, h2, h3]; rfl)

def skA (s : ByteArray) (a : Nat) : Nat := skV s (s.size + 1) a

theorem skA_in {s : ByteArray} {a : Nat} (h : a ≤ s.size) : a ≤ skA s a ∧ skA s a ≤ s.size := skV_in _ h

theorem q_skipSpace {d : Nat} {s : ByteArray} {a : Nat} (hs : s.size < 4000000) (ha : a ≤ s.size) : g75 (d + 2) s (a : Int) = some ((skA s a : Nat) : Int) := by
  rw [e75]; exact sk_impl hs _ _ _ (by omega) (by rw [fuelN_eq]; omega) ha

theorem q_tkSkip {d : Nat} {s : ByteArray} {a : Nat} (hs : s.size < 4000000) (ha : a ≤ s.size) : g85 (d + 2) s (a : Int) = some ((skA s a : Nat) : Int) := by
  rw [e85]; exact sk_spec hs _ _ _ (by omega) (by rw [fuelN_eq]; omega) ha

theorem range_find {α τ : Type} {p : α → Bool} {z : α} : ∀ (l : List α) (i : Nat) (t : τ), rangeR (fun x _ t k => oif (p x) (some x) (k t)) (fun _ => some z) l i t = some ((l.find? p).getD z)
  | [], i, t => rfl
  | x :: r, i, t => by
    simp only [rangeR, List.find?_cons]
    cases p x with
    | true => rfl
    | false => exact range_find r (i + 1) t

theorem range_any {α τ : Type} {p : α → Bool} : ∀ (l : List α) (i : Nat) (t : τ), rangeR (fun x _ t k => oif (p x) (some true) (k t)) (fun _ => some false) l i t = some (l.any p)
  | [], i, t => rfl
  | x :: r, i, t => by
    simp only [rangeR, List.any_cons]
    cases p x with
    | true => rfl
    | false => exact range_any r (i + 1) t
abbrev Tk := Int × Int × ByteArray × Int

def SG : List ByteArray := [(⟨#[123]⟩ : ByteArray), (⟨#[125]⟩ : ByteArray), (⟨#[59]⟩ : ByteArray), (⟨#[47]⟩ : ByteArray), (⟨#[61]⟩ : ByteArray), (⟨#[45, 62]⟩ : ByteArray)]

def KW : List ByteArray := [(⟨#[113, 100, 105, 115, 99]⟩ : ByteArray), (⟨#[100, 101, 102, 97, 117, 108, 116]⟩ : ByteArray), (⟨#[99, 108, 97, 115, 115]⟩ : ByteArray), (⟨#[114, 97, 116, 101]⟩ : ByteArray), (⟨#[99, 101, 105, 108]⟩ : ByteArray), (⟨#[98, 117, 114, 115, 116]⟩ : ByteArray), (⟨#[99, 98, 117, 114, 115, 116]⟩ : ByteArray), (⟨#[112, 114, 105, 111]⟩ : ByteArray), (⟨#[108, 105, 109, 105, 116]⟩ : ByteArray), (⟨#[102, 105, 108, 116, 101, 114]⟩ : ByteArray), (⟨#[115, 111, 117, 114, 99, 101]⟩ : ByteArray), (⟨#[100, 101, 115, 116]⟩ : ByteArray), (⟨#[112, 111, 114, 116]⟩ : ByteArray), (⟨#[109, 97, 114, 107]⟩ : ByteArray)]

def isS (s : ByteArray) (a : Nat) (x : ByteArray) : Bool := decide (((bl s).drop a).take x.size = bl x)

def sgV (s : ByteArray) (a : Nat) : ByteArray := (SG.find? (isS s a)).getD ⟨#[]⟩

theorem isS_len {s x : ByteArray} {a : Nat} (h : isS s a x = true) : x.size ≤ s.size - a := by
  unfold isS at h
  simp only [decide_eq_true_eq] at h
  have := congrArg List.length h
  rw [List.length_take, List.length_drop, ← bl_len, ← bl_len] at this
  omega

theorem q_HasPrefix {d : Nat} {s x : ByteArray} {a : Nat} (ha : a ≤ s.size) : g103 (d + 2) (s.extract a s.size) x = some (isS s a x) := by
  rw [e103, e110]
  have hs : (s.extract a s.size).size = s.size - a := by rw [ByteArray.size_extract]; omega
  have hb : bl (s.extract a s.size) = (bl s).drop a := by rw [bl_ext, List.take_of_length_le (by rw [List.length_drop, ← bl_len]; omega)]
  by_cases h : s.size - a ≥ x.size
  · rw [hs, decide_eq_true (by omega), oif_t, nn, oif_t, ofNat_toNat, slice_t (by omega) (by omega), ob_s, bl_eq]
    unfold isS
    rw [bl_ext, hb, List.drop_zero, Nat.sub_zero]
  · rw [hs, decide_eq_false (by omega), oif_f, ob_s]
    congr 1
    cases h2 : isS s a x with
    | false => rfl
    | true => have := isS_len h2; omega

theorem q_signAt {d : Nat} {s : ByteArray} {a : Nat} (ha : a ≤ s.size) : g90 (d + 3) s (a : Int) = some (sgV s a) := by
  rw [e90]
  refine (range_eq (fun (t : ByteArray) (i : Int) => (t, i)) SG (fun x _ t k => oif (isS s a x) (some x) (k t)) (fun _ => some (⟨#[]⟩ : ByteArray)) ?_ ?_ (by rw [fuelN_eq]; decide) (⟨#[]⟩ : ByteArray)).trans (range_find SG 0 _)
  · intro ag t i x hx
    have hi := (List.getElem?_eq_some_iff.1 hx).1
    have h6 : SG.length = 6 := rfl
    have hx2 : ([(⟨#[123]⟩ : ByteArray), (⟨#[125]⟩ : ByteArray), (⟨#[59]⟩ : ByteArray), (⟨#[47]⟩ : ByteArray), (⟨#[61]⟩ : ByteArray), (⟨#[45, 62]⟩ : ByteArray)] : List ByteArray)[i]? = some x := hx
    simp only [l90_0, l90_0_b]
    rw [decide_eq_true (show (i : Int) < 6 by omega), oif_t, nn, oif_t, ofNat_toNat, hx2, ob_s, nn, oif_t, ofNat_toNat, slice_t ha (Nat.le_refl _), q_HasPrefix ha, ob_s, wr1 (by omega)]
  · intro ag t
    simp only [l90_0, l90_0_b]
    rw [decide_eq_false (show ¬ ((SG.length : Nat) : Int) < 6 by decide), oif_f]; rfl

theorem q_tkSign {d : Nat} {s : ByteArray} {a : Nat} (ha : a ≤ s.size) (hs : s.size < 4000000) : g86 (d + 2) s (a : Int) = some (sgV s a) := by
  rw [e86, e98, ob_s]
  refine (range_eq (fun (t : ByteArray) (i : Int) => (t, i)) SG (fun x _ t k => oif (isS s a x) (some x) (k t)) (fun _ => some (⟨#[]⟩ : ByteArray)) ?_ ?_ (by rw [fuelN_eq]; decide) (⟨#[]⟩ : ByteArray)).trans (range_find SG 0 _)
  · intro ag t i x hx
    have hi := (List.getElem?_eq_some_iff.1 hx).1
    have h6 : SG.length = 6 := rfl
    have hxs : x.size ≤ 2 := by
      have hm : x ∈ SG := List.mem_iff_getElem?.2 ⟨i, hx⟩
      simp only [SG, List.mem_cons, List.not_mem_nil, or_false] at hm
      rcases hm with rfl | rfl | rfl | rfl | rfl | rfl <;> decide
    simp only [l86_0, l86_0_b]
    change oif (decide ((i : Int) < ((SG.length : Nat) : Int))) (oif (decide (0 ≤ (i : Int))) (oif (Nat.blt ((i : Int).toNat) SG.length) (obind (SG[(i : Int).toNat]?) _) none) none) _ = _
    rw [decide_eq_true (show (i : Int) < ((SG.length : Nat) : Int) by omega), oif_t, nn, oif_t, ofNat_toNat, blt_of hi, oif_t, hx, ob_s, wr (n := (a : Int) + ((x.size : Nat) : Int)) (by omega) (by omega), show (a : Int) + ((x.size : Nat) : Int) = ((a + x.size : Nat) : Int) by omega, wr1 (by omega)]
    by_cases h : a + x.size ≤ s.size
    · rw [decide_eq_true (by omega), oif_t, nn, oif_t, nn, oif_t, ofNat_toNat, ofNat_toNat, slice_t (by omega) h, bl_eq]
      unfold isS
      rw [bl_ext, show a + x.size - a = x.size by omega]
    · rw [decide_eq_false (by omega), oif_f]
      cases h2 : isS s a x with
      | false => rfl
      | true => have := isS_len h2; omega
  · intro ag t
    simp only [l86_0, l86_0_b]
    change oif (decide (((SG.length : Nat) : Int) < ((SG.length : Nat) : Int))) _ _ = _
    rw [ltn, oif_f]; rfl

theorem sg_mem {s : ByteArray} {a : Nat} (h : bl (sgV s a) ≠ []) : sgV s a ∈ SG ∧ isS s a (sgV s a) = true := by
  unfold sgV at h ⊢
  cases hf : SG.find? (isS s a) with
  | none => rw [hf] at h; exact absurd rfl h
  | some x => exact ⟨List.mem_of_find?_eq_some hf, List.find?_some hf⟩

/-- Letters and digits. -/
def sm (c : UInt8) : Bool := decide (97 ≤ c.toNat ∧ c.toNat ≤ 122)

def di (c : UInt8) : Bool := decide (48 ≤ c.toNat ∧ c.toNat ≤ 57)

def al (c : UInt8) : Bool := sm c || di c

theorem q_isSmall {d : Nat} {c : UInt8} : g82 (d + 1) (c.toNat : Int) = some (sm c) := by
  rw [e82]; unfold sm; simp only [oif_ss]; congr 1; rw [Bool.eq_iff_iff]; simp; omega

theorem q_tkLetter {d : Nat} {c : UInt8} : g100 (d + 1) (c.toNat : Int) = some (sm c) := by
  rw [e100]; unfold sm; simp only [oif_ss]; congr 1; rw [Bool.eq_iff_iff]; simp; omega

theorem q_isAlnum {d : Nat} {c : UInt8} : g91 (d + 2) (c.toNat : Int) = some (al c) := by
  rw [e91, q_isSmall, ob_s, q_isDigit, ob_s]
  unfold al di
  cases sm c <;> rfl

theorem q_tkMark {d : Nat} {c : UInt8} : g99 (d + 2) (c.toNat : Int) = some (al c) := by
  rw [e99, q_tkLetter, ob_s]
  unfold al di
  cases sm c with
  | true => rfl
  | false =>
    rw [oif_f]; simp only [oif_ss]; congr 1; rw [Bool.eq_iff_iff]; simp; omega

def ruE (s : ByteArray) (a : Nat) : Nat := fstN (fun k => !al (bt s k)) a (s.size - a)

theorem ruE_in {s : ByteArray} {a : Nat} (h : a ≤ s.size) : a ≤ ruE s a ∧ ruE s a ≤ s.size := by
  have := fstN_in (c := fun k => !al (bt s k)) (s.size - a) a
  unfold ruE; omega

theorem ruE_t {s : ByteArray} {a : Nat} (h : a < s.size) (h2 : al (bt s a) = false) : ruE s a = a := by
  unfold ruE
  rw [show s.size - a = (s.size - a - 1) + 1 by omega, fstN, h2]; rfl

theorem ruE_f {s : ByteArray} {a : Nat} (h : a < s.size) (h2 : al (bt s a) = true) : ruE s a = ruE s (a + 1) := by
  unfold ruE
  rw [show s.size - a = (s.size - (a + 1)) + 1 by omega, fstN, h2]; rfl

theorem ruE_n {s : ByteArray} : ruE s s.size = s.size := by unfold ruE; rw [Nat.sub_self]; rfl

theorem ru_impl {d : Nat} {s : ByteArray} {K : Int → Option (Tk × Int × (Int × Int))} (hs : s.size < 4000000) :
    ∀ (k fuel a : Nat), a + k = s.size → k < fuel → iterP (l76_0 (d + 2) s K) fuel (a : Int) = K (ruE s a : Nat)
  | _, 0, _, _, h => by omega
  | 0, fuel + 1, a, h, hf => by
    obtain rfl : a = s.size := by omega
    simp only [iterP, l76_0, l76_0_b]
    rw [ltn, oif_f, ruE_n]
  | k + 1, fuel + 1, a, h, hf => by
    have ha : a < s.size := by omega
    simp only [iterP, l76_0, l76_0_b]
    rw [decide_eq_true (show (a : Int) < ((s.size : Nat) : Int) by omega), oif_t, nn, oif_t, ofNat_toNat, bt_get ha, ob_s, q_isAlnum, ob_s]
    cases hp : al (bt s a) with
    | true =>
      rw [oif_t, wr1 (by omega), ruE_f ha hp]
      exact ru_impl hs k fuel (a + 1) (by omega) (by omega)
    | false => rw [oif_f, ruE_t ha hp]

theorem ru_spec {d : Nat} {s : ByteArray} {K : Int → Option ByteArray} (hs : s.size < 4000000) :
    ∀ (k fuel a : Nat), a + k = s.size → k < fuel → iterP (l87_0 (d + 2) s K) fuel (a : Int) = K (ruE s a : Nat)
  | _, 0, _, _, h => by omega
  | 0, fuel + 1, a, h, hf => by
    obtain rfl : a = s.size := by omega
    simp only [iterP, l87_0, l87_0_b]
    rw [ltn, oif_f, ruE_n]
  | k + 1, fuel + 1, a, h, hf => by
    have ha : a < s.size := by omega
    simp only [iterP, l87_0, l87_0_b]
    rw [decide_eq_true (show (a : Int) < ((s.size : Nat) : Int) by omega), oif_t, nn, oif_t, ofNat_toNat, bt_get ha, ob_s, q_tkMark, ob_s]
    cases hp : al (bt s a) with
    | true =>
      rw [oif_t, wr1 (by omega), ruE_f ha hp]
      exact ru_spec hs k fuel (a + 1) (by omega) (by omega)
    | false => rw [oif_f, ruE_t ha hp]

theorem q_tkRun {d : Nat} {s : ByteArray} {a : Nat} (hs : s.size < 4000000) (ha : a ≤ s.size) : g87 (d + 3) s (a : Int) = some (s.extract a (ruE s a)) := by
  have hr := ruE_in ha
  rw [e87, ru_spec hs (s.size - a) fuelN a (by omega) (by rw [fuelN_eq]; omega)]
  unfold j87_0
  rw [nn, nn, ofNat_toNat, ofNat_toNat, oif_t, oif_t, slice_t hr.1 hr.2]

/-- Words. -/
def kyB (s : ByteArray) : Bool := KW.any fun w => decide (bl w = bl s)

theorem q_IsKey {d : Nat} {s : ByteArray} : g83 (d + 1) s = some (kyB s) := by
  rw [e83]
  refine (range_eq (fun (t : Bool) (i : Int) => (t, i)) KW (fun w _ t k => oif (decide (bl w = bl s)) (some true) (k t)) (fun _ => some false) ?_ ?_ (by rw [fuelN_eq]; decide) false).trans (range_any KW 0 _)
  · intro ag t i x hx
    have hi := (List.getElem?_eq_some_iff.1 hx).1
    have h14 : KW.length = 14 := rfl
    simp only [l83_0, l83_0_b]
    change oif (decide ((i : Int) < 14)) (oif (decide (0 ≤ (i : Int))) (obind (KW[(i : Int).toNat]?) _) none) _ = _
    rw [decide_eq_true (show (i : Int) < 14 by omega), oif_t, nn, oif_t, ofNat_toNat, hx, ob_s, bl_eq, wr1 (by omega)]
  · intro ag t
    simp only [l83_0, l83_0_b]
    rw [decide_eq_false (show ¬ ((KW.length : Nat) : Int) < 14 by decide), oif_f]; rfl

theorem q_sIsKey {d : Nat} {s : ByteArray} : g94 (d + 2) s = some (kyB s) := by
  rw [e94, e108, ob_s, e107]
  have : ∀ X : Option Bool, X = some (kyB s) → obind X (fun r3 => some r3) = some (kyB s) := fun X h => by rw [h]; rfl
  refine this _ ?_
  refine (range_eq (fun (t : Bool) (i : Int) => (t, i)) KW (fun w _ t k => oif (decide (bl w = bl s)) (some true) (k t)) (fun _ => some false) ?_ ?_ (by rw [fuelN_eq]; decide) false).trans (range_any KW 0 _)
  · intro ag t i x hx
    have hi := (List.getElem?_eq_some_iff.1 hx).1
    have h14 : KW.length = 14 := rfl
    simp only [l107_0, l107_0_b]
    change oif (decide ((i : Int) < ((KW.length : Nat) : Int))) (oif (decide (0 ≤ (i : Int))) (obind (KW[(i : Int).toNat]?) _) none) _ = _
    rw [decide_eq_true (show (i : Int) < ((KW.length : Nat) : Int) by omega), oif_t, nn, oif_t, ofNat_toNat, hx, ob_s, bl_eq, wr1 (by omega)]
  · intro ag t
    simp only [l107_0, l107_0_b]
    change oif (decide (((KW.length : Nat) : Int) < ((KW.length : Nat) : Int))) _ _ = _
    rw [ltn, oif_f]; rfl

def wkV (s : ByteArray) : Int := if 1 ≤ s.size ∧ s.size ≤ 12 ∧ (bl s).all sm = true then (if kyB s = true then 1 else 2) else 0

theorem q_wordKind {d : Nat} {s : ByteArray} : g92 (d + 2) s = some (wkV s) := by
  rw [e92, bl_eq]
  unfold wkV j92_1
  by_cases h0 : bl s = bl ⟨#[]⟩
  · have : s.size = 0 := by rw [bl_len, h0]; rfl
    rw [decide_eq_true h0, oif_t, oif_t, if_neg (by omega)]
  have h1 : 1 ≤ s.size := by
    rw [bl_len]
    rcases Nat.eq_zero_or_pos (bl s).length with h | h
    · exact absurd (List.length_eq_zero_iff.1 h) h0
    · exact h
  rw [decide_eq_false h0, oif_f]
  by_cases h2 : ((s.size : Nat) : Int) > 12
  · rw [decide_eq_true h2, oif_t, if_neg (by omega)]
  rw [decide_eq_false h2, oif_f]
  have hs : (bl s).length < 4194304 := by rw [← bl_len]; omega
  have e : iterP (l92_0 (d + 1) s (j92_0 (d + 1) s)) fuelN (0, 0) = oif ((bl s).all sm) (j92_0 (d + 1) s 0) (some 0) := by
    refine (range_eq (fun (t : Int) (i : Int) => (t, i)) (bl s) (fun x _ t k => oif (sm x) (k t) (some 0)) (j92_0 (d + 1) s) ?_ ?_ (by rw [fuelN_eq]; exact hs) 0).trans (rangeR_all _ _ _)
    · intro ag t i x hx
      have hi := (List.getElem?_eq_some_iff.1 hx).1
      have hx2 : s.data.toList[i]? = some x := hx
      have hsz : s.size = (bl s).length := rfl
      simp only [l92_0, l92_0_b]
      rw [decide_eq_true (show (i : Int) < ((s.size : Nat) : Int) by omega), oif_t, nn, oif_t, ofNat_toNat, hx2, ob_s, q_isSmall, ob_s, wr1 (by omega)]
      cases sm x <;> rfl
    · intro ag t
      simp only [l92_0, l92_0_b]
      rw [show ((s.size : Nat) : Int) = (((bl s).length : Nat) : Int) from rfl, ltn, oif_f]
  rw [e]
  cases ha : (bl s).all sm with
  | false => rw [oif_f, if_neg (by simp)]
  | true =>
    rw [oif_t, if_pos ⟨h1, by omega, rfl⟩]
    unfold j92_0
    rw [q_IsKey, ob_s]
    cases kyB s <;> rfl

theorem q_tkWord {d : Nat} {s : ByteArray} (hs : s.size < 4000000) : g101 (d + 2) s = some (decide (1 ≤ s.size ∧ s.size ≤ 12 ∧ (bl s).all sm = true)) := by
  rw [e101]
  have hsz : s.size = (bl s).length := rfl
  refine (range_eq (fun (t : Bool) (i : Int) => (t, i)) (bl s) (fun x _ t k => oif (sm x) (k t) (some false)) (j101_0 (d + 1) s) ?_ ?_ (by rw [fuelN_eq]; omega) false).trans ?_
  · intro ag t i x hx
    have hi := (List.getElem?_eq_some_iff.1 hx).1
    have hx2 : s.data.toList[i]? = some x := hx
    simp only [l101_0, l101_0_b]
    rw [decide_eq_true (show (i : Int) < ((s.size : Nat) : Int) by omega), oif_t, nn, oif_t, ofNat_toNat, hx2, ob_s, q_tkLetter, ob_s, wr1 (by omega)]
    cases sm x <;> rfl
  · intro ag t
    simp only [l101_0, l101_0_b]
    rw [show ((s.size : Nat) : Int) = (((bl s).length : Nat) : Int) from rfl, ltn, oif_f]
  · rw [rangeR_all]
    cases ha : (bl s).all sm with
    | false => rw [oif_f, decide_eq_false (by simp)]
    | true =>
      rw [oif_t]
      unfold j101_0
      rw [q_l1In, ob_s]
      congr 1
      exact decide_eq_decide.2 (by constructor <;> intro h <;> (try simp only [true_and, and_true] at *) <;> omega)

/-- The token at a place, or the fault there. -/
def tz : Tk := (0, 0, ⟨#[]⟩, 0)

def tkT (s : ByteArray) (a : Nat) : ByteArray := s.extract a (ruE s (a + 1))

def tkF (s : ByteArray) (a : Nat) : Tk × Int × (Int × Int) :=
  if bl (sgV s a) ≠ [] then ((4, (a : Int), sgV s a, 0), ((a + (sgV s a).size : Nat) : Int), (0, 0)) else
  if al (bt s a) = false then (tz, (a : Int), (1, (a : Int))) else
  if sm (bt s a) = true then (if wkV (tkT s a) = 0 then (tz, (a : Int), (7, (a : Int))) else ((wkV (tkT s a), (a : Int), tkT s a, 0), ((ruE s (a + 1) : Nat) : Int), (0, 0)))
  else (if nyV (bl (tkT s a)) < 0 then (tz, (a : Int), (3, (a : Int))) else ((3, (a : Int), tkT s a, nyV (bl (tkT s a))), ((ruE s (a + 1) : Nat) : Int), (0, 0)))

theorem tkT_size {s : ByteArray} {a : Nat} (ha : a < s.size) : (tkT s a).size = ruE s (a + 1) - a ∧ a + 1 ≤ ruE s (a + 1) ∧ ruE s (a + 1) ≤ s.size := by
  have hr := ruE_in (s := s) (a := a + 1) (by omega)
  unfold tkT
  rw [ByteArray.size_extract]; omega

theorem toR_f {n : Int} (h : n < 0) : toR n = (0, false) := by unfold toR; rw [if_pos h]

theorem toR_t {n : Int} (h : ¬ n < 0) : toR n = (n, true) := by unfold toR; rw [if_neg h]

theorem q_readToken {d : Nat} {s : ByteArray} {a : Nat} (hs : s.size < 4000000) (ha : a < s.size) : g76 (d + 5) s (a : Int) = some (tkF s a) := by
  obtain ⟨h1, h2, h3⟩ := tkT_size ha
  rw [e76, q_signAt (by omega), ob_s, bl_eq]
  unfold tkF
  by_cases hg : bl (sgV s a) = bl ⟨#[]⟩
  · have hg' : bl (sgV s a) = [] := hg
    rw [decide_eq_true hg, Bool.not_true, oif_f, if_neg (by simpa using hg'), nn, oif_t, ofNat_toNat, bt_get ha, ob_s, q_isAlnum, ob_s]
    cases hal : al (bt s a) with
    | false => rw [Bool.not_false, oif_t, if_pos rfl]; rfl
    | true =>
      rw [Bool.not_true, oif_f, if_neg (by simp), wr1 (by omega), show d + 4 = (d + 2) + 2 from rfl, ru_impl hs (s.size - (a + 1)) fuelN (a + 1) (by omega) (by rw [fuelN_eq]; omega)]
      unfold j76_0
      rw [nn, nn, ofNat_toNat, ofNat_toNat, oif_t, oif_t, slice_t (by omega) h3, oif_t, bt_get ha, ob_s, q_isSmall, ob_s]
      change oif (sm (bt s a)) (obind (g92 (d + 2 + 2) (tkT s a)) fun r10 => oif ((r10 : Int) == 0) (some (tz, (a : Int), (7, (a : Int)))) (some ((r10, (a : Int), tkT s a, 0), ((ruE s (a + 1) : Nat) : Int), (0, 0)))) (obind (g93 (d + 2 + 2) (tkT s a)) fun r11 => oif (!r11.2) (some (tz, (a : Int), (3, (a : Int)))) (some ((3, (a : Int), tkT s a, r11.1), ((ruE s (a + 1) : Nat) : Int), (0, 0)))) = _
      cases hsm : sm (bt s a) with
      | true =>
        rw [oif_t, q_wordKind, ob_s, if_pos rfl]
        by_cases hw : wkV (tkT s a) = 0
        · rw [show (wkV (tkT s a) == 0) = true by rw [beq_iff_eq]; exact hw, oif_t, if_pos hw]
        · rw [show (wkV (tkT s a) == 0) = false by rw [beq_eq_false_iff_ne]; exact hw, oif_f, if_neg hw]
      | false =>
        rw [oif_f, if_neg (by simp), show d + 2 + 2 = d + 4 from rfl, q_ReadAny (by omega), ob_s]
        by_cases hn : nyV (bl (tkT s a)) < 0
        · rw [toR_f hn, if_pos hn]; rfl
        · rw [toR_t hn, if_neg hn]; rfl
  · have hg' : bl (sgV s a) ≠ [] := hg
    have hl := isS_len (sg_mem hg').2
    rw [decide_eq_false hg, Bool.not_false, oif_t, if_pos hg', wr (by omega) (by omega), show (a : Int) + (((sgV s a).size : Nat) : Int) = ((a + (sgV s a).size : Nat) : Int) by omega]

theorem fst_take {s : ByteArray} {a : Nat} (ha : a < s.size) : ∃ r, bl (tkT s a) = bt s a :: r := by
  obtain ⟨h1, h2, h3⟩ := tkT_size ha
  have hl : a < (bl s).length := ha
  unfold tkT
  rw [bl_ext, List.drop_eq_getElem_cons hl, show ruE s (a + 1) - a = (ruE s (a + 1) - a - 1) + 1 by omega, List.take_succ_cons]
  have e : bt s a = (bl s)[a] := by
    unfold bt
    rw [List.getD_eq_getElem?_getD, List.getElem?_eq_getElem hl]; rfl
  rw [e]
  exact ⟨_, rfl⟩

theorem zero_get {s : ByteArray} {c : UInt8} {r : List UInt8} (h : bl s = c :: r) : s.data.toList[0]? = some c := by
  show (bl s)[0]? = some c
  rw [h]; rfl

theorem sg_not {x : ByteArray} (h : x ∈ SG) : ∃ c r, bl x = c :: r ∧ al c = false := by
  simp only [SG, List.mem_cons, List.not_mem_nil, or_false] at h
  rcases h with rfl | rfl | rfl | rfl | rfl | rfl <;> exact ⟨_, _, rfl, by decide⟩

theorem al_f {c : UInt8} (h : al c = false) : sm c = false ∧ di c = false := by
  unfold al at h
  simpa using h

theorem q_tkAt {d : Nat} {s : ByteArray} {a : Nat} (hs : s.size < 4000000) (ha : a ≤ s.size) : g74 (d + 6) s (a : Int) = some (if skA s a = s.size then (tz, ((skA s a : Nat) : Int), (0, 0)) else tkF s (skA s a)) := by
  obtain ⟨k1, k2⟩ := skA_in ha
  rw [e74, q_tkSkip hs ha, ob_s]
  generalize skA s a = b at k1 k2
  by_cases hb : b = s.size
  · rw [show (((b : Nat) : Int) == ((s.size : Nat) : Int)) = true by rw [beq_iff_eq]; omega, oif_t, if_pos hb]; rfl
  have hlt : b < s.size := by omega
  obtain ⟨h1, h2, h3⟩ := tkT_size hlt
  rw [show (((b : Nat) : Int) == ((s.size : Nat) : Int)) = false by rw [beq_eq_false_iff_ne]; omega, oif_f, if_neg hb, q_tkSign k2 hs, ob_s, bl_eq]
  unfold tkF
  by_cases hg : bl (sgV s b) = bl ⟨#[]⟩
  · have hg' : bl (sgV s b) = [] := hg
    rw [decide_eq_true hg, oif_t, if_neg (by simpa using hg'), q_tkRun hs k2, ob_s]
    unfold j74_0
    rw [bl_eq]
    cases hal : al (bt s b) with
    | false =>
      have e0 : bl (s.extract b (ruE s b)) = bl ⟨#[]⟩ := by rw [ruE_t hlt hal, bl_ext, Nat.sub_self]; rfl
      rw [decide_eq_true e0, oif_t, if_pos rfl]; rfl
    | true =>
      obtain ⟨r, hr⟩ := fst_take hlt
      rw [ruE_f hlt hal]
      change oif (decide (bl (tkT s b) = bl ⟨#[]⟩)) _ (obind (g88 (d + 5) (tkT s b) (b : Int)) fun r6 => oif ((r6.2 : Int) != 0) (some (tz, (b : Int), (r6.2, (b : Int)))) (some (r6.1, (IntKind.i64.wrap ((b : Int) + (((tkT s b).size : Nat) : Int))), (0, 0)))) = _
      rw [decide_eq_false (show ¬ bl (tkT s b) = bl ⟨#[]⟩ by rw [hr]; simp [bl]), oif_f, if_neg (by simp), e88, zero_get hr, ob_s, q_tkLetter, ob_s]
      have hend : (b : Int) + (((tkT s b).size : Nat) : Int) = ((ruE s (b + 1) : Nat) : Int) := by omega
      cases hsm : sm (bt s b) with
      | true =>
        rw [oif_t, q_tkWord (by omega), ob_s, if_pos rfl]
        unfold wkV
        by_cases hw : 1 ≤ (tkT s b).size ∧ (tkT s b).size ≤ 12 ∧ (bl (tkT s b)).all sm = true
        · rw [decide_eq_true hw, if_pos hw, Bool.not_true, oif_f, q_sIsKey, ob_s]
          cases kyB (tkT s b) with
          | true =>
            rw [oif_t, ob_s]
            simp only [if_true]
            rw [if_neg (by decide), show ((0 : Int) != 0) = false from rfl, oif_f, wr (by omega) (by omega), hend]
          | false =>
            rw [oif_f, ob_s]
            simp only [Bool.false_eq_true, if_false]
            rw [if_neg (by decide), show ((0 : Int) != 0) = false from rfl, oif_f, wr (by omega) (by omega), hend]
        · rw [decide_eq_false hw, if_neg hw, Bool.not_false, oif_t, ob_s, if_pos rfl]; rfl
      | false =>
        rw [oif_f, ob_s, if_neg (by simp), q_tkMark, ob_s, hal, oif_t, show d + 4 = d + 4 from rfl, q_nReadAny (by omega), ob_s]
        by_cases hn : nyV (bl (tkT s b)) < 0
        · rw [toR_f hn, if_pos hn]; rfl
        · rw [toR_t hn, if_neg hn, Bool.not_true, oif_f, ob_s, show ((0 : Int) != 0) = false from rfl, oif_f, wr (by omega) (by omega), hend]
  · have hg' : bl (sgV s b) ≠ [] := hg
    have hm := sg_mem hg'
    have hl := isS_len hm.2
    obtain ⟨c, r, hc, hac⟩ := sg_not hm.1
    obtain ⟨a1, a2⟩ := al_f hac
    rw [decide_eq_false hg, oif_f, if_pos hg']
    unfold j74_0
    rw [bl_eq, decide_eq_false hg, oif_f, e88, zero_get hc, ob_s, q_tkLetter, ob_s, a1, oif_f, ob_s, q_tkMark, ob_s, hac, oif_f, ob_s, show ((0 : Int) != 0) = false from rfl, oif_f, wr (by omega) (by omega), show (b : Int) + (((sgV s b).size : Nat) : Int) = ((b + (sgV s b).size : Nat) : Int) by omega]

/-- What a token is that was read without a fault. -/
def tkOkk (t : Tk) : Prop := (t.1 = 1 ∧ kyB t.2.2.1 = true) ∨ t.1 = 2 ∨ (t.1 = 3 ∧ ∃ c r, bl t.2.2.1 = c :: r ∧ di c = true) ∨ (t.1 = 4 ∧ t.2.2.1 ∈ SG)

theorem tkF_ok {s : ByteArray} {a : Nat} (ha : a < s.size) (h : (tkF s a).2.2.1 = 0) : tkOkk (tkF s a).1 ∧ (tkF s a).2.2 = (0, 0) ∧ (tkF s a).1.2.1 = (a : Int) ∧ (tkF s a).1.1 ≠ 0 ∧ ∃ e : Nat, (tkF s a).2.1 = (e : Int) ∧ a < e ∧ e ≤ s.size := by
  obtain ⟨h1, h2, h3⟩ := tkT_size ha
  unfold tkF at h ⊢
  by_cases hg : bl (sgV s a) ≠ []
  · have hm := sg_mem hg
    have hl := isS_len hm.2
    have hp : 0 < (sgV s a).size := by rw [bl_len]; exact List.length_pos_iff.2 hg
    rw [if_pos hg]
    exact ⟨Or.inr (Or.inr (Or.inr ⟨rfl, hm.1⟩)), rfl, rfl, by simp, a + (sgV s a).size, rfl, by omega, by omega⟩
  rw [if_neg hg] at h ⊢
  by_cases hal : al (bt s a) = false
  · rw [if_pos hal] at h; exact absurd h (by simp)
  rw [if_neg hal] at h ⊢
  by_cases hsm : sm (bt s a) = true
  · rw [if_pos hsm] at h ⊢
    by_cases hw : wkV (tkT s a) = 0
    · rw [if_pos hw] at h; exact absurd h (by simp)
    rw [if_neg hw]
    refine ⟨?_, rfl, rfl, hw, ruE s (a + 1), rfl, by omega, h3⟩
    unfold wkV at hw
    unfold tkOkk wkV
    simp only
    split at hw
    · rename_i hc
      rw [if_pos hc]
      cases hk : kyB (tkT s a) with
      | true => exact Or.inl ⟨rfl, rfl⟩
      | false => exact Or.inr (Or.inl rfl)
    · exact absurd rfl hw
  · rw [if_neg hsm] at h ⊢
    by_cases hn : nyV (bl (tkT s a)) < 0
    · rw [if_pos hn] at h; exact absurd h (by simp)
    rw [if_neg hn]
    refine ⟨?_, rfl, rfl, by simp, ruE s (a + 1), rfl, by omega, h3⟩
    obtain ⟨r, hr⟩ := fst_take ha
    refine Or.inr (Or.inr (Or.inl ⟨rfl, bt s a, r, hr, ?_⟩))
    unfold al at hal
    simp only [Bool.not_eq_true] at hsm
    rw [hsm] at hal
    simpa using hal

theorem tkF_bad {s : ByteArray} {a : Nat} (h : (tkF s a).2.2.1 ≠ 0) : (tkF s a).2.2.1 > 0 := by
  unfold tkF at h ⊢
  (repeat' split at h) <;> (repeat' split) <;> simp_all

/-- All tokens from a place on. -/
def tkL (s : ByteArray) : Nat → Nat → List Tk → List Tk × (Int × Int)
  | 0, _, acc => (acc, (0, 0))
  | f + 1, a, acc =>
    if a < s.size then
      if (tkF s a).2.2.1 ≠ 0 then ([], (tkF s a).2.2) else if acc.length = 600 then ([], (5, (a : Int))) else tkL s f (skA s (tkF s a).2.1.toNat) (acc ++ [(tkF s a).1])
    else (acc, (0, 0))

def tkA (s : ByteArray) : List Tk × (Int × Int) := tkL s (s.size + 1) (skA s 0) []

theorem tkL_ok {s : ByteArray} : ∀ (f a : Nat) (acc : List Tk), (∀ t ∈ acc, tkOkk t) → acc.length ≤ 600 → ((tkL s f a acc).2.1 = 0 → ∀ t ∈ (tkL s f a acc).1, tkOkk t) ∧ ((tkL s f a acc).2.1 = 0 → (tkL s f a acc).2 = (0, 0)) ∧ (tkL s f a acc).1.length ≤ 600
  | 0, a, acc, h, hl => ⟨fun _ => h, fun _ => rfl, hl⟩
  | f + 1, a, acc, h, hl => by
    simp only [tkL]
    by_cases ha : a < s.size
    · rw [if_pos ha]
      by_cases hf : (tkF s a).2.2.1 ≠ 0
      · rw [if_pos hf]; exact ⟨fun h0 => absurd h0 hf, fun h0 => absurd h0 hf, by simp⟩
      · rw [if_neg hf]
        by_cases h6 : acc.length = 600
        · rw [if_pos h6]; exact ⟨fun h0 => absurd h0 (by simp), fun h0 => absurd h0 (by simp), by simp⟩
        · rw [if_neg h6]
          refine tkL_ok f _ _ (fun t ht => ?_) (by simp; omega)
          rcases List.mem_append.1 ht with ht | ht
          · exact h t ht
          · simp at ht; subst ht; exact (tkF_ok ha (by omega)).1
    · rw [if_neg ha]; exact ⟨fun _ => h, fun _ => rfl, hl⟩

theorem tl_impl {d : Nat} {s : ByteArray} (hs : s.size < 4000000) : ∀ (f fuel a : Nat) {b : Bool} {z : List Tk} {acc : List Tk}, s.size - a < f → f ≤ fuel → acc.length ≤ 600 → a ≤ s.size →
    iterP (l57_0 (d + 5) s (j57_0 (d + 5))) fuel (z, b, acc, (a : Int)) = some ((tkL s f a acc).1, (tkL s f a acc).2, true)
  | 0, _, _, _, _, _, h, _, _, _ => by omega
  | f + 1, 0, _, _, _, _, _, h, _, _ => by omega
  | f + 1, fuel + 1, a, b, z, acc, hf, hfu, hl, ha => by
    simp only [iterP, l57_0, l57_0_b, tkL]
    by_cases hlt : a < s.size
    case neg => rw [decide_eq_false (show ¬ (a : Int) < ((s.size : Nat) : Int) by omega), oif_f, if_neg hlt]; rfl
    rw [decide_eq_true (show (a : Int) < ((s.size : Nat) : Int) by omega), oif_t, if_pos hlt, q_readToken hs hlt, ob_s]
    by_cases hk : (tkF s a).2.2.1 ≠ 0
    · rw [show ((tkF s a).2.2.1 != 0) = true by rw [bne_iff_ne]; exact hk, oif_t, if_pos hk]
    rw [show ((tkF s a).2.2.1 != 0) = false by rw [bne_eq_false_iff_eq]; omega, oif_f, if_neg hk]
    by_cases h6 : acc.length = 600
    · rw [show (((acc.length : Nat) : Int) == 600) = true by rw [beq_iff_eq]; omega, oif_t, if_pos h6]
    obtain ⟨_, _, _, _, e, he, h7, h8⟩ := tkF_ok hlt (by omega)
    have hsk := skA_in h8
    rw [show (((acc.length : Nat) : Int) == 600) = false by rw [beq_eq_false_iff_ne]; omega, oif_f, if_neg h6, room (by simp; omega), oif_t, he, ofNat_toNat, q_skipSpace hs h8, ob_s]
    exact tl_impl hs f fuel _ (by omega) (by omega) (by simp; omega) hsk.2

theorem tl_spec {d : Nat} {s : ByteArray} (hs : s.size < 4000000) : ∀ (f fuel a0 a : Nat) {z : List Tk} {acc : List Tk}, a0 ≤ s.size → skA s a0 = a → s.size - a < f → f ≤ fuel → acc.length ≤ 600 → a ≤ s.size →
    iterP (l50_0 (d + 6) s) fuel (z, acc, (a0 : Int)) = some (tkL s f a acc)
  | 0, _, _, _, _, _, _, _, h, _, _, _ => by omega
  | f + 1, 0, _, _, _, _, _, _, _, h, _, _ => by omega
  | f + 1, fuel + 1, a0, a, z, acc, h0, h1, hf, hfu, hl, ha => by
    simp only [iterP, l50_0, l50_0_b, tkL]
    rw [q_tkAt hs h0, ob_s, h1]
    by_cases hlt : a < s.size
    case neg =>
      rw [if_pos (show a = s.size by omega), if_neg hlt]; rfl
    rw [if_neg (show ¬ a = s.size by omega), if_pos hlt]
    by_cases hk : (tkF s a).2.2.1 ≠ 0
    · rw [show ((tkF s a).2.2.1 != 0) = true by rw [bne_iff_ne]; exact hk, oif_t, if_pos hk]
    obtain ⟨_, _, h10, h9, e, he, h7, h8⟩ := tkF_ok hlt (by omega)
    rw [show ((tkF s a).2.2.1 != 0) = false by rw [bne_eq_false_iff_eq]; omega, oif_f, if_neg hk, show ((tkF s a).1.1 == 0) = false by rw [beq_eq_false_iff_ne]; exact h9, oif_f]
    by_cases h6 : acc.length = 600
    · rw [show (((acc.length : Nat) : Int) == 600) = true by rw [beq_iff_eq]; omega, oif_t, if_pos h6, h10]
    have hsk := skA_in h8
    rw [show (((acc.length : Nat) : Int) == 600) = false by rw [beq_eq_false_iff_ne]; omega, oif_f, if_neg h6, room (by simp; omega), oif_t, he, ofNat_toNat]
    exact tl_spec hs f fuel e _ h8 rfl (by omega) (by omega) (by simp; omega) hsk.2

theorem q_TokensOf {d : Nat} {s : ByteArray} (hs : s.size ≤ 4000) : g57 (d + 6) s = some ((tkA s).1, (tkA s).2, true) := by
  rw [e57, decide_eq_false (by omega), oif_f, show (0 : Int) = ((0 : Nat) : Int) from rfl, q_skipSpace (by omega) (Nat.zero_le _), ob_s]
  exact tl_impl (by omega) _ fuelN _ (by omega) (by rw [fuelN_eq]; omega) (by simp) (skA_in (Nat.zero_le _)).2

theorem q_tkAll {d : Nat} {s : ByteArray} (hs : s.size ≤ 4000) : g50 (d + 7) s = some (tkA s) := by
  rw [e50]
  exact tl_spec (by omega) _ fuelN 0 _ (Nat.zero_le _) rfl (by omega) (by rw [fuelN_eq]; omega) (by simp) (skA_in (Nat.zero_le _)).2

theorem tkA_ok {s : ByteArray} (h : (tkA s).2.1 = 0) : (∀ t ∈ (tkA s).1, tkOkk t) ∧ (tkA s).2 = (0, 0) ∧ (tkA s).1.length ≤ 600 := by
  obtain ⟨h1, h2, h3⟩ := tkL_ok (s := s) (s.size + 1) (skA s 0) [] (by simp) (by simp)
  exact ⟨h1 h, h2 h, h3⟩

def nameB : ByteArray := ⟨#[110, 97, 109, 101]⟩

def numB : ByteArray := ⟨#[110, 117, 109, 98, 101, 114]⟩

def lab (t : Tk) : ByteArray := if (t.1 == 2) = true then nameB else if (t.1 == 3) = true then numB else t.2.2.1

def mt (t : Tk) (w : ByteArray) : Bool := decide (bl t.2.2.1 = bl w) && (t.1 != 2)

def wOk (w : ByteArray) : Prop := bl w ≠ bl nameB ∧ bl w ≠ bl numB ∧ ∃ c r, bl w = c :: r ∧ di c = false

theorem lab_eq {t : Tk} {w : ByteArray} (ht : tkOkk t) (hw : wOk w) : decide (bl (lab t) = bl w) = mt t w := by
  obtain ⟨w1, w2, c, r, w3, w4⟩ := hw
  unfold lab mt
  rcases ht with ⟨h, _⟩ | h | ⟨h, c', r', h2, h3⟩ | ⟨h, _⟩
  · rw [h]; simp
  · rw [h]; simp only [beq_self_eq_true, if_true, bne_self_eq_false, Bool.and_false]
    exact decide_eq_false fun e => w1 e.symm
  · rw [h, h2]
    simp only [show ((3 : Int) == 2) = false from rfl, beq_self_eq_true, if_true, Bool.false_eq_true, if_false]
    rw [decide_eq_false (fun e => w2 e.symm), decide_eq_false (fun e => ?_)]; rfl
    rw [w3] at e; injection e with e _
    rw [e, w4] at h3; simp at h3
  · rw [h]; simp

theorem lab_num {t : Tk} (ht : tkOkk t) : decide (bl (lab t) = bl numB) = (t.1 == 3) := by
  unfold lab
  rcases ht with ⟨h, h2⟩ | h | ⟨h, _⟩ | ⟨h, h2⟩
  · rw [h]
    simp only [show ((1 : Int) == 2) = false from rfl, show ((1 : Int) == 3) = false from rfl, Bool.false_eq_true, if_false]
    refine decide_eq_false fun e => ?_
    unfold kyB at h2
    rw [e] at h2
    exact absurd h2 (by decide)
  · rw [h]; simp only [beq_self_eq_true, if_true]; decide
  · rw [h]; simp only [show ((3 : Int) == 2) = false from rfl, beq_self_eq_true, if_true, Bool.false_eq_true, if_false]; decide
  · rw [h]
    simp only [show ((4 : Int) == 2) = false from rfl, show ((4 : Int) == 3) = false from rfl, Bool.false_eq_true, if_false]
    refine decide_eq_false fun e => ?_
    simp only [SG, List.mem_cons, List.not_mem_nil, or_false] at h2
    rcases h2 with h2 | h2 | h2 | h2 | h2 | h2 <;> rw [h2] at e <;> exact absurd e (by decide)

def tkM (ts : List Tk) (en : Int) (w : ByteArray) (m : Nat × Int × Int) : Bool × Nat × Int × Int :=
  if m.2.1 ≠ 0 then (false, m) else match ts[m.1]? with
  | none => (false, m.1, 6, en)
  | some t => if mt t w = true then (true, m.1 + 1, m.2) else (false, m.1, 2, t.2.1)

def nuM (ts : List Tk) (en : Int) (m : Nat × Int × Int) : Int × Bool × Nat × Int × Int :=
  if m.2.1 ≠ 0 then (0, false, m) else match ts[m.1]? with
  | none => (0, false, m.1, 6, en)
  | some t => if t.1 = 3 then (t.2.2.2, true, m.1 + 1, m.2) else (0, false, m.1, 2, t.2.1)

theorem tkM_le {ts : List Tk} {en : Int} {w : ByteArray} {m : Nat × Int × Int} (h : m.1 ≤ ts.length) : (tkM ts en w m).2.1 ≤ ts.length := by
  unfold tkM
  split
  · exact h
  · split
    · exact h
    · rename_i t ht
      have := (List.getElem?_eq_some_iff.1 ht).1
      split <;> (simp only; omega)

theorem nuM_le {ts : List Tk} {en : Int} {m : Nat × Int × Int} (h : m.1 ≤ ts.length) : (nuM ts en m).2.2.1 ≤ ts.length := by
  unfold nuM
  split
  · exact h
  · split
    · exact h
    · rename_i t ht
      have := (List.getElem?_eq_some_iff.1 ht).1
      split <;> (simp only; omega)

theorem tkM_bad {ts : List Tk} {en : Int} {w : ByteArray} {m : Nat × Int × Int} (h : m.2.1 ≠ 0) : tkM ts en w m = (false, m) := by unfold tkM; rw [if_pos h]

theorem nuM_bad {ts : List Tk} {en : Int} {m : Nat × Int × Int} (h : m.2.1 ≠ 0) : nuM ts en m = (0, false, m) := by unfold nuM; rw [if_pos h]

theorem tkM_no {ts : List Tk} {en : Int} {w : ByteArray} {m : Nat × Int × Int} (h : (tkM ts en w m).1 = false) : (tkM ts en w m).2.2.1 ≠ 0 := by
  unfold tkM at h ⊢
  split
  · assumption
  · rename_i h0
    rw [if_neg h0] at h
    split
    · simp
    · rename_i t ht
      rw [ht] at h
      simp only at h
      split
      · rename_i h1; rw [if_pos h1] at h; simp at h
      · simp

theorem tkM_yes {ts : List Tk} {en : Int} {w : ByteArray} {m : Nat × Int × Int} (h : (tkM ts en w m).1 = true) : (tkM ts en w m).2.2 = m.2 := by
  unfold tkM at h ⊢
  split
  · rfl
  · rename_i h0
    rw [if_neg h0] at h
    split
    · rename_i ht; rw [ht] at h; simp at h
    · rename_i t ht
      rw [ht] at h
      simp only at h
      split
      · rfl
      · rename_i h1; rw [if_neg h1] at h; simp at h

theorem nuM_no {ts : List Tk} {en : Int} {m : Nat × Int × Int} (h : (nuM ts en m).2.1 = false) : (nuM ts en m).2.2.2.1 ≠ 0 ∧ (nuM ts en m).1 = 0 := by
  unfold nuM at h ⊢
  split
  · exact ⟨by assumption, rfl⟩
  · rename_i h0
    rw [if_neg h0] at h
    split
    · simp
    · rename_i t ht
      rw [ht] at h
      simp only at h
      split
      · rename_i h1; rw [if_pos h1] at h; simp at h
      · simp

theorem nuM_yes {ts : List Tk} {en : Int} {m : Nat × Int × Int} (h : (nuM ts en m).2.1 = true) : (nuM ts en m).2.2.2 = m.2 := by
  unfold nuM at h ⊢
  split
  · rfl
  · rename_i h0
    rw [if_neg h0] at h
    split
    · rename_i ht; rw [ht] at h; simp at h
    · rename_i t ht
      rw [ht] at h
      simp only at h
      split
      · rfl
      · rename_i h1; rw [if_neg h1] at h; simp at h

def ixV : List ByteArray → Nat → ByteArray → Int
  | [], _, _ => -1
  | x :: r, i, s => if bl s = bl x then (i : Int) else ixV r (i + 1) s

theorem ix_range {s : ByteArray} : ∀ (l : List ByteArray) (i : Nat) (t : Int), rangeR (fun x i t k => oif (decide (bl s = bl x)) (some (i : Int)) (k t)) (fun _ => some (-1)) l i t = some (ixV l i s)
  | [], i, t => rfl
  | x :: r, i, t => by
    simp only [rangeR, ixV]
    by_cases h : bl s = bl x
    · rw [decide_eq_true h, oif_t, if_pos h]
    · rw [decide_eq_false h, oif_f, if_neg h]; exact ix_range r (i + 1) t

theorem q_Index {d : Nat} {l : List ByteArray} {s : ByteArray} (hl : l.length ≤ 1000) : g63 (d + 1) l s = some (ixV l 0 s) := by
  rw [e63]
  refine (range_eq (fun (t : Int) (i : Int) => (t, i)) l (fun x i t k => oif (decide (bl s = bl x)) (some (i : Int)) (k t)) (fun _ => some (-1)) ?_ ?_ (by rw [fuelN_eq]; omega) 0).trans (ix_range l 0 0)
  · intro ag t i x hx
    have hi := (List.getElem?_eq_some_iff.1 hx).1
    simp only [l63_0, l63_0_b, ltl hx, nn, ofNat_toNat, hx, ob_s, oif_t]
    rw [bl_eq, wr1 (by omega)]
  · intro ag t
    simp only [l63_0, l63_0_b, ltn, oif_f]; rfl

theorem q_Contains {d : Nat} {l : List ByteArray} {s : ByteArray} (hl : l.length ≤ 1000) : g59 (d + 2) l s = some (decide (ixV l 0 s ≥ 0)) := by
  rw [e59, q_Index hl, ob_s]

theorem ix1_t {w s : ByteArray} (h : bl s = bl w) : ixV [w] 0 s = 0 := if_pos h

theorem ix1_f {w s : ByteArray} (h : ¬ bl s = bl w) : ixV [w] 0 s = -1 := if_neg h

/-- One token, by this package. -/
theorem q_label {d : Nat} {ts : List Tk} {a : Nat} {t : Tk} {en : Int} {f : Int × Int} {nx : List ByteArray} {R : (List (Int × Int × Int × Int × Int × Int × Int × Int)) × (List (Int × Int × Int × Int × Int)) × Int} (h : ts[a]? = some t) :
    g58 (d + 1) (ts, en, (a : Int), f, nx, R) = some (lab t, (ts, en, (a : Int), f, nx, R)) := by
  rw [e58, nn, oif_t, ofNat_toNat, h, ob_s, oif_t, ob_s]
  unfold lab nameB numB
  cases h2 : (t.1 == 2) with
  | true => rw [oif_t, if_pos rfl]
  | false =>
    rw [oif_f, if_neg (by simp)]
    cases h3 : (t.1 == 3) with
    | true => rw [oif_t, if_pos rfl]
    | false => rw [oif_f, if_neg (by simp)]

theorem q_pstop {d : Nat} {ts : List Tk} {a : Nat} {t : Tk} {en k : Int} {f : Int × Int} {nx : List ByteArray} {R : (List (Int × Int × Int × Int × Int × Int × Int × Int)) × (List (Int × Int × Int × Int × Int)) × Int} (h : ts[a]? = some t) :
    g60 (d + 1) (ts, en, (a : Int), f, nx, R) k = some (ts, en, (a : Int), (k, t.2.1), nx, R) := by
  rw [e60, nn, oif_t, ofNat_toNat, h, ob_s]

theorem i_take {d : Nat} {ts : List Tk} {m : Nat × Int × Int} {en : Int} {nx : List ByteArray} {R : (List (Int × Int × Int × Int × Int × Int × Int × Int)) × (List (Int × Int × Int × Int × Int)) × Int} {w : ByteArray} (hts : ∀ t ∈ ts, tkOkk t) (hl : ts.length ≤ 600) (hm : m.1 ≤ ts.length) (hw : wOk w) :
    Ok (g27 (d + 4) (ts, en, (m.1 : Int), m.2, nx, R) [w]) fun r => ∃ nx', r = ((if (tkM ts en w m).1 = true then w else ⟨#[]⟩), (ts, en, ((tkM ts en w m).2.1 : Int), (tkM ts en w m).2.2, nx', R)) := by
  rw [e27, e30, ob_s]
  unfold tkM
  simp only []
  by_cases h0 : m.2.1 ≠ 0
  · rw [show (m.2.1 != 0) = true by rw [bne_iff_ne]; exact h0, oif_t, if_pos h0]
    exact Ok.some ⟨nx, rfl⟩
  rw [show (m.2.1 != 0) = false by rw [bne_eq_false_iff_eq]; omega, oif_f, if_neg h0]
  cases ht : ts[m.1]? with
  | none =>
    have : m.1 = ts.length := by have := List.getElem?_eq_none_iff.1 ht; omega
    rw [show (((m.1 : Nat) : Int) == ((ts.length : Nat) : Int)) = true by rw [beq_iff_eq]; omega, oif_t]
    exact Ok.some ⟨[w], rfl⟩
  | some t =>
    have hlt := (List.getElem?_eq_some_iff.1 ht).1
    have hok := hts t (List.mem_iff_getElem?.2 ⟨_, ht⟩)
    rw [show (((m.1 : Nat) : Int) == ((ts.length : Nat) : Int)) = false by rw [beq_eq_false_iff_ne]; omega, oif_f, q_label ht, ob_s]
    simp only []
    rw [q_Contains (by simp), ob_s]
    have hix : decide (ixV [w] 0 (lab t) ≥ 0) = mt t w := by
      rw [← lab_eq hok hw]
      by_cases h : bl (lab t) = bl w
      · rw [ix1_t h, decide_eq_true h]; rfl
      · rw [ix1_f h, decide_eq_false h]; rfl
    rw [hix]
    by_cases hmt : mt t w = true
    · have hlw : lab t = w := by
        have h2 := hmt
        rw [← lab_eq hok hw] at h2
        exact bl_inj.1 (of_decide_eq_true h2)
      simp only [if_pos hmt]
      rw [hmt, Bool.not_true, oif_f, wr1 (by omega), hlw]
      exact Ok.some ⟨nx, rfl⟩
    · simp only [if_neg hmt]
      rw [show mt t w = false by simpa using hmt, Bool.not_false, oif_t, q_pstop ht, ob_s]
      exact Ok.some ⟨nx, rfl⟩

theorem i_number {d : Nat} {ts : List Tk} {m : Nat × Int × Int} {en : Int} {nx : List ByteArray} {R : (List (Int × Int × Int × Int × Int × Int × Int × Int)) × (List (Int × Int × Int × Int × Int)) × Int} (hts : ∀ t ∈ ts, tkOkk t) (hl : ts.length ≤ 600) (hm : m.1 ≤ ts.length) :
    Ok (g61 (d + 5) (ts, en, (m.1 : Int), m.2, nx, R)) fun r => ∃ nx', r = ((nuM ts en m).1, (ts, en, ((nuM ts en m).2.2.1 : Int), (nuM ts en m).2.2.2, nx', R)) := by
  rw [e61, e27, e30, ob_s]
  unfold nuM
  simp only []
  have hemp : ((⟨#[]⟩ : ByteArray).toList == (⟨#[]⟩ : ByteArray).toList) = true := by rw [bl_eq]; exact decide_eq_true rfl
  by_cases h0 : m.2.1 ≠ 0
  · rw [show (m.2.1 != 0) = true by rw [bne_iff_ne]; exact h0, oif_t, if_pos h0, ob_s, hemp, oif_t]
    exact Ok.some ⟨nx, rfl⟩
  rw [show (m.2.1 != 0) = false by rw [bne_eq_false_iff_eq]; omega, oif_f, if_neg h0]
  cases ht : ts[m.1]? with
  | none =>
    have : m.1 = ts.length := by have := List.getElem?_eq_none_iff.1 ht; omega
    rw [show (((m.1 : Nat) : Int) == ((ts.length : Nat) : Int)) = true by rw [beq_iff_eq]; omega, oif_t, ob_s, hemp, oif_t]
    exact Ok.some ⟨_, rfl⟩
  | some t =>
    have hlt := (List.getElem?_eq_some_iff.1 ht).1
    have hok := hts t (List.mem_iff_getElem?.2 ⟨_, ht⟩)
    rw [show (((m.1 : Nat) : Int) == ((ts.length : Nat) : Int)) = false by rw [beq_eq_false_iff_ne]; omega, oif_f, q_label ht, ob_s]
    simp only []
    rw [q_Contains (by simp), ob_s]
    have hix : decide (ixV [(⟨#[110, 117, 109, 98, 101, 114]⟩ : ByteArray)] 0 (lab t) ≥ 0) = (t.1 == 3) := by
      rw [← lab_num hok]
      by_cases h : bl (lab t) = bl numB
      · rw [ix1_t (show bl (lab t) = bl (⟨#[110, 117, 109, 98, 101, 114]⟩ : ByteArray) from h), decide_eq_true h]; rfl
      · rw [ix1_f (show ¬ bl (lab t) = bl (⟨#[110, 117, 109, 98, 101, 114]⟩ : ByteArray) from h), decide_eq_false h]; rfl
    rw [hix]
    by_cases h3 : t.1 = 3
    · have hlb : lab t = numB := by
        have := lab_num hok
        rw [show (t.1 == 3) = true by rw [beq_iff_eq]; exact h3] at this
        exact bl_inj.1 (of_decide_eq_true this)
      rw [show (t.1 == 3) = true by rw [beq_iff_eq]; exact h3, Bool.not_true, oif_f, ob_s, hlb, bl_eq, decide_eq_false (show ¬ bl numB = bl ⟨#[]⟩ by decide), oif_f, wr1 (by omega)]
      simp only []
      rw [wr (by omega) (by omega), show ((m.1 + 1 : Nat) : Int) - 1 = ((m.1 : Nat) : Int) by omega, nn, oif_t, ofNat_toNat, ht, ob_s, if_pos h3]
      exact Ok.some ⟨nx, rfl⟩
    · rw [show (t.1 == 3) = false by rw [beq_eq_false_iff_ne]; exact h3, Bool.not_false, oif_t, q_pstop ht, ob_s, ob_s, hemp, oif_t]
      simp only []
      rw [if_neg h3]
      exact Ok.some ⟨nx, rfl⟩

def nbM (ts : List Tk) (en : Int) (w : ByteArray) (m : Nat × Int × Int) : Int × Bool × Nat × Int × Int := nuM ts en (tkM ts en w m).2

theorem nbM_le {ts : List Tk} {en : Int} {w : ByteArray} {m : Nat × Int × Int} (h : m.1 ≤ ts.length) : (nbM ts en w m).2.2.1 ≤ ts.length := nuM_le (tkM_le h)

theorem i_behind {d : Nat} {ts : List Tk} {m : Nat × Int × Int} {en : Int} {nx : List ByteArray} {R : (List (Int × Int × Int × Int × Int × Int × Int × Int)) × (List (Int × Int × Int × Int × Int)) × Int} {w : ByteArray} (hts : ∀ t ∈ ts, tkOkk t) (hl : ts.length ≤ 600) (hm : m.1 ≤ ts.length) (hw : wOk w) :
    Ok (g35 (d + 6) (ts, en, (m.1 : Int), m.2, nx, R) w) fun r => ∃ nx', r = ((nbM ts en w m).1, (ts, en, ((nbM ts en w m).2.2.1 : Int), (nbM ts en w m).2.2.2, nx', R)) := by
  rw [e35]
  refine Ok.bind (i_take (d := d + 1) hts hl hm hw) fun r hr => ?_
  obtain ⟨nx', rfl⟩ := hr
  refine Ok.bind (i_number (d := d) hts hl (tkM_le hm)) fun r hr => ?_
  obtain ⟨nx'', rfl⟩ := hr
  exact Ok.some ⟨nx'', rfl⟩

def fiM (ts : List Tk) (m : Nat × Int × Int) : Nat × Int × Int := if m.2.1 ≠ 0 then m else match ts[m.1]? with
  | none => m
  | some t => (m.1, 2, t.2.1)

theorem i_finish {d : Nat} {ts : List Tk} {m : Nat × Int × Int} {en : Int} {nx : List ByteArray} {R : (List (Int × Int × Int × Int × Int × Int × Int × Int)) × (List (Int × Int × Int × Int × Int)) × Int} (hm : m.1 ≤ ts.length) :
    g29 (d + 2) (ts, en, (m.1 : Int), m.2, nx, R) = some (ts, en, ((fiM ts m).1 : Int), (fiM ts m).2, nx, R) := by
  rw [e29, e30, ob_s]
  unfold fiM
  simp only []
  by_cases h0 : m.2.1 ≠ 0
  · rw [show (m.2.1 != 0) = true by rw [bne_iff_ne]; exact h0, Bool.not_true, oif_f, if_pos h0]
  rw [show (m.2.1 != 0) = false by rw [bne_eq_false_iff_eq]; omega, Bool.not_false, oif_t, if_neg h0]
  cases ht : ts[m.1]? with
  | none =>
    have := List.getElem?_eq_none_iff.1 ht
    rw [decide_eq_false (by omega), oif_f]
  | some t =>
    have hlt := (List.getElem?_eq_some_iff.1 ht).1
    rw [decide_eq_true (by omega), oif_t, q_pstop ht, ob_s]

/-- One token, by the other package. -/
theorem s_is {d : Nat} {ts : List Tk} {a : Nat} {en dp : Int} {f : Int × Int} {o : ByteArray × (List (Int × Int × Int × Int × Int × Int × Int × Int)) × (List (Int × Int × Int × Int × Int)) × Int} {w : ByteArray} :
    g53 (d + 1) (ts, (a : Int), en, o, dp, f) w = some ((match ts[a]? with | none => false | some t => mt t w), (ts, (a : Int), en, o, dp, f)) := by
  rw [e53]
  simp only []
  cases ht : ts[a]? with
  | none =>
    have := List.getElem?_eq_none_iff.1 ht
    rw [decide_eq_false (by omega), oif_f]
  | some t =>
    have hlt := (List.getElem?_eq_some_iff.1 ht).1
    rw [decide_eq_true (by omega), oif_t, nn, oif_t, ofNat_toNat, ht, ob_s, bl_eq]
    unfold mt
    simp only []
    by_cases h : bl t.2.2.1 = bl w
    · rw [decide_eq_true h, oif_t, oif_t, ob_s, Bool.true_and]
    · rw [decide_eq_false h, oif_f, Bool.false_and]

theorem s_fail {d : Nat} {ts : List Tk} {a : Nat} {en dp fa : Int} {o : ByteArray × (List (Int × Int × Int × Int × Int × Int × Int × Int)) × (List (Int × Int × Int × Int × Int)) × Int} :
    g54 (d + 1) (ts, (a : Int), en, o, dp, 0, fa) 2 = some (false, (ts, (a : Int), en, o, dp, (match ts[a]? with | none => ((6 : Int), en) | some t => (2, t.2.1)))) := by
  rw [e54]
  simp only []
  rw [show ((0 : Int) == 0) = true from rfl, oif_t]
  cases ht : ts[a]? with
  | none =>
    have := List.getElem?_eq_none_iff.1 ht
    rw [decide_eq_false (by omega), oif_f]; rfl
  | some t =>
    have hlt := (List.getElem?_eq_some_iff.1 ht).1
    rw [decide_eq_true (by omega), oif_t, nn, oif_t, ofNat_toNat, ht, ob_s]; rfl

theorem s_take {d : Nat} {ts : List Tk} {m : Nat × Int × Int} {en dp : Int} {o : ByteArray × (List (Int × Int × Int × Int × Int × Int × Int × Int)) × (List (Int × Int × Int × Int × Int)) × Int} {w : ByteArray} (hl : ts.length ≤ 600) (h0 : m.2.1 = 0) :
    g56 (d + 2) (ts, (m.1 : Int), en, o, dp, m.2) w = some ((tkM ts en w m).1, (ts, ((tkM ts en w m).2.1 : Int), en, o, dp, (tkM ts en w m).2.2)) := by
  obtain ⟨a, fk, fa⟩ := m
  simp only at h0
  subst h0
  rw [e56, s_is, ob_s]
  unfold tkM
  simp only []
  rw [if_neg (by simp)]
  cases ht : ts[a]? with
  | none =>
    simp only [Bool.not_false, oif_t]
    rw [s_fail, ht, ob_s]
  | some t =>
    have hlt := (List.getElem?_eq_some_iff.1 ht).1
    simp only []
    by_cases hmt : mt t w = true
    · simp only [if_pos hmt]
      rw [hmt, Bool.not_true, oif_f, wr1 (by omega)]
    · simp only [if_neg hmt]
      rw [show mt t w = false by simpa using hmt, Bool.not_false, oif_t, s_fail, ht, ob_s]

theorem s_number {d : Nat} {ts : List Tk} {m : Nat × Int × Int} {en dp : Int} {o : ByteArray × (List (Int × Int × Int × Int × Int × Int × Int × Int)) × (List (Int × Int × Int × Int × Int)) × Int} (hl : ts.length ≤ 600) (h0 : m.2.1 = 0) :
    g55 (d + 2) (ts, (m.1 : Int), en, o, dp, m.2) = some ((nuM ts en m).1, (nuM ts en m).2.1, (ts, ((nuM ts en m).2.2.1 : Int), en, o, dp, (nuM ts en m).2.2.2)) := by
  obtain ⟨a, fk, fa⟩ := m
  simp only at h0
  subst h0
  rw [e55]
  unfold nuM j55_0
  simp only []
  rw [if_neg (by simp)]
  cases ht : ts[a]? with
  | none =>
    have := List.getElem?_eq_none_iff.1 ht
    rw [decide_eq_true (by omega), oif_t, oif_t, s_fail, ht, ob_s]
  | some t =>
    have hlt := (List.getElem?_eq_some_iff.1 ht).1
    rw [decide_eq_false (by omega), oif_f, nn, oif_t, ofNat_toNat, ht, ob_s]
    simp only []
    by_cases h3 : t.1 = 3
    · rw [show (t.1 != 3) = false by rw [bne_eq_false_iff_eq]; exact h3, oif_f, wr1 (by omega), wr (by omega) (by omega), show ((a + 1 : Nat) : Int) - 1 = (a : Int) by omega, nn, oif_t, ofNat_toNat, ht, ob_s, if_pos h3]
    · rw [show (t.1 != 3) = true by rw [bne_iff_ne]; exact h3, oif_t, s_fail, ht, ob_s, if_neg h3]

theorem s_named {d : Nat} {ts : List Tk} {m : Nat × Int × Int} {en dp : Int} {o : ByteArray × (List (Int × Int × Int × Int × Int × Int × Int × Int)) × (List (Int × Int × Int × Int × Int)) × Int} {w : ByteArray} (hl : ts.length ≤ 600) (h0 : m.2.1 = 0) :
    g51 (d + 3) (ts, (m.1 : Int), en, o, dp, m.2) w = some ((nbM ts en w m).1, (nbM ts en w m).2.1, (ts, ((nbM ts en w m).2.2.1 : Int), en, o, dp, (nbM ts en w m).2.2.2)) := by
  rw [e51, s_take hl h0, ob_s]
  unfold nbM
  cases h : (tkM ts en w m).1 with
  | false =>
    rw [nuM_bad (tkM_no h)]; rfl
  | true =>
    have := tkM_yes h
    rw [Bool.not_true, oif_f]
    simp only []
    rw [s_number hl (by rw [this]; exact h0), ob_s]

theorem s_done {d : Nat} {ts : List Tk} {m : Nat × Int × Int} {en dp : Int} {o : ByteArray × (List (Int × Int × Int × Int × Int × Int × Int × Int)) × (List (Int × Int × Int × Int × Int)) × Int} (h0 : m.2.1 = 0) :
    g25 (d + 2) (ts, (m.1 : Int), en, o, dp, m.2) = some (decide ((fiM ts m).2.1 = 0), (ts, ((fiM ts m).1 : Int), en, o, dp, (fiM ts m).2)) := by
  obtain ⟨a, fk, fa⟩ := m
  simp only at h0
  subst h0
  rw [e25]
  unfold fiM
  simp only []
  rw [if_neg (by simp)]
  cases ht : ts[a]? with
  | none =>
    have := List.getElem?_eq_none_iff.1 ht
    rw [decide_eq_false (by omega), oif_f]; rfl
  | some t =>
    have hlt := (List.getElem?_eq_some_iff.1 ht).1
    rw [decide_eq_true (by omega), oif_t, s_fail, ht, ob_s]; rfl

theorem nbM_no {ts : List Tk} {en : Int} {w : ByteArray} {m : Nat × Int × Int} (h : (nbM ts en w m).2.1 = false) : (nbM ts en w m).2.2.2.1 ≠ 0 := (nuM_no h).1

theorem nbM_yes {ts : List Tk} {en : Int} {w : ByteArray} {m : Nat × Int × Int} (h0 : m.2.1 = 0) (h : (nbM ts en w m).2.1 = true) : (nbM ts en w m).2.2.2.1 = 0 := by
  unfold nbM at h ⊢
  rw [nuM_yes h]
  cases h2 : (tkM ts en w m).1 with
  | true => rw [tkM_yes h2]; exact h0
  | false => rw [nuM_bad (tkM_no h2)] at h; simp at h

theorem nbM_bad {ts : List Tk} {en : Int} {w : ByteArray} {m : Nat × Int × Int} (h : m.2.1 ≠ 0) : nbM ts en w m = (0, false, m) := by unfold nbM; rw [tkM_bad h, nuM_bad h]

theorem fiM_bad {ts : List Tk} {m : Nat × Int × Int} (h : m.2.1 ≠ 0) : fiM ts m = m := by unfold fiM; rw [if_pos h]

theorem extAll : ExtAll Tryd.prog pvAnn := ExtAll.no (fun _ => rfl) (fun _ => rfl)

end Go.Proofs.YtpjlbjkeekobnaaDoor
