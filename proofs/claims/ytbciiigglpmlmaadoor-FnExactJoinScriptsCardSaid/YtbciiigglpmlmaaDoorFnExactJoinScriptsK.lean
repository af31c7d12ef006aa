/-
  What the cursor's functions and the small ones give by value.
  Conditions: the cursor has not been moved 2^62 times.
  Comparing and adding up lists of numbers; ranges.
  Conditions: the lists are shorter than the fuel.
  Texts: their elements, and the draws of texts.
  Conditions: none, but those of the cursor for the draws.
  Lines of scripts, in both packages.
  Conditions: the texts are not too long.
  What is given for the library's functions that count and find a byte in a text.
  Conditions: none.
-/
import Derived.Test.YtbciiigglpmlmaaDoorFnExactJoinScriptsRes
import Derived.Test.YtbciiigglpmlmaaDoorPKit2
import Derived.Laws.Strings
import Derived.Test.YtbciiigglpmlmaaDoorPureW
set_option linter.all false
namespace Go.Proofs.YtbciiigglpmlmaaDoor
open Go.Ev Go.Pv

def szOk (s : Int) : Bool := decide (1 ≤ s ∧ s ≤ 1500)

abbrev By := ByteArray

def bl (s : ByteArray) : List UInt8 := s.data.toList

theorem bl_len (s : ByteArray) : s.size = (bl s).length := rfl

theorem bl_def (s : ByteArray) : s.data.toList = bl s := rfl

theorem bl_app (a b : ByteArray) : bl (a ++ b) = bl a ++ bl b := by simp [bl]

theorem bl_ext (s : ByteArray) (a b : Nat) : bl (s.extract a b) = ((bl s).drop a).take (b - a) := by simp [bl]

theorem bl_lit (l : List UInt8) : bl ⟨l.toArray⟩ = l := by simp [bl]

theorem bl_inj {a b : ByteArray} : bl a = bl b ↔ a = b := by
  constructor
  · intro h
    cases a with | mk a => cases b with | mk b =>
      simp only [bl] at h
      rw [Array.toList_inj.1 h]
  · intro h; rw [h]

theorem bl_eq (a b : ByteArray) : (a.toList == b.toList) = decide (bl a = bl b) := by
  rw [ByteArray.toList_eq, ByteArray.toList_eq]
  by_cases h : bl a = bl b
  · rw [decide_eq_true h]; simpa [bl] using h
  · rw [decide_eq_false h]; simpa [bl] using h

theorem strL_len (l : List Int) : (strL l).size = l.length := by rw [bl_len]; simp [bl, strL]

theorem ble_t {a b : Nat} (h : a ≤ b) : Nat.ble a b = true := by rw [Nat.ble_eq]; exact h

theorem slice_t {α : Type} {a b n : Nat} {x y : Option α} (h1 : a ≤ b) (h2 : b ≤ n) : oif (Nat.ble a b && Nat.ble b n) x y = x := by rw [ble_t h1, ble_t h2]; rfl

theorem room2 {α : Type} {a b : Nat} {x y : Option α} (h : a + b ≤ 9223372036854775807) : oif (Nat.ble (a + b) 9223372036854775807) x y = x := by rw [ble_t h]; rfl

theorem idx_in : ∀ (l : List UInt8) (c : UInt8), (c ∉ l → idxG l c = -1) ∧ (c ∈ l → ∃ k : Nat, idxG l c = (k : Int) ∧ k < l.length ∧ l[k]? = some c ∧ (l.take k).count c = 0)
  | [], c => ⟨fun _ => rfl, fun h => by simp at h⟩
  | b :: l, c => by
    obtain ⟨h1, h2⟩ := idx_in l c
    unfold idxG
    by_cases hb : b = c
    · subst hb
      exact ⟨fun h => by simp at h, fun _ => ⟨0, by simp, by simp, rfl, by simp⟩⟩
    · have hb' : (b == c) = false := by simpa using hb
      rw [hb']
      refine ⟨fun h => ?_, fun h => ?_⟩
      · rw [h1 (fun hm => h (by simp [hm]))]; rfl
      · have hm : c ∈ l := by
          rcases List.mem_cons.1 h with rfl | hm
          · exact absurd rfl hb
          · exact hm
        obtain ⟨k, k1, k2, k3, k4⟩ := h2 hm
        have hne : ((k : Int) == -1) = false := by rw [beq_eq_false_iff_ne]; omega
        rw [k1, hne]
        refine ⟨k + 1, by simp, by simpa using k2, by simpa using k3, ?_⟩
        rw [List.take_succ_cons, List.count_cons_of_ne hb, k4]

/-- What is asked of a script: not too long, its last line ended, not too many lines. -/
def lnOk (l : List UInt8) : Bool := decide (l.length ≤ 2000) && (decide (l = [] ∨ l.getLast? = some 10) && decide (l.count 10 ≤ 40))

theorem strV_one {g : List UInt8 → UInt8 → Int} {s : ByteArray} {c : UInt8} : strV g s ⟨#[c]⟩ = some (g (bl s) c) := rfl

theorem p_genSplit {d : Nat} {s : ByteArray} (hs : (bl s).length ≤ 3000000) : Ok (g140 (d + 2) s ⟨#[10]⟩ 0 (-1)) fun r => r.length = (bl s).count 10 + 1 ∧ ∃ t, r[(bl s).count 10]? = some t ∧ (bl t = [] ↔ (bl s = [] ∨ (bl s).getLast? = some 10)) := by
  have e10 : ((⟨#[10]⟩ : ByteArray).toList == (⟨#[]⟩ : ByteArray).toList) = false := by rw [bl_eq]; rfl
  have hcl : (bl s).count 10 ≤ (bl s).length := List.count_le_length
  rw [e140, show (((-1 : Int)) == 0) = false from rfl, oif_f, e10, oif_f, show decide ((-1 : Int) < 0) = true from rfl, oif_t, e122, strV_one, ob_s]
  have ec : cntG (bl s) 10 = (((bl s).count 10 : Nat) : Int) := rfl
  rw [ec]
  generalize hC : (bl s).count 10 = C at hcl
  rw [wr (n := (C : Int) + 1) (by omega) (by omega)]
  unfold j140_1
  rw [bl_len, wr (n := (((bl s).length : Nat) : Int) + 1) (by omega) (by omega), if_neg (by omega)]
  have hN : ((C : Int) + 1) = ((C + 1 : Nat) : Int) := by omega
  rw [hN]
  simp only [nn, oif_t, ofNat_toNat]
  have hroom : (Nat.ble (C + 1) (C + 1) && Nat.ble ((C + 1) * 16) roomMax) = true := by
    rw [Bool.and_eq_true, Nat.ble_eq, Nat.ble_eq]; unfold roomMax; omega
  rw [hroom, oif_t]
  refine iter_ok (fun j st => ∃ (p k : Nat), k + j = C ∧ st.2.1 = (k : Int) ∧ bl st.1 = (bl s).drop p ∧ p ≤ (bl s).length ∧ ((bl s).drop p).count 10 = C - k ∧ (p = 0 ∨ (bl s)[p - 1]? = some 10) ∧ st.2.2.length = C + 1) ?_ _ C _ (by rw [fuelN_eq]; omega) ⟨0, 0, by omega, rfl, rfl, by omega, by rw [List.drop_zero, hC]; omega, .inl rfl, by simp⟩
  rintro j ⟨t, n, r⟩ ag ⟨p, k, hk, e1, e2, e3, e4, e5, e6⟩ hag
  simp only at e1 e2 e6
  subst e1
  simp only [l140_0, l140_0_b]
  rw [bl_len, wr (n := (((bl s).length : Nat) : Int) + 1) (by omega) (by omega)]
  have hcc : (if (((bl s).length : Nat) : Int) + 1 < ((C + 1 : Nat) : Int) then (((bl s).length : Nat) : Int) + 1 else ((C + 1 : Nat) : Int)) = ((C + 1 : Nat) : Int) := if_neg (by omega)
  rw [hcc, wr (n := ((C + 1 : Nat) : Int) - 1) (by omega) (by omega)]
  rcases Nat.lt_or_ge k C with hlt | hge
  · rw [decide_eq_true (by omega), oif_t, e146, strV_one, ob_s, e2]
    have hmem : (10 : UInt8) ∈ (bl s).drop p := by
      rw [← List.count_pos_iff]; omega
    obtain ⟨m, m1, m2, m3, m4⟩ := (idx_in _ _).2 hmem
    have hdl : ((bl s).drop p).length = (bl s).length - p := List.length_drop
    rw [m1, decide_eq_false (by omega), oif_f]
    simp only [Int.add_zero]
    rw [bl_len t, e2, wr (n := (m : Int)) (by omega) (by omega), show ((⟨#[10]⟩ : ByteArray).size : Int) = 1 from rfl, wr1 (by omega)]
    simp only [nn, oif_t, ofNat_toNat]
    rw [slice_t (by omega) (by omega), blt_of (by omega), oif_t, List.getElem?_eq_getElem (show k < r.length by omega), ob_s, slice_t (by omega) (by omega), wr1 (by omega)]
    refine hag (j - 1) _ (by omega) ⟨p + (m + 1), k + 1, by omega, rfl, ?_, by omega, ?_, .inr ?_, by simp only [List.length_set]; exact e6⟩
    · simp only
      rw [bl_ext, e2, List.drop_drop, List.take_of_length_le (by simp; omega)]
    · have h1 : ((bl s).drop p).count 10 = (((bl s).drop p).take (m + 1)).count 10 + (((bl s).drop p).drop (m + 1)).count 10 := by
        rw [← List.count_append, List.take_append_drop]
      have h2 : (((bl s).drop p).take (m + 1)).count 10 = 1 := by
        rw [List.take_succ, m3, List.count_append, m4]; rfl
      rw [List.drop_drop] at h1
      rw [h2] at h1; omega
    · rw [List.getElem?_drop] at m3
      rw [show p + (m + 1) - 1 = p + m by omega]; exact m3
  · have : k = C := by omega
    subst this
    rw [decide_eq_false (by omega), oif_f]
    unfold j140_0
    simp only [nn, oif_t, ofNat_toNat]
    rw [blt_of (by omega), oif_t, List.getElem?_eq_getElem (show k < r.length by omega), ob_s, wr1 (by omega)]
    simp only [nn, oif_t, ofNat_toNat, List.length_set]
    rw [ble_t (by omega), oif_t]
    refine Ok.some ⟨by simp; omega, t, ?_, ?_⟩
    · rw [List.getElem?_take_of_lt (by omega), List.getElem?_set_self (by omega)]
    · rw [e2]
      have hno : (10 : UInt8) ∉ (bl s).drop p := by
        rw [← List.count_eq_zero]; omega
      constructor
      · intro h
        rcases e5 with rfl | h5
        · left; simpa using h
        · right
          have hp : (bl s).length ≤ p := List.drop_eq_nil_iff.1 h
          rw [List.getLast?_eq_getElem?, show (bl s).length - 1 = p - 1 by omega]; exact h5
      · rintro (h | h)
        · rw [h]; simp
        · by_cases hp : p < (bl s).length
          · exfalso
            rw [List.getLast?_eq_getElem?] at h
            refine hno (List.mem_of_getElem? (i := (bl s).length - 1 - p) ?_)
            rw [List.getElem?_drop, show p + ((bl s).length - 1 - p) = (bl s).length - 1 by omega]; exact h
          · exact List.drop_eq_nil_iff.2 (by omega)

theorem p_linesOf {d : Nat} {s : ByteArray} (hs : (bl s).length ≤ 3000000) : Ok (g57 (d + 4) s) fun r => r.2 = lnOk (bl s) := by
  rw [e57, e111]
  obtain ⟨r, h1, h2, t, h3, h4⟩ := p_genSplit (d := d) hs
  have hcl : (bl s).count 10 ≤ (bl s).length := List.count_le_length
  rw [h1, ob_s, ob_s]
  have no : j57_0 (d + 3) r true = some ([], false) := rfl
  rw [no, bl_len]
  unfold lnOk
  generalize (bl s).count 10 = C at h2 h3 hcl
  rw [h2, wr (n := ((C + 1 : Nat) : Int) - 1) (by omega) (by omega), show ((C + 1 : Nat) : Int) - 1 = (C : Int) by omega]
  simp only [nn, oif_t, ofNat_toNat]
  by_cases a1 : (bl s).length ≤ 2000
  · rw [decide_eq_false (show ¬ (((bl s).length : Nat) : Int) > 2000 by omega), oif_f, decide_eq_true a1, Bool.true_and]
    by_cases a2 : C ≤ 40
    · rw [decide_eq_false (show ¬ (C : Int) > 40 by omega), oif_f, decide_eq_true a2, Bool.and_true, blt_of (by omega), oif_t, h3, ob_s, bl_eq]
      by_cases a3 : bl s = [] ∨ (bl s).getLast? = some 10
      · rw [decide_eq_true a3, decide_eq_true (show bl t = bl ⟨#[]⟩ by rw [h4.2 a3]; rfl), Bool.not_true]
        unfold j57_0
        rw [oif_f, h2, wr (n := ((C + 1 : Nat) : Int) - 1) (by omega) (by omega), show ((C + 1 : Nat) : Int) - 1 = (C : Int) by omega]
        simp only [nn, oif_t, ofNat_toNat]
        rw [ble_t (by omega), oif_t]
        exact Ok.some rfl
      · rw [decide_eq_false a3, decide_eq_false (show ¬ bl t = bl ⟨#[]⟩ from fun h => a3 (h4.1 h)), Bool.not_false, no]
        exact Ok.some rfl
    · rw [decide_eq_true (show (C : Int) > 40 by omega), oif_t, decide_eq_false a2, Bool.and_false]
      exact Ok.some rfl
  · rw [decide_eq_true (show (((bl s).length : Nat) : Int) > 2000 by omega), oif_t, decide_eq_false a1, Bool.false_and]
    exact Ok.some rfl

theorem p_l1Split {d : Nat} {s : ByteArray} (hs : (bl s).length ≤ 3000000) : Ok (g86 (d + 1) s 10) fun r => r.length = (bl s).count 10 + 1 := by
  rw [e86]
  refine iter_ok (fun j st => ∃ (i k : Nat), i + j = (bl s).length ∧ st.2.2 = (i : Int) ∧ st.2.1 = (k : Int) ∧ k ≤ i ∧ st.1.length = ((bl s).take i).count 10) ?_ _ (bl s).length _ (by rw [fuelN_eq]; omega) ⟨0, 0, by omega, rfl, rfl, by omega, by simp⟩
  rintro j ⟨l, a, b⟩ ag ⟨i, k, hi, e1, e2, e3, e4⟩ hag
  simp only at e1 e2 e4
  subst e1 e2
  have hcl : ((bl s).take i).count 10 ≤ i := Nat.le_trans List.count_le_length (by simp; omega)
  simp only [l86_0, l86_0_b]
  rw [bl_len]
  rcases Nat.lt_or_ge i (bl s).length with hlt | hge
  · have hx := List.getElem?_eq_getElem hlt
    rw [decide_eq_true (by omega), oif_t, nn, oif_t, ofNat_toNat, bl_def, hx, ob_s]
    have ht : ((bl s).take (i + 1)).count 10 = ((bl s).take i).count 10 + (if (bl s)[i] = 10 then 1 else 0) := by
      rw [List.take_succ, hx, List.count_append]
      congr 1
      simp only [Option.toList_some, List.count_singleton]
      by_cases h : (bl s)[i] = 10
      · rw [if_pos h, h]; rfl
      · rw [if_neg h, if_neg (by simpa using h)]
    refine Ok.oif (fun h => ?_) (fun h => ?_)
    · have h10 : (bl s)[i] = 10 := by
        have := beq_iff_eq.1 h
        exact UInt8.toNat_inj.1 (by have : ((bl s)[i]).toNat = 10 := by omega
                                    rw [this]; rfl)
      simp only [nn, oif_t, ofNat_toNat]
      rw [slice_t e3 (by omega), room (by simp; omega), oif_t, wr1 (by omega)]
      refine hag (j - 1) _ (by omega) ⟨i + 1, i + 1, by omega, rfl, rfl, by omega, ?_⟩
      simp only [List.length_append, List.length_singleton]
      rw [ht, if_pos h10]; omega
    · have h10 : (bl s)[i] ≠ 10 := by
        intro e
        rw [e] at h
        exact absurd h (by decide)
      rw [wr1 (by omega)]
      refine hag (j - 1) _ (by omega) ⟨i + 1, k, by omega, rfl, rfl, by omega, ?_⟩
      simp only
      rw [ht, if_neg h10]; omega
  · have : i = (bl s).length := by omega
    subst this
    rw [ltn, oif_f]
    unfold j86_0
    rw [nn, oif_t, ofNat_toNat, bl_len, slice_t e3 (Nat.le_refl _), room (by simp; omega), oif_t]
    refine Ok.some ?_
    simp only [List.length_append, List.length_singleton]
    rw [e4, List.take_length]

theorem p_csLines {d : Nat} {s : ByteArray} (hs : (bl s).length ≤ 3000000) : Ok (g56 (d + 2) s) fun r => r.2 = lnOk (bl s) := by
  rw [e56]
  have no : j56_0 (d + 1) s true = some ([], false) := rfl
  have hcl : (bl s).count 10 ≤ (bl s).length := List.count_le_length
  have yes : (bl s = [] ∨ (bl s).getLast? = some 10) → (bl s).length ≤ 2000 → Ok (j56_0 (d + 1) s false) fun r => r.2 = lnOk (bl s) := by
    intro h1 h2
    unfold j56_0
    rw [oif_f]
    refine Ok.bind (p_l1Split hs) fun r hr => ?_
    unfold lnOk
    rw [decide_eq_true h1, decide_eq_true h2, Bool.true_and, Bool.true_and]
    generalize (bl s).count 10 = C at hr hcl
    rw [hr, wr (n := ((C + 1 : Nat) : Int) - 1) (by omega) (by omega), show ((C + 1 : Nat) : Int) - 1 = (C : Int) by omega]
    simp only [nn, oif_t, ofNat_toNat]
    rw [ble_t (by omega), oif_t]
    refine Ok.some ?_
    simp only
    rw [Bool.eq_iff_iff]; simp; omega
  rw [no, bl_len]
  by_cases a1 : (bl s).length ≤ 2000
  · rw [decide_eq_false (show ¬ (((bl s).length : Nat) : Int) > 2000 by omega), oif_f, bl_eq]
    by_cases a2 : bl s = []
    · rw [decide_eq_true (show bl s = bl ⟨#[]⟩ from a2), Bool.not_true, oif_f]
      exact yes (.inl a2) a1
    · rw [decide_eq_false (show ¬ bl s = bl ⟨#[]⟩ from a2), Bool.not_false, oif_t]
      have hpos : 0 < (bl s).length := List.length_pos_iff.2 a2
      rw [wr (n := (((bl s).length : Nat) : Int) - 1) (by omega) (by omega), show (((bl s).length : Nat) : Int) - 1 = (((bl s).length - 1 : Nat) : Int) by omega, nn, oif_t, ofNat_toNat, bl_def, List.getElem?_eq_getElem (show (bl s).length - 1 < (bl s).length by omega), ob_s]
      by_cases a3 : (bl s)[(bl s).length - 1] = 10
      · rw [a3, show ((((10 : UInt8).toNat : Nat) : Int) != 10) = false from rfl]
        exact yes (.inr (by rw [List.getLast?_eq_getElem?, List.getElem?_eq_getElem (show (bl s).length - 1 < (bl s).length by omega), a3])) a1
      · have hne : ((((bl s)[(bl s).length - 1]).toNat : Int) != 10) = true := by
          rw [bne_iff_ne]
          intro e
          exact a3 (UInt8.toNat_inj.1 (by have : ((bl s)[(bl s).length - 1]).toNat = 10 := by omega
                                          rw [this]; rfl))
        rw [hne, no]
        refine Ok.some ?_
        unfold lnOk
        have : ¬ (bl s = [] ∨ (bl s).getLast? = some 10) := by
          rintro (h | h)
          · exact a2 h
          · rw [List.getLast?_eq_getElem?, List.getElem?_eq_getElem (show (bl s).length - 1 < (bl s).length by omega)] at h
            exact a3 (Option.some.inj h)
        rw [decide_eq_false this, Bool.false_and, Bool.and_false]
  · rw [decide_eq_true (show (((bl s).length : Nat) : Int) > 2000 by omega), oif_t]
    refine Ok.some ?_
    unfold lnOk
    rw [decide_eq_false a1, Bool.false_and]

def jsV (a b : ByteArray) : ByteArray × Bool := if lnOk (bl a) && (lnOk (bl b) && lnOk (bl (a ++ b))) then (a ++ b, true) else (⟨#[]⟩, false)

theorem q_JoinScripts {d : Nat} {a b : ByteArray} (ha : (bl a).length ≤ 1048576) (hb : (bl b).length ≤ 1048576) : g8 (d + 5) a b = some (jsV a b) := by
  rw [e8]
  obtain ⟨r1, h1, h2⟩ := p_linesOf (d := d) (s := a) (by omega)
  obtain ⟨r2, h3, h4⟩ := p_linesOf (d := d) (s := b) (by omega)
  obtain ⟨r3, h5, h6⟩ := p_linesOf (d := d) (s := a ++ b) (by rw [bl_app, List.length_append]; omega)
  have no : j8_0 (d + 4) a b true = some (⟨#[]⟩, false) := rfl
  have hr : Nat.ble (a.size + b.size) 9223372036854775807 = true := by rw [Nat.ble_eq, bl_len, bl_len]; omega
  rw [h1, ob_s, h3, ob_s, h2, h4, no]
  unfold jsV
  cases lnOk (bl a) with
  | false => rfl
  | true =>
    rw [Bool.not_true, oif_f, Bool.true_and]
    cases lnOk (bl b) with
    | false => rfl
    | true =>
      rw [Bool.not_true, Bool.true_and]
      unfold j8_0
      rw [oif_f, hr, oif_t, h5, ob_s, h6, oif_t]
      cases lnOk (bl (a ++ b)) <;> rfl

theorem q_sJoinScripts {d : Nat} {a b : ByteArray} (ha : (bl a).length ≤ 1048576) (hb : (bl b).length ≤ 1048576) : g7 (d + 3) a b = some (jsV a b) := by
  rw [e7]
  obtain ⟨r1, h1, h2⟩ := p_csLines (d := d) (s := a) (by omega)
  obtain ⟨r2, h3, h4⟩ := p_csLines (d := d) (s := b) (by omega)
  obtain ⟨r3, h5, h6⟩ := p_csLines (d := d) (s := a ++ b) (by rw [bl_app, List.length_append]; omega)
  have no : j7_0 (d + 2) a b true = some (⟨#[]⟩, false) := rfl
  have hr : Nat.ble (a.size + b.size) 9223372036854775807 = true := by rw [Nat.ble_eq, bl_len, bl_len]; omega
  rw [h1, ob_s, h3, ob_s, hr, oif_t, h5, ob_s, h2, h4, h6, no]
  unfold jsV
  cases lnOk (bl a) with
  | false => rfl
  | true =>
    rw [Bool.not_true, oif_f, Bool.true_and]
    cases lnOk (bl b) with
    | false => rfl
    | true =>
      rw [Bool.not_true, oif_f, Bool.true_and]
      unfold j7_0
      rw [hr, oif_t]
      cases lnOk (bl (a ++ b)) <;> rfl

theorem ext_only {f : Nat} (h : f ≠ 122) (h2 : f ≠ 146) : pvVext f = none ∧ pvExt f = none := by
  constructor
  · unfold pvVext; split <;> simp_all
  · unfold pvExt; split <;> simp_all

theorem extAll : ExtAll Tryd.prog pvAnn := by
  refine ⟨⟨fun f v h => ?_, fun f h => ?_, fun f h => ?_⟩, fun f e h => ?_⟩
  · by_cases hf : f = 122
    · subst hf
      have h' : pvVext 122 = some v := h
      have h2 : some (fun (a : ByteArray × ByteArray) => strV cntG a.1 a.2) = some v := h'
      injection h2 with h2
      subst h2
      exact ⟨_, rfl, str_fn cntG⟩
    · by_cases hg : f = 146
      · subst hg
        have h' : pvVext 146 = some v := h
        have h2 : some (fun (a : ByteArray × ByteArray) => strV idxG a.1 a.2) = some v := h'
        injection h2 with h2
        subst h2
        exact ⟨_, rfl, str_fn idxG⟩
      · have : pvVext f = some v := h
        rw [(ext_only hf hg).1] at this; simp at this
  · by_cases hf : f = 122
    · subst hf
      have h2 : some (fun (a : ByteArray × ByteArray) => strV cntG a.1 a.2) = none := h
      simp at h2
    · by_cases hg : f = 146
      · subst hg
        have h2 : some (fun (a : ByteArray × ByteArray) => strV idxG a.1 a.2) = none := h
        simp at h2
      · exact (ext_only hf hg).2
  · by_cases hf : f = 122
    · subst hf
      have h2 : false = true := h
      simp at h2
    · by_cases hg : f = 146
      · subst hg
        have h2 : false = true := h
        simp at h2
      · exact (ext_only hf hg).1
  · by_cases hf : f = 122
    · subst hf
      have h2 : some (strX cntG) = some e := h
      injection h2 with h2
      subst h2
      exact cnt_ext
    · by_cases hg : f = 146
      · subst hg
        have h2 : some (strX idxG) = some e := h
        injection h2 with h2
        subst h2
        exact idx_ext
      · have h2 : pvExt f = some e := h
        rw [(ext_only hf hg).2] at h2; simp at h2

end Go.Proofs.YtbciiigglpmlmaaDoor
