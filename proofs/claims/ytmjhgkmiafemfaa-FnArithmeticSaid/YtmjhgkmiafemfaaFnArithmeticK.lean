/-
  What the cursor's functions and the small ones give by value.
  Conditions: the cursor has not been moved 2^62 times.
  Comparing and adding up lists of numbers; ranges.
  Conditions: the lists are shorter than the fuel.
  Texts: their elements, and the draws of texts.
  Conditions: none, but those of the cursor for the draws.
  Numbers and their texts, in both packages.
  Conditions: none, but those of the cursor for the draws.
-/
import Derived.Test.YtmjhgkmiafemfaaFnArithmeticRes
import Derived.Test.YtmjhgkmiafemfaaPKit2
import Derived.Laws.Strings
set_option linter.all false
namespace Go.Proofs.Ytmjhgkmiafemfaa
open Go.Ev Go.Pv

theorem p_next {d m : Nat} {c : List Int × Int × Int} (hc : CurOk m c) (hm : m < 4611686018427387904) : Ok (g289 (d + 1) c) fun r => 0 ≤ r.1 ∧ r.1 < 256 ∧ CurOk (m + 1) r.2 := by
  obtain ⟨hb, h0, h1⟩ := hc
  obtain ⟨code, at', seed⟩ := c
  simp only at hb h0 h1
  have hw : IntKind.i64.wrap (at' + 1) = at' + 1 := wr (by omega) (by omega)
  rw [e289]
  have fin : ∀ n : Int, (at' < code.length → 0 ≤ n ∧ n < 256) → Ok (j289_0 d (code, at', seed) n) fun r => 0 ≤ r.1 ∧ r.1 < 256 ∧ CurOk (m + 1) r.2 := by
    intro n hn
    unfold j289_0
    simp only [hw]
    refine Ok.oif (fun h => ?_) (fun h => ?_)
    · simp only [decide_eq_true_eq] at h
      obtain ⟨a, b⟩ := hn (by omega)
      exact Ok.some ⟨a, b, hb, by simp only; omega, by simp only; omega⟩
    · exact Ok.some ⟨(seedByte _).1, (seedByte _).2, hb, by simp only; omega, by simp only; omega⟩
  refine Ok.oif (fun h => ?_) (fun h => ?_)
  · simp only [decide_eq_true_eq] at h
    refine Ok.oif (fun _ => ?_) (fun h2 => by simp only [decide_eq_false_iff_not] at h2; omega)
    have hlt : at'.toNat < code.length := by omega
    simp only
    rw [List.getElem?_eq_getElem hlt]
    have hx := hb _ (List.getElem_mem hlt)
    refine Ok.bind (Ok.some rfl) (fun a ha => ?_)
    subst ha
    exact fin _ (fun _ => by rw [wr (by omega) (by omega)]; exact hx)
  · simp only [decide_eq_false_iff_not] at h
    exact fin 0 (fun h' => absurd h' h)

theorem p_pick {d m : Nat} {c : List Int × Int × Int} {n : Int} (hc : CurOk m c) (hm : m + 1 < 4611686018427387904) : Ok (g177 (d + 2) c n) fun r => 0 ≤ r.1 ∧ (r.1 < n ∨ r.1 = 0) ∧ CurOk (m + 2) r.2 := by
  rw [e177]
  refine Ok.oif (fun h => ?_) (fun h => ?_)
  · exact Ok.some ⟨by simp, .inr rfl, hc.mono (by omega)⟩
  · simp only [decide_eq_false_iff_not] at h
    refine Ok.bind (p_next hc (by omega)) (fun r hr => ?_)
    obtain ⟨h1, h2, h3⟩ := hr
    have hn : (n == 0) = false := by simp; omega
    refine Ok.oif (fun h4 => ?_) (fun h4 => ?_)
    · refine Ok.bind (p_next h3 (by omega)) (fun q hq => ?_)
      obtain ⟨h5, h6, h7⟩ := hq
      rw [hn]
      rw [wr (n := r.1 * 256) (by omega) (by omega), wr (by omega) (by omega)]
      exact Ok.some ⟨Int.tmod_nonneg _ (by omega), .inl (Int.tmod_lt_of_pos _ (by omega)), h7.mono (by omega)⟩
    · rw [hn]
      exact Ok.some ⟨Int.tmod_nonneg _ (by omega), .inl (Int.tmod_lt_of_pos _ (by omega)), h3.mono (by omega)⟩

theorem p_among {d m : Nat} {c : List Int × Int × Int} {l : List Int} (hc : CurOk m c) (hm : m + 1 < 4611686018427387904) (hl : 0 < l.length) : Ok (g158 (d + 3) c l) fun r => r.1 ∈ l ∧ CurOk (m + 2) r.2 := by
  rw [e158]
  refine Ok.bind (p_pick hc hm) (fun r hr => ?_)
  obtain ⟨h1, h2, h3⟩ := hr
  refine Ok.oif (fun _ => ?_) (fun h => by simp only [decide_eq_false_iff_not] at h; omega)
  have hlt : r.1.toNat < l.length := by omega
  rw [List.getElem?_eq_getElem hlt]
  exact Ok.bind (Ok.some rfl) (fun a ha => by subst ha; exact Ok.some ⟨List.getElem_mem hlt, h3⟩)

theorem p_one {d m : Nat} {c : List Int × Int × Int} {n : Int} (hc : CurOk m c) (hm : m + 1 < 4611686018427387904) : Ok (g211 (d + 3) c n) fun r => CurOk (m + 2) r.2 := by
  rw [e211]
  exact Ok.bind (p_pick hc hm) (fun r hr => Ok.some hr.2.2)

theorem q_l1In {d : Nat} {x y z : Int} : g179 (d + 1) x y z = some (decide (y ≤ x ∧ x ≤ z)) := by
  rw [e179]; simp only [oif_ss]; congr 1; rw [Bool.eq_iff_iff]; simp

theorem q_l1Least {d : Nat} {x y : Int} : g295 (d + 1) x y = some (min x y) := by
  rw [e295]; simp only [oif_ss]; congr 1; split <;> simp_all <;> omega

def szOk (s : Int) : Bool := decide (1 ≤ s ∧ s ≤ 1500)

theorem q_l1Most {d : Nat} {x y : Int} : g223 (d + 1) x y = some (max x y) := by
  rw [e223]; simp only [oif_ss]; congr 1; simp only [decide_eq_true_eq]; split <;> omega

theorem q_l1All {d : Nat} {l : List Int} {a b : Int} (hl : l.length < 4194304) : g228 (d + 2) l a b = some (l.all fun x => decide (a ≤ x ∧ x ≤ b)) := by
  rw [e228]
  refine (range_eq (fun (t : Bool) (i : Int) => (t, i)) l (fun x _ t k => oif (decide (a ≤ x ∧ x ≤ b)) (k t) (some false)) (j228_0 (d + 1)) ?_ ?_ (by rw [fuelN_eq]; exact hl) false).trans ?_
  · intro ag t i x hx; have hi := (List.getElem?_eq_some_iff.1 hx).1; simp only [l228_0, l228_0_b, ltl hx, bltl hx, nn, ofNat_toNat, hx, ob_s, oif_t]; rw [wr1 (by omega)]
    rw [q_l1In, ob_s]; cases decide (a ≤ x ∧ x ≤ b) <;> rfl
  · intro ag t; simp only [l228_0, l228_0_b, ltn, oif_f]
  · rw [rangeR_all (p := fun x => decide (a ≤ x ∧ x ≤ b))]; cases l.all _ <;> rfl

theorem q_big {d : Nat} {x y : List Int} : ∃ b, g12 (d + 1) x y = some b := by
  rw [e12]; simp only [oif_ss]; exact ⟨_, rfl⟩

abbrev By := ByteArray

def bl (s : ByteArray) : List UInt8 := s.data.toList

theorem bl_len (s : ByteArray) : s.size = (bl s).length := rfl

theorem bl_def (s : ByteArray) : s.data.toList = bl s := rfl

theorem bl_app (a b : ByteArray) : bl (a ++ b) = bl a ++ bl b := by simp [bl]

theorem bl_ext (s : ByteArray) (a b : Nat) : bl (s.extract a b) = ((bl s).drop a).take (b - a) := by simp [bl]

theorem bl_lit (l : List UInt8) : bl ⟨l.toArray⟩ = l := by simp [bl]

theorem bl_inj {a b : ByteArray} : bl a = bl b ↔ a = b := by
  constructor
  · intro h
    cases a with | mk a => cases b with | mk b =>
      simp only [bl] at h
      rw [Array.toList_inj.1 h]
  · intro h; rw [h]

theorem bl_eq (a b : ByteArray) : (a.toList == b.toList) = decide (bl a = bl b) := by
  rw [ByteArray.toList_eq, ByteArray.toList_eq]
  by_cases h : bl a = bl b
  · rw [decide_eq_true h]; simpa [bl] using h
  · rw [decide_eq_false h]; simpa [bl] using h

theorem strL_len (l : List Int) : (strL l).size = l.length := by rw [bl_len]; simp [bl, strL]

theorem ble_t {a b : Nat} (h : a ≤ b) : Nat.ble a b = true := by rw [Nat.ble_eq]; exact h

theorem slice_t {α : Type} {a b n : Nat} {x y : Option α} (h1 : a ≤ b) (h2 : b ≤ n) : oif (Nat.ble a b && Nat.ble b n) x y = x := by rw [ble_t h1, ble_t h2]; rfl

theorem room2 {α : Type} {a b : Nat} {x y : Option α} (h : a + b ≤ 9223372036854775807) : oif (Nat.ble (a + b) 9223372036854775807) x y = x := by rw [ble_t h]; rfl

theorem p_of {d m : Nat} {c : List Int × Int × Int} {l : List ByteArray} (hc : CurOk m c) (hm : m + 1 < 4611686018427387904) (hl : 0 < l.length) : Ok (g229 (d + 3) c l) fun r => r.1 ∈ l ∧ CurOk (m + 2) r.2 := by
  rw [e229]
  refine Ok.bind (p_pick hc hm) (fun r hr => ?_)
  obtain ⟨h1, h2, h3⟩ := hr
  refine Ok.oif (fun _ => ?_) (fun h => by simp only [decide_eq_false_iff_not] at h; omega)
  have hlt : r.1.toNat < l.length := by omega
  rw [List.getElem?_eq_getElem hlt]
  exact Ok.bind (Ok.some rfl) (fun a ha => by subst ha; exact Ok.some ⟨List.getElem_mem hlt, h3⟩)

/-- The text of a number with at most so many digits. -/
theorem p_l1Num : ∀ (j : Nat) {d : Nat} {n : Int}, 0 ≤ n → n < 10 ^ (j + 1) → n ≤ 1000000000000 → j ≤ 100 → Ok (g298 (d + j + 1) n) fun s => 1 ≤ s.size ∧ s.size ≤ j + 1
  | 0, d, n, h0, h1, _, _ => by
    rw [e298, decide_eq_true (by omega), oif_t]
    exact Ok.some ⟨by rw [strL_len]; simp, by rw [strL_len]; simp⟩
  | j + 1, d, n, h0, h1, h2, h3 => by
    rw [show d + (j + 1) + 1 = (d + j + 1) + 1 by omega, e298]
    refine Ok.oif (fun _ => Ok.some ⟨by rw [strL_len]; simp, by rw [strL_len]; simp⟩) (fun h => ?_)
    have hq : n / 10 < 10 ^ (j + 1) := by
      rw [Int.pow_succ] at h1
      omega
    rw [Int.tdiv_eq_ediv_of_nonneg h0, wr (n := n / 10) (by omega) (by omega)]
    refine Ok.bind (p_l1Num j (by omega) hq (by omega) (by omega)) fun r hr => ?_
    rw [room2 (by rw [strL_len]; simp; omega)]
    refine Ok.some ⟨?_, ?_⟩ <;> rw [ByteArray.size_append, strL_len] <;> simp <;> omega

theorem p_nuHex {d : Nat} {n : Int} (h0 : 0 ≤ n) (h1 : n < 1048576) : Ok (g299 (d + 1) n) fun s => s.size ≤ 20 := by
  rw [e299]
  refine iter_ok (fun j s => (0 ≤ s.1 ∧ s.1 ≤ 1048576) ∧ s.1 < 16 ^ j ∧ s.2.1.size + j ≤ 10 ∧ (s.2.2 = true → 1 ≤ j)) ?_ _ 6 _ (by rw [fuelN_eq]; omega) ⟨⟨h0, by simp only; omega⟩, by simp only; omega, by show (⟨#[]⟩ : ByteArray).size + 6 ≤ 10; decide, fun _ => by omega⟩
  rintro j ⟨n, s, b⟩ ag ⟨⟨h1, h6⟩, h2, h3, h4⟩ hag
  simp only at h1 h2 h3 h4 h6
  simp only [l299_0, l299_0_b]
  refine Ok.oif (fun h => ?_) (fun h => ?_)
  · have hj := h4 h
    obtain ⟨j, rfl⟩ : ∃ i, j = i + 1 := ⟨j - 1, by omega⟩
    rw [Int.pow_succ] at h2
    have m1 := Int.emod_nonneg n (show (16 : Int) ≠ 0 by omega)
    have m2 := Int.emod_lt_of_pos n (show (0 : Int) < 16 by omega)
    rw [Int.tmod_eq_emod_of_nonneg h1, Int.tdiv_eq_ediv_of_nonneg h1, wr (n := n % 16 + 1) (by omega) (by omega), wr (n := n / 16) (by omega) (by omega)]
    have hs : (⟨#[48, 49, 50, 51, 52, 53, 54, 55, 56, 57, 97, 98, 99, 100, 101, 102]⟩ : ByteArray).size = 16 := rfl
    rw [decide_eq_true (show 0 ≤ n % 16 + 1 by omega), oif_t, decide_eq_true m1, oif_t, slice_t (by omega) (by rw [hs]; omega)]
    have he : ((⟨#[48, 49, 50, 51, 52, 53, 54, 55, 56, 57, 97, 98, 99, 100, 101, 102]⟩ : ByteArray).extract (n % 16).toNat (n % 16 + 1).toNat).size ≤ 1 := by
      rw [ByteArray.size_extract]; omega
    rw [room2 (by omega)]
    refine hag j _ (by omega) ⟨⟨by simp only; omega, by simp only; omega⟩, by simp only; omega, by simp only [ByteArray.size_append]; omega, fun hh => ?_⟩
    simp only [decide_eq_true_eq] at hh
    rcases Nat.eq_zero_or_pos j with h5 | h5
    · subst h5; simp at h2; omega
    · exact h5
  · unfold j299_0
    have hs : (⟨#[48, 120]⟩ : ByteArray).size = 2 := rfl
    rw [room2 (by omega)]
    exact Ok.some (by rw [ByteArray.size_append, hs]; omega)

theorem p_spoilt {d m : Nat} {c : List Int × Int × Int} {s t : ByteArray} (hc : CurOk m c) (hm : m + 100 < 4611686018427387904) (hs : s.size ≤ 1000000) (ht : 0 < t.size) : Ok (g247 (d + 3) c s t) fun r => r.1.size ≤ s.size + 3 ∧ CurOk (m + 20) r.2 := by
  rw [e247]
  refine Ok.bind (p_pick hc (by omega)) (fun r hr => ?_)
  obtain ⟨a1, a2, a3⟩ := hr
  rw [wr (n := 1 + r.1) (by omega) (by omega)]
  refine iter_ok (fun j q => q.2.1 ≤ (j : Int) ∧ j ≤ 3 ∧ q.1.size + j ≤ s.size + 3 ∧ CurOk (m + 20 - 6 * j) q.2.2) ?_ _ 2 _ (by rw [fuelN_eq]; omega) ⟨by simp only; omega, by omega, by simp only; omega, a3.mono (by omega)⟩
  rintro j ⟨q, n, x⟩ ag ⟨h1, h2, h3, h4⟩ hag
  simp only at h1 h2 h3 h4
  simp only [l247_0, l247_0_b]
  have fin : Ok (j247_0 (d + 2) q x.1 x.2.1 x.2.2) fun r => r.1.size ≤ s.size + 3 ∧ CurOk (m + 20) r.2 := by
    unfold j247_0
    exact Ok.some ⟨by simp only; omega, h4.mono (by omega)⟩
  unfold j247_1
  refine Ok.oif (fun h => ?_) (fun h => by rw [oif_f]; exact fin)
  simp only [decide_eq_true_eq] at h
  refine Ok.oif (fun h5 => ?_) (fun h5 => fin)
  simp only [decide_eq_true_eq] at h5
  refine Ok.bind (p_pick h4 (by omega)) (fun u hu => ?_)
  obtain ⟨u1, u2, u3⟩ := hu
  refine Ok.bind (p_pick u3 (by omega)) (fun v hv => ?_)
  obtain ⟨v1, v2, v3⟩ := hv
  rw [decide_eq_true v1, oif_t]
  have hlt : v.1.toNat < t.data.toList.length := by
    have : t.size = t.data.toList.length := rfl
    omega
  rw [List.getElem?_eq_getElem hlt, ob_s]
  refine Ok.bind (p_pick v3 (by omega)) (fun w hw => ?_)
  obtain ⟨w1, w2, w3⟩ := hw
  have hui : u.1.toNat < q.size := by omega
  have hst : ∀ n : Int, (strL [n]).size = 1 := fun n => by rw [strL_len]; rfl
  rw [wr (n := n - 1) (by omega) (by omega), wr (n := u.1 + 1) (by omega) (by omega)]
  have go : ∀ q2 : ByteArray, q2.size ≤ q.size + 1 → Ok (ag (q2, n - 1, w.2)) fun r => r.1.size ≤ s.size + 3 ∧ CurOk (m + 20) r.2 := fun q2 hq =>
    hag (j - 1) _ (by omega) ⟨by simp only; omega, by omega, by simp only; omega, w3.mono (by omega)⟩
  have e1 : (q.extract 0 u.1.toNat).size = u.1.toNat := by rw [ByteArray.size_extract]; omega
  have e2 : (q.extract u.1.toNat q.size).size = q.size - u.1.toNat := by rw [ByteArray.size_extract]; omega
  have e3 : (q.extract (u.1 + 1).toNat q.size).size = q.size - u.1.toNat - 1 := by rw [ByteArray.size_extract]; omega
  refine Ok.oif (fun _ => ?_) (fun _ => Ok.oif (fun _ => ?_) (fun _ => ?_))
  · rw [decide_eq_true u1, oif_t, slice_t (by omega) (by omega), room2 (by rw [e1, hst]; omega), oif_t, slice_t (by omega) (by omega), room2 (by rw [ByteArray.size_append, e1, e2, hst]; omega)]
    exact go _ (by rw [ByteArray.size_append, ByteArray.size_append, e1, e2, hst]; omega)
  · rw [decide_eq_true u1, oif_t, slice_t (by omega) (by omega), room2 (by rw [e1, hst]; omega), decide_eq_true (show 0 ≤ u.1 + 1 by omega), oif_t, slice_t (by omega) (by omega), room2 (by rw [ByteArray.size_append, e1, e3, hst]; omega)]
    exact go _ (by rw [ByteArray.size_append, ByteArray.size_append, e1, e3, hst]; omega)
  · rw [decide_eq_true u1, oif_t, slice_t (by omega) (by omega), decide_eq_true (show 0 ≤ u.1 + 1 by omega), oif_t, slice_t (by omega) (by omega), room2 (by rw [e1, e3]; omega)]
    exact go _ (by rw [ByteArray.size_append, e1, e3]; omega)

theorem q_nuUnits {d : Nat} : g296 (d + 1) = some [(⟨#[109]⟩ : ByteArray), (⟨#[107]⟩ : ByteArray), (⟨#[]⟩ : ByteArray)] := e296 d

theorem q_nuSize0 {d : Nat} : g297 (d + 1) 0 = some 1000000 := by rw [e297]; rfl

theorem q_nuSize1 {d : Nat} : g297 (d + 1) 1 = some 1000 := by rw [e297]; rfl

theorem q_nuSize2 {d : Nat} : g297 (d + 1) 2 = some 1 := by rw [e297]; rfl

theorem p_nuForms {d : Nat} {n : Int} (h0 : 0 ≤ n) (h1 : n ≤ 1000000000) : Ok (g230 (d + 12) n) fun l => 0 < l.length ∧ ∀ s ∈ l, s.size ≤ 20 := by
  rw [e230, q_nuUnits, ob_s]
  refine iter_ok (fun j s => ∃ i : Nat, s.2 = (i : Int) ∧ i + j = 3 ∧ s.1.length ≤ i ∧ (i = 3 → 0 < s.1.length) ∧ ∀ x ∈ s.1, x.size ≤ 20) ?_ _ 3 _ (by rw [fuelN_eq]; omega) ⟨0, rfl, rfl, by simp, by simp, by simp⟩
  rintro j ⟨l, _⟩ ag ⟨i, rfl, h2, h3, h4, h5⟩ hag
  simp only at h3 h4 h5
  simp only [l230_0, l230_0_b]
  have hU : ([(⟨#[109]⟩ : ByteArray), (⟨#[107]⟩ : ByteArray), (⟨#[]⟩ : ByteArray)] : List ByteArray).length = 3 := rfl
  have add : ∀ (r : ByteArray) (u : ByteArray), 1 ≤ r.size → r.size ≤ 11 → u.size ≤ 1 → i < 3 → Ok (oif (Nat.ble (r.size + u.size) 9223372036854775807) (oif (Nat.ble ((l.length + [(r ++ u)].length) * 16) roomMax) (ag (l ++ [(r ++ u)], IntKind.i64.wrap ((i : Int) + 1))) none) none) fun l => 0 < l.length ∧ ∀ s ∈ l, s.size ≤ 20 := by
    intro r u hr hr2 hu hi
    rw [room2 (by omega), room (by simp; omega), oif_t, wr1 (by omega)]
    refine hag (j - 1) _ (by omega) ⟨i + 1, rfl, by omega, by simp; omega, by simp, fun x hx => ?_⟩
    simp only [List.mem_append, List.mem_singleton] at hx
    rcases hx with hx | rfl
    · exact h5 x hx
    · rw [ByteArray.size_append]; omega
  have skip : i < 2 → Ok (ag (l, IntKind.i64.wrap ((i : Int) + 1))) fun l => 0 < l.length ∧ ∀ s ∈ l, s.size ≤ 20 := by
    intro hi
    rw [wr1 (by omega)]
    exact hag (j - 1) _ (by omega) ⟨i + 1, rfl, by omega, by simp only; omega, by simp only; omega, h5⟩
  rcases Nat.lt_or_ge i 3 with hi | hi
  · rw [hU, decide_eq_true (show (i : Int) < ((3 : Nat) : Int) by omega), oif_t, nn, oif_t, ofNat_toNat, blt_of hi, oif_t]
    have hc : i = 0 ∨ i = 1 ∨ i = 2 := by omega
    unfold j230_1
    rcases hc with rfl | rfl | rfl
    · simp only [List.getElem?_cons_zero, ob_s]
      rw [show ((0 : Nat) : Int) = 0 from rfl] at add skip ⊢
      rw [q_nuSize0, ob_s]
      simp only [show ((1000000 : Int) == 0) = false from rfl, oif_f, ob_s]
      rw [Int.tdiv_eq_ediv_of_nonneg h0, wr (n := n / 1000000) (by omega) (by omega)]
      refine Ok.oif (fun _ => ?_) (fun _ => skip (by omega))
      refine Ok.oif (fun _ => ?_) (fun _ => ?_)
      · rw [oif_t]
        refine Ok.bind (p_l1Num 10 (by omega) (by simp only [Nat.reduceAdd, Int.reducePow]; omega) (by omega) (by omega)) fun r hr => add r _ hr.1 hr.2 (by decide) (by omega)
      · refine Ok.oif (fun _ => ?_) (fun _ => skip (by omega))
        refine Ok.bind (p_l1Num 10 (by omega) (by simp only [Nat.reduceAdd, Int.reducePow]; omega) (by omega) (by omega)) fun r hr => add r _ hr.1 hr.2 (by decide) (by omega)
    · simp only [List.getElem?_cons_succ, List.getElem?_cons_zero, ob_s]
      rw [show ((1 : Nat) : Int) = 1 from rfl] at add skip ⊢
      rw [q_nuSize1, ob_s]
      simp only [show ((1000 : Int) == 0) = false from rfl, oif_f, ob_s]
      rw [Int.tdiv_eq_ediv_of_nonneg h0, wr (n := n / 1000) (by omega) (by omega)]
      refine Ok.oif (fun _ => ?_) (fun _ => skip (by omega))
      refine Ok.oif (fun _ => ?_) (fun _ => ?_)
      · rw [oif_t]
        refine Ok.bind (p_l1Num 10 (by omega) (by simp only [Nat.reduceAdd, Int.reducePow]; omega) (by omega) (by omega)) fun r hr => add r _ hr.1 hr.2 (by decide) (by omega)
      · refine Ok.oif (fun _ => ?_) (fun _ => skip (by omega))
        refine Ok.bind (p_l1Num 10 (by omega) (by simp only [Nat.reduceAdd, Int.reducePow]; omega) (by omega) (by omega)) fun r hr => add r _ hr.1 hr.2 (by decide) (by omega)
    · simp only [List.getElem?_cons_succ, List.getElem?_cons_zero, ob_s]
      rw [show ((2 : Nat) : Int) = 2 from rfl] at add ⊢
      rw [q_nuSize2, ob_s]
      simp only [show ((1 : Int) == 0) = false from rfl, oif_f, ob_s]
      have hm : n.tmod 1 = 0 := by simp
      rw [hm, Int.tdiv_eq_ediv_of_nonneg h0, wr (n := n / 1) (by omega) (by omega)]
      have he : ((⟨#[]⟩ : ByteArray).toList == (⟨#[]⟩ : ByteArray).toList) = true := by simp
      rw [show ((0 : Int) == 0) = true from rfl, oif_t, he, oif_same, oif_t]
      refine Ok.bind (p_l1Num 10 (by omega) (by simp only [Nat.reduceAdd, Int.reducePow]; omega) (by omega) (by omega)) fun r hr => add r _ hr.1 hr.2 (by decide) (by omega)
  · have : i = 3 := by omega
    subst this
    rw [hU, ltn, oif_f]
    unfold j230_0
    exact Ok.some ⟨h4 rfl, h5⟩

theorem p_value {d m : Nat} {c : List Int × Int × Int} (hc : CurOk m c) (hm : m + 40 < 4611686018427387904) : Ok (g224 (d + 4) c) fun r => -1 ≤ r.1 ∧ r.1 ≤ 1000000001 ∧ CurOk (m + 10) r.2 := by
  rw [e224]
  refine Ok.bind (p_pick hc (by omega)) fun r hr => ?_
  refine Ok.bind (p_pick hr.2.2 (by omega)) fun s hs => ?_
  refine Ok.bind (p_pick hs.2.2 (by omega)) fun t ht => ?_
  refine Ok.bind (p_among ht.2.2 (by omega) (by simp)) fun u hu => ?_
  refine Ok.bind (p_among hu.2 (by omega) (by simp)) fun v hv => ?_
  refine Ok.some ⟨?_, ?_, hv.2.mono (by omega)⟩
  · have h1 := hr.1; have h2 := hs.1; have h3 := ht.1; have h4 := ht.2.1; have h5 := hu.1; have h6 := hv.1
    rw [wr (n := 1000 * t.1) (by omega) (by omega)] at h6
    simp only [List.mem_cons, List.not_mem_nil, or_false] at h5 h6
    omega
  · have h1 := hr.2.1; have h2 := hs.2.1; have h3 := ht.1; have h4 := ht.2.1; have h5 := hu.1; have h6 := hv.1
    rw [wr (n := 1000 * t.1) (by omega) (by omega)] at h6
    simp only [List.mem_cons, List.not_mem_nil, or_false] at h5 h6
    omega

theorem q_nuValue {d : Nat} {n : Int} : g226 (d + 2) n = some (decide (0 ≤ n ∧ n ≤ 1000000000)) := by rw [e226, q_l1In, ob_s]

theorem p_numeral {d m : Nat} {c : List Int × Int × Int} (hc : CurOk m c) (hm : m + 300 < 4611686018427387904) : Ok (g231 (d + 13) c) fun r => r.1.size ≤ 40 ∧ CurOk (m + 40) r.2 := by
  rw [e231]
  refine Ok.bind (p_value hc (by omega)) fun r hr => ?_
  obtain ⟨a1, a2, a3⟩ := hr
  refine Ok.bind (p_pick a3 (by omega)) fun s hs => ?_
  obtain ⟨b1, b2, b3⟩ := hs
  simp only [q_l1Most, q_l1Least, q_nuValue, ob_s]
  refine Ok.oif (fun _ => ?_) (fun _ => Ok.oif (fun _ => ?_) (fun _ => Ok.oif (fun _ => ?_) (fun _ => Ok.oif (fun _ => ?_) (fun h => ?_))))
  · exact Ok.bind (p_nuHex (by omega) (by omega)) fun t ht => Ok.some ⟨by simp only; omega, b3.mono (by omega)⟩
  · refine Ok.bind (p_of b3 (by omega) (by simp)) fun t ht => Ok.some ⟨?_, ht.2.mono (by omega)⟩
    have := ht.1
    have all : ∀ x ∈ [(⟨#[]⟩ : ByteArray), (⟨#[107]⟩ : ByteArray), (⟨#[109]⟩ : ByteArray), (⟨#[48, 107]⟩ : ByteArray), (⟨#[48, 48]⟩ : ByteArray), (⟨#[48, 49]⟩ : ByteArray), (⟨#[48, 120]⟩ : ByteArray), (⟨#[48, 120, 48]⟩ : ByteArray), (⟨#[48, 120, 48, 48]⟩ : ByteArray), (⟨#[48, 120, 102, 102, 102, 102]⟩ : ByteArray), (⟨#[48, 120, 49, 48, 48, 48, 48]⟩ : ByteArray), (⟨#[48, 120, 70, 70]⟩ : ByteArray), (⟨#[49, 48, 48, 48, 48, 48, 48, 107]⟩ : ByteArray), (⟨#[49, 48, 48, 48, 48, 48, 49, 107]⟩ : ByteArray), (⟨#[49, 48, 48, 48, 109]⟩ : ByteArray), (⟨#[49, 48, 48, 49, 109]⟩ : ByteArray), (⟨#[49, 48, 48, 48, 48, 48, 48, 48, 48, 49]⟩ : ByteArray), (⟨#[57, 57, 57, 57, 57, 57, 57, 57, 57, 57, 57, 57, 57, 57, 57, 57, 57, 57, 57, 57]⟩ : ByteArray), (⟨#[49, 32, 107]⟩ : ByteArray), (⟨#[49, 75]⟩ : ByteArray)], x.size ≤ 40 := by
      intro x hx
      simp only [List.mem_cons, List.not_mem_nil, or_false] at hx
      rcases hx with rfl | rfl | rfl | rfl | rfl | rfl | rfl | rfl | rfl | rfl | rfl | rfl | rfl | rfl | rfl | rfl | rfl | rfl | rfl | rfl <;> decide
    exact all _ this
  · refine Ok.bind (p_l1Num 10 (by omega) (by simp only [Nat.reduceAdd, Int.reducePow]; omega) (by omega) (by omega)) fun t ht => ?_
    refine Ok.bind (p_spoilt b3 (by omega) (by omega) (by decide)) fun u hu => Ok.some ⟨by simp only; omega, hu.2.mono (by omega)⟩
  · exact Ok.bind (p_l1Num 10 (by omega) (by simp only [Nat.reduceAdd, Int.reducePow]; omega) (by omega) (by omega)) fun t ht => Ok.some ⟨by simp only; omega, b3.mono (by omega)⟩
  · simp only [Bool.not_eq_false', decide_eq_true_eq] at h
    refine Ok.bind (p_nuForms h.1 h.2) fun t ht => ?_
    exact Ok.bind (p_of b3 (by omega) ht.1) fun u hu => Ok.some ⟨by have := ht.2 _ hu.1; simp only; omega, hu.2.mono (by omega)⟩

def vlOk (n : Int) : Bool := decide (0 ≤ n ∧ n ≤ 1000000000)

theorem q_isValue {d : Nat} {n : Int} : g225 (d + 1) n = some (vlOk n) := by
  rw [e225]; simp only [oif_ss]; congr 1; rw [Bool.eq_iff_iff]; simp [vlOk]

theorem q_nuValue2 {d : Nat} {n : Int} : g226 (d + 2) n = some (vlOk n) := by rw [e226, q_l1In, ob_s]; rfl

/-- Scaling. -/
def scN (n num den : Int) (up : Bool) : Int := if up then (n * num + (den - 1)) / den else (n * num) / den

def scOk (n num den : Int) : Bool := vlOk n && decide (0 ≤ num ∧ num ≤ 1000000 ∧ 1 ≤ den ∧ den ≤ 1000000)

def scV (n num den : Int) (up : Bool) : Int × Bool := if scOk n num den && decide (scN n num den up ≤ 1000000000) then (scN n num den up, true) else (0, false)

theorem sc_in {n num den : Int} (h : scOk n num den = true) : 0 ≤ n * num ∧ n * num ≤ 1000000000000000 ∧ 1 ≤ den ∧ den ≤ 1000000 := by
  simp only [scOk, vlOk, Bool.and_eq_true, decide_eq_true_eq] at h
  have k1 : 0 ≤ n * num := Int.mul_nonneg (by omega) (by omega)
  have k2 : n * num ≤ 1000000000 * num := Int.mul_le_mul_of_nonneg_right (by omega) (by omega)
  omega

theorem div_le_self' {a b : Int} (h0 : 0 ≤ a) (h1 : 1 ≤ b) : 0 ≤ a / b ∧ a / b ≤ a := ⟨Int.ediv_nonneg h0 (by omega), Int.ediv_le_self _ h0⟩

theorem q_ScaleValue {d : Nat} {n num den : Int} {up : Bool} : g78 (d + 2) n num den up = some (scV n num den up) := by
  rw [e78, q_isValue, ob_s]
  have bad : scOk n num den = false → scV n num den up = (0, false) := fun h => by unfold scV; rw [h]; rfl
  unfold j78_1
  cases hv : vlOk n with
  | false => rw [bad (by unfold scOk; rw [hv]; rfl)]; rfl
  | true =>
    simp only [Bool.not_true, oif_f]
    by_cases h1 : num < 0
    · rw [decide_eq_true h1, oif_t, oif_t, bad (by unfold scOk; rw [decide_eq_false (show ¬ (0 ≤ num ∧ num ≤ 1000000 ∧ 1 ≤ den ∧ den ≤ 1000000) by omega), Bool.and_false])]
    rw [decide_eq_false h1, oif_f]
    by_cases h2 : num > 1000000
    · rw [decide_eq_true h2, oif_t, oif_t, bad (by unfold scOk; rw [decide_eq_false (show ¬ (0 ≤ num ∧ num ≤ 1000000 ∧ 1 ≤ den ∧ den ≤ 1000000) by omega), Bool.and_false])]
    rw [decide_eq_false h2, oif_f]
    by_cases h3 : den < 1
    · rw [decide_eq_true h3, oif_t, oif_t, bad (by unfold scOk; rw [decide_eq_false (show ¬ (0 ≤ num ∧ num ≤ 1000000 ∧ 1 ≤ den ∧ den ≤ 1000000) by omega), Bool.and_false])]
    rw [decide_eq_false h3, oif_f]
    by_cases h4 : den > 1000000
    · rw [decide_eq_true h4, oif_t, bad (by unfold scOk; rw [decide_eq_false (show ¬ (0 ≤ num ∧ num ≤ 1000000 ∧ 1 ≤ den ∧ den ≤ 1000000) by omega), Bool.and_false])]
    rw [decide_eq_false h4, oif_f]
    have ok : scOk n num den = true := by unfold scOk; rw [hv, decide_eq_true (by omega)]; rfl
    obtain ⟨k1, k2, k3, k4⟩ := sc_in ok
    have hz : (den == 0) = false := by simp; omega
    rw [wr (n := n * num) (by omega) (by omega), wr (n := den - 1) (by omega) (by omega), wr (n := n * num + (den - 1)) (by omega) (by omega)]
    unfold scV scN j78_0
    rw [ok]
    cases up with
    | true =>
      obtain ⟨q1, q2⟩ := div_le_self' (a := n * num + (den - 1)) (b := den) (by omega) k3
      simp only [oif_t, if_true, hz, oif_f, Bool.true_and]
      rw [Int.tdiv_eq_ediv_of_nonneg (show 0 ≤ n * num + (den - 1) by omega), wr (n := (n * num + (den - 1)) / den) (by omega) (by omega)]
      by_cases h5 : (n * num + (den - 1)) / den > 1000000000
      · rw [decide_eq_true h5, oif_t, decide_eq_false (by omega)]; rfl
      · rw [decide_eq_false h5, oif_f, decide_eq_true (by omega)]; rfl
    | false =>
      obtain ⟨q1, q2⟩ := div_le_self' (a := n * num) (b := den) (by omega) k3
      simp only [oif_f, hz, Bool.false_eq_true, if_false, Bool.true_and]
      rw [Int.tdiv_eq_ediv_of_nonneg (show 0 ≤ n * num by omega), wr (n := (n * num) / den) (by omega) (by omega)]
      by_cases h5 : (n * num) / den > 1000000000
      · rw [decide_eq_true h5, oif_t, decide_eq_false (by omega)]; rfl
      · rw [decide_eq_false h5, oif_f, decide_eq_true (by omega)]; rfl

theorem q_sScaleValue {d : Nat} {n num den : Int} {up : Bool} : g79 (d + 3) n num den up = some (scV n num den up) := by
  rw [e79, q_nuValue2, ob_s]
  have bad : scOk n num den = false → scV n num den up = (0, false) := fun h => by unfold scV; rw [h]; rfl
  cases hv : vlOk n with
  | false => rw [bad (by unfold scOk; rw [hv]; rfl)]; rfl
  | true =>
    simp only [Bool.not_true, oif_f, q_l1In, ob_s]
    by_cases h1 : 0 ≤ num ∧ num ≤ 1000000
    · rw [decide_eq_true h1, Bool.not_true, oif_f]
      by_cases h2 : 1 ≤ den ∧ den ≤ 1000000
      · rw [decide_eq_true h2, Bool.not_true, oif_f]
        have ok : scOk n num den = true := by unfold scOk; rw [hv, decide_eq_true (by omega)]; rfl
        obtain ⟨k1, k2, k3, k4⟩ := sc_in ok
        have hz : (den == 0) = false := by simp; omega
        rw [e227, wr (n := n * num) (by omega) (by omega), wr (n := den - 1) (by omega) (by omega), wr (n := n * num + (den - 1)) (by omega) (by omega)]
        unfold scV scN
        rw [ok]
        cases up with
        | true =>
          obtain ⟨q1, q2⟩ := div_le_self' (a := n * num + (den - 1)) (b := den) (by omega) k3
          simp only [oif_t, if_true, hz, oif_f, Bool.true_and]
          rw [Int.tdiv_eq_ediv_of_nonneg (show 0 ≤ n * num + (den - 1) by omega), wr (n := (n * num + (den - 1)) / den) (by omega) (by omega), ob_s]
          by_cases h5 : (n * num + (den - 1)) / den > 1000000000
          · rw [decide_eq_true h5, oif_t, decide_eq_false (by omega)]; rfl
          · rw [decide_eq_false h5, oif_f, decide_eq_true (by omega)]; rfl
        | false =>
          obtain ⟨q1, q2⟩ := div_le_self' (a := n * num) (b := den) (by omega) k3
          simp only [oif_f, hz, Bool.false_eq_true, if_false, Bool.true_and]
          rw [Int.tdiv_eq_ediv_of_nonneg (show 0 ≤ n * num by omega), wr (n := (n * num) / den) (by omega) (by omega), ob_s]
          by_cases h5 : (n * num) / den > 1000000000
          · rw [decide_eq_true h5, oif_t, decide_eq_false (by omega)]; rfl
          · rw [decide_eq_false h5, oif_f, decide_eq_true (by omega)]; rfl
      · rw [decide_eq_false h2, bad (by unfold scOk; rw [decide_eq_false (show ¬ (0 ≤ num ∧ num ≤ 1000000 ∧ 1 ≤ den ∧ den ≤ 1000000) by omega), Bool.and_false])]; rfl
    · rw [decide_eq_false h1, bad (by unfold scOk; rw [decide_eq_false (show ¬ (0 ≤ num ∧ num ≤ 1000000 ∧ 1 ≤ den ∧ den ≤ 1000000) by omega), Bool.and_false])]; rfl

/-- Adding. -/
def vlsOk (l : List Int) : Bool := l.all vlOk && decide (l.length ≤ 40)

def adV (l : List Int) : Int × Bool := if vlsOk l && decide (l.sum ≤ 1000000000) then (l.sum, true) else (0, false)

theorem ad_range {β : Type} {no : Option β} {fin : Int → Option β} : ∀ (l : List Int) (i : Nat) (t : Int), (∀ x ∈ l, 0 ≤ x ∧ x ≤ 1000000000) → 0 ≤ t → t ≤ 1000000000 →
    rangeR (fun x _ t k => oif (decide (IntKind.i64.wrap (t + x) > 1000000000)) no (k (IntKind.i64.wrap (t + x)))) fin l i t = if t + l.sum ≤ 1000000000 then fin (t + l.sum) else no
  | [], i, t, _, h0, h1 => by
    have e : t + ([] : List Int).sum = t := by simp
    rw [e, if_pos h1]; rfl
  | x :: r, i, t, hl, h0, h1 => by
    have hx := hl x (by simp)
    have hr : 0 ≤ r.sum := List.sum_nonneg' r (fun y hy => (hl y (by simp [hy])).1)
    have e : t + (x :: r).sum = t + x + r.sum := by rw [List.sum_cons]; omega
    rw [e]
    simp only [rangeR]
    rw [wr (n := t + x) (by omega) (by omega)]
    by_cases h : t + x > 1000000000
    · rw [decide_eq_true h, oif_t, if_neg (by omega)]
    · rw [decide_eq_false h, oif_f, ad_range r (i + 1) (t + x) (fun y hy => hl y (by simp [hy])) (by omega) (by omega)]

theorem vlsOk_in {l : List Int} (h : vlsOk l = true) : (∀ x ∈ l, 0 ≤ x ∧ x ≤ 1000000000) ∧ l.length ≤ 40 := by
  simp only [vlsOk, vlOk, Bool.and_eq_true, List.all_eq_true, decide_eq_true_eq] at h
  exact h

theorem q_AddValues {d : Nat} {l : List Int} (hl : l.length < 4194304) : g81 (d + 2) l = some (adV l) := by
  rw [e81]
  by_cases h1 : ((l.length : Nat) : Int) > 40
  · rw [decide_eq_true h1, oif_t]; unfold adV vlsOk; rw [decide_eq_false (show ¬ l.length ≤ 40 by omega), Bool.and_false, Bool.false_and]; rfl
  rw [decide_eq_false h1, oif_f]
  refine (range_eq (fun (t : Int × Bool) (i : Int) => (t.1, t.2, i)) l (fun x _ t k => oif (vlOk x) (k t) (some (0, false))) (fun t => j81_1 (d + 1) l t.1 t.2) ?_ ?_ (by rw [fuelN_eq]; exact hl) (0, false)).trans ?_
  · intro ag t i x hx
    have hi := (List.getElem?_eq_some_iff.1 hx).1
    simp only [l81_0, l81_0_b, ltl hx, nn, ofNat_toNat, hx, ob_s, oif_t, q_isValue]
    rw [wr1 (by omega)]
    cases vlOk x <;> rfl
  · intro ag t; simp only [l81_0, l81_0_b, ltn, oif_f]
  · rw [rangeR_all (p := vlOk)]
    cases ha : l.all vlOk with
    | false => unfold adV vlsOk; rw [ha]; rfl
    | true =>
      have ok : vlsOk l = true := by unfold vlsOk; rw [ha, decide_eq_true (show l.length ≤ 40 by omega)]; rfl
      rw [oif_t]
      unfold j81_1
      refine (range_eq (fun (t : Int) (i : Int) => ((0 : Int), false, t, i)) l (fun x _ t k => oif (decide (IntKind.i64.wrap (t + x) > 1000000000)) (some (0, false)) (k (IntKind.i64.wrap (t + x)))) (fun t => j81_0 (d + 1) 0 false t) ?_ ?_ (by rw [fuelN_eq]; exact hl) 0).trans ?_
      · intro ag t i x hx
        have hi := (List.getElem?_eq_some_iff.1 hx).1
        simp only [l81_1, l81_1_b, ltl hx, nn, ofNat_toNat, hx, ob_s, oif_t]
        rw [wr1 (by omega)]
      · intro ag t; simp only [l81_1, l81_1_b, ltn, oif_f]
      · rw [ad_range l 0 0 (vlsOk_in ok).1 (by omega) (by omega), Int.zero_add]
        unfold adV j81_0
        rw [ok]
        by_cases hs : l.sum ≤ 1000000000
        · rw [if_pos hs, decide_eq_true hs]; rfl
        · rw [if_neg hs, decide_eq_false hs]; rfl

theorem q_sAddValues {d : Nat} {l : List Int} (hl : l.length < 4194304) : g82 (d + 3) l = some (adV l) := by
  rw [e82]
  unfold j82_1
  by_cases h1 : ((l.length : Nat) : Int) > 40
  · rw [decide_eq_true h1, oif_t, oif_t]; unfold adV vlsOk; rw [decide_eq_false (show ¬ l.length ≤ 40 by omega), Bool.and_false, Bool.false_and]; rfl
  rw [decide_eq_false h1, oif_f, q_l1All hl, ob_s]
  cases ha : l.all vlOk with
  | false =>
    have : (l.all fun x => decide (0 ≤ x ∧ x ≤ 1000000000)) = false := ha
    rw [this]; unfold adV vlsOk; rw [ha]; rfl
  | true =>
    have : (l.all fun x => decide (0 ≤ x ∧ x ≤ 1000000000)) = true := ha
    have ok : vlsOk l = true := by unfold vlsOk; rw [ha, decide_eq_true (show l.length ≤ 40 by omega)]; rfl
    rw [this, Bool.not_true, oif_f]
    refine (range_eq (fun (t : Int) (i : Int) => ((0 : Int), false, t, i)) l (fun x _ t k => oif (decide (IntKind.i64.wrap (t + x) > 1000000000)) (some (0, false)) (k (IntKind.i64.wrap (t + x)))) (fun t => j82_0 (d + 2) 0 false t) ?_ ?_ (by rw [fuelN_eq]; exact hl) 0).trans ?_
    · intro ag t i x hx
      have hi := (List.getElem?_eq_some_iff.1 hx).1
      simp only [l82_0, l82_0_b, ltl hx, nn, ofNat_toNat, hx, ob_s, oif_t]
      rw [wr1 (by omega)]
    · intro ag t; simp only [l82_0, l82_0_b, ltn, oif_f]
    · rw [ad_range l 0 0 (vlsOk_in ok).1 (by omega) (by omega), Int.zero_add]
      unfold adV j82_0
      rw [ok]
      by_cases hs : l.sum ≤ 1000000000
      · rw [if_pos hs, decide_eq_true hs]; rfl
      · rw [if_neg hs, decide_eq_false hs]; rfl

/-- Multiplying. -/
def muV (a b : Int) : Int × Bool := if vlOk a && (vlOk b && decide (a * b ≤ 1000000000)) then (a * b, true) else (0, false)

theorem mu_in {a b : Int} (ha : vlOk a = true) (hb : vlOk b = true) : 0 ≤ a * b ∧ a * b ≤ 1000000000000000000 := by
  simp only [vlOk, decide_eq_true_eq] at ha hb
  have k1 : 0 ≤ a * b := Int.mul_nonneg (by omega) (by omega)
  have k2 : a * b ≤ 1000000000 * b := Int.mul_le_mul_of_nonneg_right (by omega) (by omega)
  omega

theorem q_MultiplyValues {d : Nat} {a b : Int} : g84 (d + 2) a b = some (muV a b) := by
  rw [e84, q_isValue, ob_s, q_isValue, ob_s]; unfold muV
  cases ha : vlOk a with
  | false => rfl
  | true => cases hb : vlOk b with
    | false => rfl
    | true =>
      obtain ⟨k1, k2⟩ := mu_in ha hb
      rw [wr (n := a * b) (by omega) (by omega)]
      by_cases h : a * b > 1000000000
      · rw [decide_eq_true h, decide_eq_false (by omega)]; rfl
      · rw [decide_eq_false h, decide_eq_true (by omega)]; rfl

theorem q_sMultiplyValues {d : Nat} {a b : Int} : g85 (d + 3) a b = some (muV a b) := by
  rw [e85, q_nuValue2, ob_s, q_nuValue2, ob_s]; unfold muV j85_0
  cases ha : vlOk a with
  | false => rfl
  | true => cases hb : vlOk b with
    | false => rfl
    | true =>
      obtain ⟨k1, k2⟩ := mu_in ha hb
      simp only [vlOk, decide_eq_true_eq] at ha hb
      simp only [Bool.not_true, oif_f, Bool.true_and]
      rw [wr (n := a * b) (by omega) (by omega)]
      by_cases h0 : b > 0
      · obtain ⟨q1, q2⟩ := div_le_self' (a := 1000000000) (b := b) (by omega) (by omega)
        rw [decide_eq_true h0, oif_t, show (b == 0) = false by simp; omega, oif_f, Int.tdiv_eq_ediv_of_nonneg (by omega), wr (n := 1000000000 / b) (by omega) (by omega)]
        have key : a > 1000000000 / b ↔ ¬ a * b ≤ 1000000000 := by
          rw [← Int.le_ediv_iff_mul_le h0]; omega
        by_cases h : a > 1000000000 / b
        · rw [decide_eq_true h, oif_t, decide_eq_false (key.1 h)]; rfl
        · rw [decide_eq_false h, oif_f, decide_eq_true (Classical.not_not.1 (fun hh => h (key.2 hh)))]; rfl
      · have : b = 0 := by omega
        subst this
        rw [decide_eq_false h0, oif_f, Int.mul_zero]; rfl

/-- Digits, and the number of a list of them. -/
def dg (c : UInt8) : Int := if 48 ≤ c.toNat ∧ c.toNat ≤ 57 then (c.toNat : Int) - 48 else if 97 ≤ c.toNat ∧ c.toNat ≤ 102 then (c.toNat : Int) - 87 else 99

theorem dg_in (c : UInt8) : 0 ≤ dg c ∧ dg c ≤ 99 := by unfold dg; (repeat' split) <;> omega

def rdL (base most : Int) : Int → List UInt8 → Int
  | n, [] => n
  | n, c :: r => if dg c ≥ base then -1 else if n * base + dg c > most then -1 else rdL base most (n * base + dg c) r

def rdS (base most : Int) : Int → List UInt8 → Int
  | n, [] => if n > most then -1 else n
  | n, c :: r => if dg c ≥ base then -1 else if n > most then -1 else rdS base most (n * base + dg c) r

theorem rdS_over {base most : Int} {n : Int} (h : n > most) : ∀ l, rdS base most n l = -1
  | [] => by simp only [rdS]; rw [if_pos h]
  | c :: r => by simp only [rdS]; rw [if_pos h]; split <;> rfl

theorem rdS_eq {base most : Int} : ∀ (l : List UInt8) {n : Int}, n ≤ most → rdS base most n l = rdL base most n l
  | [], n, h => by simp only [rdS, rdL]; rw [if_neg (by omega)]
  | c :: r, n, h => by
    simp only [rdS, rdL]
    split
    · rfl
    · rw [if_neg (by omega)]
      by_cases h2 : n * base + dg c > most
      · rw [if_pos h2, rdS_over h2]
      · rw [if_neg h2, rdS_eq r (by omega)]

theorem rdL_in {base most : Int} (hb : 1 ≤ base) : ∀ (l : List UInt8) {n : Int}, 0 ≤ n → n ≤ most → rdL base most n l = -1 ∨ (n ≤ rdL base most n l ∧ rdL base most n l ≤ most)
  | [], n, h0, h1 => .inr ⟨Int.le_refl _, h1⟩
  | c :: r, n, h0, h1 => by
    simp only [rdL]
    split
    · exact .inl rfl
    · split
      · exact .inl rfl
      · have hd := dg_in c
        have k : n * 1 ≤ n * base := Int.mul_le_mul_of_nonneg_left hb h0
        rcases rdL_in (most := most) hb r (n := n * base + dg c) (by omega) (by omega) with h | h
        · exact .inl h
        · exact .inr (by omega)

def rcV (base most : Int) : List UInt8 → Int
  | [] => -1
  | c :: r => if c.toNat = 48 ∧ r ≠ [] then -1 else rdL base most 0 (c :: r)

theorem rcV_in {base most : Int} (hb : 1 ≤ base) (hm : 0 ≤ most) : ∀ l, -1 ≤ rcV base most l ∧ rcV base most l ≤ most
  | [] => by simp only [rcV]; omega
  | c :: r => by
    simp only [rcV]
    split
    · omega
    · have := rdL_in (base := base) (most := most) hb (c :: r) (n := 0) (by omega) hm
      omega

/-- No needless zero: the number is positive. -/
theorem rdL_pos {base most : Int} {c : UInt8} {r : List UInt8} (hb : 1 ≤ base) (hm : 0 ≤ most) (hc : c.toNat ≠ 48) : rdL base most 0 (c :: r) = -1 ∨ 1 ≤ rdL base most 0 (c :: r) := by
  simp only [rdL]
  split
  · exact .inl rfl
  · split
    · exact .inl rfl
    · have hd : 1 ≤ dg c := by unfold dg; (repeat' split) <;> omega
      rcases rdL_in (most := most) hb r (n := 0 * base + dg c) (by omega) (by omega) with h | h
      · exact .inl h
      · exact .inr (by omega)

def onR {β : Type} (no : Option β) (fin : Int → Option β) (v : Int) : Option β := if v = -1 then no else fin v

theorem nd_range {β : Type} {base most : Int} {no : Option β} {fin : Int → Option β} (hb : 1 ≤ base) (hb2 : base ≤ 16) (hm : most ≤ 1000000000) : ∀ (l : List UInt8) (i : Nat) (t : Int), 0 ≤ t →
    rangeR (fun x _ t k => oif (decide (dg x ≥ base)) no (oif (decide (t > most)) no (k (IntKind.i64.wrap (IntKind.i64.wrap (t * base) + dg x))))) (fun t => oif (decide (t > most)) no (fin t)) l i t = onR no fin (rdS base most t l)
  | [], i, t, h0 => by
    simp only [rangeR, rdS]
    by_cases h : t > most
    · rw [decide_eq_true h, oif_t, if_pos h]; rfl
    · rw [decide_eq_false h, oif_f, if_neg h]; unfold onR; rw [if_neg (by omega)]
  | c :: r, i, t, h0 => by
    simp only [rangeR, rdS]
    have hd := dg_in c
    by_cases h : dg c ≥ base
    · rw [decide_eq_true h, oif_t, if_pos h]; rfl
    rw [decide_eq_false h, oif_f, if_neg h]
    by_cases h2 : t > most
    · rw [decide_eq_true h2, oif_t, if_pos h2]; rfl
    have k1 : 0 ≤ t * base := Int.mul_nonneg h0 (by omega)
    have k2 : t * base ≤ t * 16 := Int.mul_le_mul_of_nonneg_left hb2 h0
    rw [decide_eq_false h2, oif_f, if_neg h2, wr (n := t * base) (by omega) (by omega), wr (n := t * base + dg c) (by omega) (by omega)]
    exact nd_range hb hb2 hm r (i + 1) _ (by omega)

theorem u8_lt (c : UInt8) : (c.toNat : Int) < 256 := by have := c.toNat_lt; omega

theorem q_nuDigits {d : Nat} {s : ByteArray} {base most : Int} (hb : 1 ≤ base) (hb2 : base ≤ 16) (hm0 : 0 ≤ most) (hm : most ≤ 1000000000) (hs : s.size < 4194304) : g319 (d + 1) s base most = some (rcV base most (bl s)) := by
  rw [e319, bl_eq, bl_lit []]
  simp only [bl_def]
  rw [bl_len] at hs ⊢
  unfold j319_4
  have loop : iterP (l319_0 d s base most (j319_0 d most)) fuelN (0, 0, 0) = some (rdL base most 0 (bl s)) := by
    refine (range_eq (fun (t : Int) (i : Int) => ((0 : Int), t, i)) (bl s) (fun x _ t k => oif (decide (dg x ≥ base)) (some (-1)) (oif (decide (t > most)) (some (-1)) (k (IntKind.i64.wrap (IntKind.i64.wrap (t * base) + dg x))))) (fun t => oif (decide (t > most)) (some (-1)) (some t)) ?_ ?_ (by rw [fuelN_eq]; exact hs) 0).trans ?_
    · intro ag t i x hx
      have hi := (List.getElem?_eq_some_iff.1 hx).1
      have hc := u8_lt x
      simp only [l319_0, l319_0_b, bl_def]
      rw [bl_len]
      simp only [bl_def, ltl hx, nn, ofNat_toNat, hx, ob_s, oif_t, j319_3, j319_2, j319_1]
      rw [wr1 (by omega), wr (n := (x.toNat : Int)) (by omega) (by omega), wr (n := (x.toNat : Int) - 48) (by omega) (by omega), wr (n := (x.toNat : Int) - 97) (by omega) (by omega), wr (n := (x.toNat : Int) - 97 + 10) (by omega) (by omega)]
      by_cases h1 : 48 ≤ x.toNat
      · rw [decide_eq_true (show (x.toNat : Int) ≥ 48 by omega), oif_t]
        by_cases h2 : x.toNat ≤ 57
        · have e : dg x = (x.toNat : Int) - 48 := by unfold dg; rw [if_pos ⟨h1, h2⟩]
          rw [decide_eq_true (show (x.toNat : Int) ≤ 57 by omega), oif_t, e]
        · rw [decide_eq_false (show ¬ (x.toNat : Int) ≤ 57 by omega), oif_f]
          by_cases h3 : 97 ≤ x.toNat
          · rw [decide_eq_true (show (x.toNat : Int) ≥ 97 by omega), oif_t]
            by_cases h4 : x.toNat ≤ 102
            · have e : dg x = (x.toNat : Int) - 87 := by unfold dg; rw [if_neg (by omega), if_pos ⟨h3, h4⟩]
              rw [decide_eq_true (show (x.toNat : Int) ≤ 102 by omega), oif_t, e, show (x.toNat : Int) - 97 + 10 = (x.toNat : Int) - 87 by omega]
            · have e : dg x = 99 := by unfold dg; rw [if_neg (by omega), if_neg (by omega)]
              rw [decide_eq_false (show ¬ (x.toNat : Int) ≤ 102 by omega), oif_f, e]
          · have e : dg x = 99 := by unfold dg; rw [if_neg (by omega), if_neg (by omega)]
            rw [decide_eq_false (show ¬ (x.toNat : Int) ≥ 97 by omega), oif_f, oif_f, e]
      · have e : dg x = 99 := by unfold dg; rw [if_neg (by omega), if_neg (by omega)]
        rw [decide_eq_false (show ¬ (x.toNat : Int) ≥ 48 by omega), oif_f, oif_f, decide_eq_false (show ¬ (x.toNat : Int) ≥ 97 by omega), oif_f, oif_f, e]
    · intro ag t
      simp only [l319_0, l319_0_b]
      rw [bl_len, ltn, oif_f]; rfl
    · rw [nd_range hb hb2 hm _ _ _ (Int.le_refl 0), rdS_eq _ hm0]
      unfold onR
      by_cases h : rdL base most 0 (bl s) = -1
      · rw [if_pos h, h]
      · rw [if_neg h]
  cases hL : bl s with
  | nil => rfl
  | cons c r =>
    rw [hL] at loop
    simp only [List.getElem?_cons_zero, ob_s]
    rw [decide_eq_false (by simp), oif_f]
    by_cases hc : c.toNat = 48
    · have hc2 : ((c.toNat : Int) == 48) = true := by rw [hc]; rfl
      rw [hc2, oif_t]
      cases r with
      | nil =>
        rw [decide_eq_false (by simp), oif_f, loop]
        simp [rcV]
      | cons c2 r =>
        rw [decide_eq_true (by simp; omega), oif_t]
        simp [rcV, hc]
    · have hc2 : ((c.toNat : Int) == 48) = false := by simp; omega
      rw [hc2, oif_f, oif_f, loop]
      simp [rcV, hc]

def unV2 (u most : Int) (l : List UInt8) : Int := if rcV 10 most l ≤ 0 then -1 else rcV 10 most l * u

def nrV (l : List UInt8) : Int := match l.getLast? with
  | none => -1
  | some c => if c.toNat = 109 then unV2 1000000 1000 l.dropLast else if c.toNat = 107 then unV2 1000 1000000 l.dropLast else rcV 10 1000000000 l

def toR (n : Int) : Int × Bool := if n < 0 then (0, false) else (n, true)

theorem unV2_in {u most : Int} (hm : 0 ≤ most) (h : most * u ≤ 1000000000) (hu : 1 ≤ u) (l : List UInt8) : -1 ≤ unV2 u most l ∧ unV2 u most l ≤ 1000000000 := by
  unfold unV2
  have := rcV_in (base := 10) (by omega) hm l
  split
  · omega
  · have k : rcV 10 most l * u ≤ most * u := Int.mul_le_mul_of_nonneg_right (by omega) (by omega)
    have k2 : 0 ≤ rcV 10 most l * u := Int.mul_nonneg (by omega) (by omega)
    omega

theorem nrV_in (l : List UInt8) : -1 ≤ nrV l ∧ nrV l ≤ 1000000000 := by
  unfold nrV
  split
  · omega
  · split
    · exact unV2_in (by omega) (by omega) (by omega) _
    · split
      · exact unV2_in (by omega) (by omega) (by omega) _
      · exact rcV_in (by omega) (by omega) _

def toU (u v : Int) : Int × Bool := if v = -1 then (0, false) else (v * u, true)

theorem rn_range {u most : Int} (hu : 1 ≤ u) (hum : most * u = 1000000000) (hm : 0 ≤ most) : ∀ (l : List UInt8) (i : Nat) (t : Int), 0 ≤ t → t ≤ most →
    rangeR (fun x _ t k => oif (decide (48 ≤ x.toNat ∧ x.toNat ≤ 57)) (oif (decide (IntKind.i64.wrap (IntKind.i64.wrap (IntKind.i64.wrap (10 * t) + IntKind.i64.wrap (IntKind.u8.wrap ((x.toNat : Int) - 48))) * u) > 1000000000)) (some (0, false)) (k (IntKind.i64.wrap (IntKind.i64.wrap (10 * t) + IntKind.i64.wrap (IntKind.u8.wrap ((x.toNat : Int) - 48)))))) (some (0, false))) (fun t => some (IntKind.i64.wrap (t * u), true)) l i t
      = some (toU u (rdL 10 most t l))
  | [], i, t, h0, h1 => by
    simp only [rangeR, rdL]
    have k : t * u ≤ most * u := Int.mul_le_mul_of_nonneg_right h1 (by omega)
    have k2 : 0 ≤ t * u := Int.mul_nonneg h0 (by omega)
    rw [wr (n := t * u) (by omega) (by omega)]; unfold toU; rw [if_neg (by omega)]
  | c :: r, i, t, h0, h1 => by
    simp only [rangeR, rdL]
    by_cases h : 48 ≤ c.toNat ∧ c.toNat ≤ 57
    · have e : dg c = (c.toNat : Int) - 48 := by unfold dg; rw [if_pos h]
      have hu8 : IntKind.u8.wrap ((c.toNat : Int) - 48) = (c.toNat : Int) - 48 := by
        show ((c.toNat : Int) - 48) % 256 = _
        omega
      have hmb : most ≤ 1000000000 := by
        have : most * 1 ≤ most * u := Int.mul_le_mul_of_nonneg_left hu hm
        omega
      rw [decide_eq_true h, oif_t, hu8, wr (n := (c.toNat : Int) - 48) (by omega) (by omega), wr (n := 10 * t) (by omega) (by omega), ← e, if_neg (by omega), Int.mul_comm 10 t]
      have hd : 0 ≤ dg c ∧ dg c ≤ 9 := by omega
      rw [wr (n := t * 10 + dg c) (by omega) (by omega)]
      have hub : u ≤ 1000000000 ∨ most = 0 := by
        rcases Int.lt_or_eq_of_le hm with h5 | h5
        · left
          have : 1 * u ≤ most * u := Int.mul_le_mul_of_nonneg_right (by omega) (by omega)
          omega
        · right; omega
      rcases hub with hub | hub
      · have k1 : (t * 10 + dg c) * u ≤ (most * 10 + 9) * u := Int.mul_le_mul_of_nonneg_right (by omega) (by omega)
        have k2 : (most * 10 + 9) * u = 10 * (most * u) + 9 * u := by rw [Int.add_mul, Int.mul_comm most 10, Int.mul_assoc]
        have k3 : 0 ≤ (t * 10 + dg c) * u := Int.mul_nonneg (by omega) (by omega)
        rw [wr (n := (t * 10 + dg c) * u) (by omega) (by omega)]
        have key : (t * 10 + dg c) * u > 1000000000 ↔ t * 10 + dg c > most := by
          constructor
          · intro hh
            rcases Int.lt_or_le most (t * 10 + dg c) with h6 | h6
            · exact h6
            · have := Int.mul_le_mul_of_nonneg_right h6 (show 0 ≤ u by omega); omega
          · intro hh
            have := Int.mul_le_mul_of_nonneg_right (show most + 1 ≤ t * 10 + dg c by omega) (show 0 ≤ u by omega)
            rw [Int.add_mul] at this; omega
        by_cases h7 : t * 10 + dg c > most
        · rw [decide_eq_true (key.2 h7), oif_t, if_pos h7]; rfl
        · rw [decide_eq_false (fun hh => h7 (key.1 hh)), oif_f, if_neg h7]
          exact rn_range hu hum hm r (i + 1) _ (by omega) (by omega)
      · rw [hub, Int.zero_mul] at hum; omega
    · have e : dg c ≥ 10 := by unfold dg; rw [if_neg h]; split <;> omega
      rw [decide_eq_false h, oif_f, if_pos e]; rfl

theorem q_isDigit {d : Nat} {c : UInt8} : g251 (d + 1) (c.toNat : Int) = some (decide (48 ≤ c.toNat ∧ c.toNat ≤ 57)) := by
  rw [e251]; simp only [oif_ss]; congr 1; rw [Bool.eq_iff_iff]; simp; omega

theorem rn_loop {d : Nat} {s : ByteArray} {u most : Int} (hu : 1 ≤ u) (hum : most * u = 1000000000) (hm : 0 ≤ most) (hs : s.size < 4194304) : iterP (l301_0 (d + 1) u s (j301_0 (d + 1) u)) fuelN (0, false, 0, 0) = some (toU u (rdL 10 most 0 (bl s))) := by
  rw [bl_len] at hs
  refine (range_eq (fun (t : Int) (i : Int) => ((0 : Int), false, t, i)) (bl s) (fun x _ t k => oif (decide (48 ≤ x.toNat ∧ x.toNat ≤ 57)) (oif (decide (IntKind.i64.wrap (IntKind.i64.wrap (IntKind.i64.wrap (10 * t) + IntKind.i64.wrap (IntKind.u8.wrap ((x.toNat : Int) - 48))) * u) > 1000000000)) (some (0, false)) (k (IntKind.i64.wrap (IntKind.i64.wrap (10 * t) + IntKind.i64.wrap (IntKind.u8.wrap ((x.toNat : Int) - 48)))))) (some (0, false))) (fun t => some (IntKind.i64.wrap (t * u), true)) ?_ ?_ (by rw [fuelN_eq]; exact hs) 0).trans (rn_range hu hum hm _ _ _ (Int.le_refl 0) hm)
  · intro ag t i x hx
    have hi := (List.getElem?_eq_some_iff.1 hx).1
    simp only [l301_0, l301_0_b, bl_def]
    rw [bl_len]
    simp only [bl_def, ltl hx, nn, ofNat_toNat, hx, ob_s, oif_t, q_isDigit]
    rw [wr1 (by omega)]
    cases decide (48 ≤ x.toNat ∧ x.toNat ≤ 57) <;> rfl
  · intro ag t
    simp only [l301_0, l301_0_b]
    rw [bl_len, ltn, oif_f]; rfl

theorem rn_unit {d : Nat} {s t : ByteArray} {u most : Int} (hu : 1 ≤ u) (hum : most * u = 1000000000) (hm : 0 ≤ most) (hs : t.size < 4194304) (h0 : bl s ≠ [48]) : j301_2 (d + 1) s u t = some (toR (unV2 u most (bl t))) := by
  have loop := rn_loop (d := d) hu hum hm hs
  unfold j301_2 j301_1
  rw [bl_eq, bl_eq, bl_lit [], bl_lit [48], decide_eq_false h0]
  simp only [bl_def]
  cases hL : bl t with
  | nil => rfl
  | cons c r =>
    rw [hL] at loop
    simp only [List.getElem?_cons_zero, ob_s]
    rw [decide_eq_false (by simp), oif_f]
    by_cases hc : c.toNat = 48
    · have hc2 : ((c.toNat : Int) == 48) = true := by rw [hc]; rfl
      rw [hc2, oif_t, Bool.not_false, oif_t]
      have : rcV 10 most (c :: r) ≤ 0 := by
        simp only [rcV]
        split
        · omega
        · next hh =>
          have hr : r = [] := by
            cases r with
            | nil => rfl
            | cons a b => exact absurd ⟨hc, by simp⟩ hh
          subst hr
          have hd : dg c = 0 := by unfold dg; rw [if_pos (by omega)]; omega
          simp only [rdL, hd]
          split
          · omega
          · split <;> omega
      unfold unV2 toR
      rw [if_pos this]; rfl
    · have hc2 : ((c.toNat : Int) == 48) = false := by simp; omega
      rw [hc2, oif_f, oif_f, loop]
      have hrc : rcV 10 most (c :: r) = rdL 10 most 0 (c :: r) := by
        simp only [rcV]; rw [if_neg (fun hh => hc hh.1)]
      unfold unV2 toR toU
      rw [hrc]
      rcases rdL_pos (base := 10) (most := most) (r := r) (by omega) hm hc with h | h
      · rw [h]; rfl
      · have k : 1 * u ≤ rdL 10 most 0 (c :: r) * u := Int.mul_le_mul_of_nonneg_right h (by omega)
        rw [if_neg (by omega), if_neg (by omega), if_neg (by omega)]

theorem rn_one {d : Nat} {s : ByteArray} (hs : s.size < 4194304) : j301_2 (d + 1) s 1 s = some (toR (rcV 10 1000000000 (bl s))) := by
  have loop := rn_loop (d := d) (u := 1) (most := 1000000000) (by omega) (by omega) (by omega) hs
  unfold j301_2 j301_1
  rw [bl_eq, bl_eq, bl_lit [], bl_lit [48]]
  simp only [bl_def]
  cases hL : bl s with
  | nil => rfl
  | cons c r =>
    rw [hL] at loop
    simp only [List.getElem?_cons_zero, ob_s]
    rw [decide_eq_false (show ¬ (c :: r = []) by simp), oif_f]
    have fin : toU 1 (rdL 10 1000000000 0 (c :: r)) = toR (rdL 10 1000000000 0 (c :: r)) := by
      unfold toR toU
      rcases rdL_in (base := 10) (most := 1000000000) (by omega) (c :: r) (n := 0) (by omega) (by omega) with h | h
      · rw [if_pos h, if_pos (by omega)]
      · rw [if_neg (by omega), if_neg (by omega), Int.mul_one]
    by_cases hc : c.toNat = 48
    · have hc2 : ((c.toNat : Int) == 48) = true := by rw [hc]; rfl
      have hc3 : c = 48 := by rw [← UInt8.toNat_inj]; exact hc
      rw [hc2, oif_t]
      cases r with
      | nil =>
        rw [decide_eq_true (by rw [hc3]), Bool.not_true, oif_f, loop, fin]
        simp [rcV]
      | cons a b =>
        rw [decide_eq_false (by simp), Bool.not_false, oif_t]
        simp [rcV, hc, toR]
    · have hc2 : ((c.toNat : Int) == 48) = false := by simp; omega
      rw [hc2, oif_f, oif_f, loop, fin]
      simp [rcV, hc]

theorem last_get {l : List UInt8} {c : UInt8} (h : l.getLast? = some c) : 0 < l.length ∧ l[l.length - 1]? = some c := by
  rw [List.getLast?_eq_getElem?] at h
  exact ⟨by have := (List.getElem?_eq_some_iff.1 h).1; omega, h⟩

theorem bl_init (s : ByteArray) : bl (s.extract 0 (s.size - 1)) = (bl s).dropLast := by
  rw [bl_ext, bl_len, List.drop_zero, Nat.sub_zero, List.dropLast_eq_take]

theorem not_zero {l : List UInt8} {c : UInt8} (h : l.getLast? = some c) (hc : c.toNat ≠ 48) : l ≠ [48] := fun h2 => by
  rw [h2] at h
  simp at h
  rw [← h] at hc; exact hc rfl

theorem q_ReadNumber {d : Nat} {s : ByteArray} (hs : s.size < 4194304) : g301 (d + 2) s = some (toR (nrV (bl s))) := by
  rw [e301]
  cases hl : (bl s).getLast? with
  | none =>
    have hn : bl s = [] := by simpa using hl
    rw [bl_len, hn]
    have := rn_one (d := d) hs
    rw [hn] at this
    show oif (decide (((0 : Nat) : Int) > 0)) _ _ = _
    rw [decide_eq_false (by omega), oif_f, this]; rfl
  | some c =>
    obtain ⟨h1, h2⟩ := last_get hl
    have hsz : ((s.size : Nat) : Int) - 1 = ((s.size - 1 : Nat) : Int) := by rw [bl_len]; omega
    have hb := bl_len s
    rw [wr (n := ((s.size : Nat) : Int) - 1) (by omega) (by omega), hsz]
    simp only [ofNat_toNat, nn, oif_t]
    rw [slice_t (by omega) (by omega), slice_t (by omega) (by omega), decide_eq_true (by rw [bl_len]; omega), oif_t]
    rw [bl_def, show s.size - 1 = (bl s).length - 1 by rw [bl_len], h2, ob_s, show (bl s).length - 1 = s.size - 1 by rw [bl_len]]
    have hsz2 : (s.extract 0 (s.size - 1)).size < 4194304 := by rw [ByteArray.size_extract]; omega
    unfold nrV
    rw [hl]
    simp only
    by_cases h3 : c.toNat = 107
    · rw [show ((c.toNat : Int) == 107) = true by rw [h3]; rfl, oif_t, if_neg (by omega), if_pos h3, rn_unit (u := 1000) (most := 1000000) (by omega) (by omega) (by omega) hsz2 (not_zero hl (by omega)), bl_init]
    · rw [show ((c.toNat : Int) == 107) = false by simp; omega, oif_f, if_neg h3]
      by_cases h4 : c.toNat = 109
      · rw [show ((c.toNat : Int) == 109) = true by rw [h4]; rfl, oif_t, if_pos h4, rn_unit (u := 1000000) (most := 1000) (by omega) (by omega) (by omega) hsz2 (not_zero hl (by omega)), bl_init]
      · rw [show ((c.toNat : Int) == 109) = false by simp; omega, oif_f, if_neg h4, rn_one hs]

theorem bl_last (s : ByteArray) {c : UInt8} (h : (bl s).getLast? = some c) : bl (s.extract (s.size - 1) s.size) = [c] := by
  obtain ⟨h1, h2⟩ := last_get h
  rw [bl_ext, bl_len, List.drop_eq_getElem_cons (show (bl s).length - 1 < (bl s).length by omega), List.drop_eq_nil_of_le (by omega)]
  rw [List.getElem?_eq_getElem (by omega)] at h2
  injection h2 with h2
  rw [h2, show (bl s).length - ((bl s).length - 1) = 1 by omega]; rfl

theorem q_nuRead {d : Nat} {s : ByteArray} (hs : s.size < 4194304) : g304 (d + 2) s = some (nrV (bl s)) := by
  rw [e304, q_nuUnits, ob_s]
  refine (range_eq (fun (t : Int) (i : Int) => (t, i)) [(⟨#[109]⟩ : ByteArray), (⟨#[107]⟩ : ByteArray), (⟨#[]⟩ : ByteArray)] (fun x i t k => oif (!(x.toList == (⟨#[]⟩ : ByteArray).toList)) (oif (decide (((s.size : Nat) : Int) > 0)) (oif ((s.extract (s.size - 1) s.size).toList == x.toList) (obind (g297 (d + 1) (i : Int)) fun r11 => oif (r11 == 0) none (obind (g319 (d + 1) (s.extract 0 (s.size - 1)) 10 (IntKind.i64.wrap ((1000000000 : Int).tdiv r11))) fun r12 => oif (decide (r12 ≤ 0)) (some (-1)) (obind (g297 (d + 1) (i : Int)) fun r13 => some (IntKind.i64.wrap (r12 * r13))))) (k t)) (k t)) (k t)) (j304_0 (d + 1) s) ?_ ?_ (by rw [fuelN_eq]; simp) 0).trans ?_
  · intro ag t i x hx
    have hi := (List.getElem?_eq_some_iff.1 hx).1
    simp only [List.length_cons, List.length_nil] at hi
    simp only [l304_0, l304_0_b, ltl hx, bltl hx, nn, ofNat_toNat, hx, ob_s, oif_t, oif_f, j304_1]
    rw [wr1 (by omega)]
    cases hsz : decide (((s.size : Nat) : Int) > 0) with
    | false => simp only [oif_f]
    | true =>
      simp only [decide_eq_true_eq] at hsz
      have he : ((s.size : Nat) : Int) - 1 = ((s.size - 1 : Nat) : Int) := by omega
      rw [wr (n := ((s.size : Nat) : Int) - 1) (by omega) (by omega), he]
      simp only [ofNat_toNat, nn, oif_t]
      rw [slice_t (by omega) (by omega), slice_t (by omega) (by omega)]
  · intro ag t; simp only [l304_0, l304_0_b, ltn, oif_f]
  · simp only [rangeR]
    have e0 : ((⟨#[109]⟩ : ByteArray).toList == (⟨#[]⟩ : ByteArray).toList) = false := by rw [bl_eq]; rfl
    have e1 : ((⟨#[107]⟩ : ByteArray).toList == (⟨#[]⟩ : ByteArray).toList) = false := by rw [bl_eq]; rfl
    have e2 : ((⟨#[]⟩ : ByteArray).toList == (⟨#[]⟩ : ByteArray).toList) = true := by rw [bl_eq]; rfl
    simp only [e0, e1, e2, Bool.not_true, Bool.not_false, oif_t, oif_f]
    rw [show ((0 : Nat) : Int) = 0 from rfl, show ((0 + 1 : Nat) : Int) = 1 from rfl, q_nuSize0, q_nuSize1]
    simp only [ob_s, show ((1000000 : Int) == 0) = false from rfl, show ((1000 : Int) == 0) = false from rfl, oif_f]
    rw [show (1000000000 : Int).tdiv 1000000 = 1000 from rfl, show (1000000000 : Int).tdiv 1000 = 1000000 from rfl, wr (n := (1000 : Int)) (by omega) (by omega), wr (n := (1000000 : Int)) (by omega) (by omega)]
    unfold j304_0
    rw [q_nuDigits (by omega) (by omega) (by omega) (by omega) hs, ob_s]
    cases hl : (bl s).getLast? with
    | none =>
      have hn : bl s = [] := by simpa using hl
      have hz : s.size = 0 := by rw [bl_len, hn]; rfl
      rw [hz, decide_eq_false (by omega), oif_f, oif_f]
      unfold nrV
      rw [hl, hn]; rfl
    | some c =>
      obtain ⟨h1, h2⟩ := last_get hl
      have hb := bl_len s
      have hsz2 : (s.extract 0 (s.size - 1)).size < 4194304 := by rw [ByteArray.size_extract]; omega
      rw [decide_eq_true (show ((s.size : Nat) : Int) > 0 by omega), oif_t, oif_t, bl_eq, bl_eq, bl_last s hl, bl_lit [109], bl_lit [107]]
      rw [q_nuDigits (by omega) (by omega) (by omega) (by omega) hsz2, ob_s, q_nuDigits (by omega) (by omega) (by omega) (by omega) hsz2, ob_s, bl_init]
      unfold nrV
      rw [hl]
      simp only
      have key : ∀ u most : Int, 0 ≤ most → most * u = 1000000000 → 1 ≤ u → oif (decide (rcV 10 most (bl s).dropLast ≤ 0)) (some (-1)) (some (IntKind.i64.wrap (rcV 10 most (bl s).dropLast * u))) = some (unV2 u most (bl s).dropLast) := by
        intro u most hm hum hu
        unfold unV2
        have h5 := rcV_in (base := 10) (most := most) (by omega) hm (bl s).dropLast
        by_cases h6 : rcV 10 most (bl s).dropLast ≤ 0
        · rw [decide_eq_true h6, oif_t, if_pos h6]
        · have k : rcV 10 most (bl s).dropLast * u ≤ most * u := Int.mul_le_mul_of_nonneg_right (by omega) (by omega)
          have k2 : 0 ≤ rcV 10 most (bl s).dropLast * u := Int.mul_nonneg (by omega) (by omega)
          rw [decide_eq_false h6, oif_f, if_neg h6, wr (by omega) (by omega)]
      rw [key 1000000 1000 (by omega) (by omega) (by omega), key 1000 1000000 (by omega) (by omega) (by omega)]
      by_cases h3 : c.toNat = 109
      · have hc : c = 109 := by rw [← UInt8.toNat_inj]; exact h3
        rw [if_pos h3, decide_eq_true (by rw [hc]), oif_t]
      · have hc : ¬ ([c] = [109]) := fun h => h3 (by injection h with h; rw [h]; rfl)
        rw [if_neg h3, decide_eq_false hc, oif_f]
        by_cases h4 : c.toNat = 107
        · have hc : c = 107 := by rw [← UInt8.toNat_inj]; exact h4
          rw [if_pos h4, decide_eq_true (by rw [hc]), oif_t]
        · have hc : ¬ ([c] = [107]) := fun h => h4 (by injection h with h; rw [h]; rfl)
          rw [if_neg h4, decide_eq_false hc, oif_f]

/-- Hexadecimal texts. -/
def hxB (l : List UInt8) : Bool := decide (l.take 2 = [48, 120])

def nyV (l : List UInt8) : Int := if hxB l then rcV 16 65535 (l.drop 2) else nrV l

theorem nyV_in (l : List UInt8) : -1 ≤ nyV l ∧ nyV l ≤ 1000000000 := by
  unfold nyV
  split
  · have := rcV_in (base := 16) (most := 65535) (by omega) (by omega) (l.drop 2); omega
  · exact nrV_in l

theorem hxB_cons {l : List UInt8} (h : hxB l = true) : ∃ r, l = 48 :: 120 :: r := by
  simp only [hxB, decide_eq_true_eq] at h
  match l, h with
  | a :: b :: r, h =>
    simp only [List.take_succ_cons, List.take_zero, List.cons.injEq, and_true] at h
    exact ⟨r, by rw [h.1, h.2]⟩

theorem hx_two {s : ByteArray} (h : ¬ ((s.size : Nat) : Int) ≥ 2) : hxB (bl s) = false := by
  cases hb : hxB (bl s) with
  | false => rfl
  | true =>
    obtain ⟨r, hr⟩ := hxB_cons hb
    rw [bl_len, hr] at h
    simp at h; omega

theorem hx_ext (s : ByteArray) : ((s.extract 0 2).toList == (⟨#[48, 120]⟩ : ByteArray).toList) = hxB (bl s) := by
  rw [bl_eq, bl_ext, bl_lit [48, 120], List.drop_zero]; rfl

theorem q_nuIsHex {d : Nat} {s : ByteArray} : g302 (d + 1) s = some (hxB (bl s)) := by
  rw [e302]
  by_cases h : ((s.size : Nat) : Int) ≥ 2
  · rw [decide_eq_true h, oif_t, slice_t (by omega) (by omega), hx_ext]
  · rw [decide_eq_false h, oif_f, hx_two h]

theorem q_nuAny {d : Nat} {s : ByteArray} (hs : s.size < 4194304) : g233 (d + 3) s = some (nyV (bl s)) := by
  rw [e233, q_nuIsHex, ob_s]
  unfold nyV
  cases hx : hxB (bl s) with
  | false => rw [oif_f, q_nuRead hs, ob_s]; rfl
  | true =>
    obtain ⟨r, hr⟩ := hxB_cons hx
    have h2 : 2 ≤ s.size := by rw [bl_len, hr]; simp
    have hsz : (s.extract 2 s.size).size < 4194304 := by rw [ByteArray.size_extract]; omega
    rw [oif_t, e303, q_nuIsHex, ob_s, hx, Bool.not_true, oif_f, slice_t h2 (Nat.le_refl _), q_nuDigits (by omega) (by omega) (by omega) (by omega) hsz, ob_s, ob_s, bl_ext]
    rw [List.take_of_length_le (by rw [List.length_drop]; rw [bl_len]; omega)]; rfl

theorem shl_or {n e : Int} (h0 : 0 ≤ n) (h1 : n ≤ 65535) (h2 : 0 ≤ e) (h3 : e < 16) : IntKind.i64.wrap ((BitVec.ofInt IntKind.i64.bits (IntKind.i64.wrap (n * 2 ^ (min (4 : Int).toNat IntKind.i64.bits))) ||| BitVec.ofInt IntKind.i64.bits e).toNat : Int) = n * 16 + e := by
  obtain ⟨n, rfl⟩ := Int.eq_ofNat_of_zero_le h0
  obtain ⟨e, rfl⟩ := Int.eq_ofNat_of_zero_le h2
  have e1 : (2 : Int) ^ (min (4 : Int).toNat IntKind.i64.bits) = 16 := rfl
  rw [e1, wr (n := (n : Int) * 16) (by omega) (by omega)]
  have e2 : (n : Int) * 16 = ((n * 16 : Nat) : Int) := by push_cast; rfl
  rw [e2, BitVec.ofInt_natCast, BitVec.ofInt_natCast, BitVec.toNat_or, BitVec.toNat_ofNat, BitVec.toNat_ofNat]
  have e3 : (2 : Nat) ^ IntKind.i64.bits = 18446744073709551616 := rfl
  rw [e3, Nat.mod_eq_of_lt (by omega), Nat.mod_eq_of_lt (by omega)]
  have e4 := Nat.two_pow_add_eq_or_of_lt (i := 4) (b := e) (by omega) n
  rw [show n * 16 = 2 ^ 4 * n by omega, ← e4, wr (by omega) (by omega)]; omega

theorem q_hexDigit {d : Nat} {c : UInt8} : g248 (d + 2) (c.toNat : Int) = some (if dg c ≥ 16 then -1 else dg c) := by
  have hc := c.toNat_lt
  rw [e248, q_isDigit, ob_s]
  by_cases h : 48 ≤ c.toNat ∧ c.toNat ≤ 57
  · have e : dg c = (c.toNat : Int) - 48 := by unfold dg; rw [if_pos h]
    have hu8 : IntKind.u8.wrap ((c.toNat : Int) - 48) = (c.toNat : Int) - 48 := by
      show ((c.toNat : Int) - 48) % 256 = _
      omega
    rw [decide_eq_true h, oif_t, hu8, wr (by omega) (by omega), if_neg (by omega), e]
  · rw [decide_eq_false h, oif_f]
    by_cases h2 : 97 ≤ c.toNat ∧ c.toNat ≤ 102
    · have e : dg c = (c.toNat : Int) - 87 := by unfold dg; rw [if_neg h, if_pos h2]
      have hu8 : IntKind.u8.wrap ((c.toNat : Int) - 97) = (c.toNat : Int) - 97 := by
        show ((c.toNat : Int) - 97) % 256 = _
        omega
      rw [decide_eq_true (by omega), oif_t, decide_eq_true (by omega), oif_t, hu8, wr (n := (c.toNat : Int) - 97) (by omega) (by omega), wr (by omega) (by omega), if_neg (by omega), e]
      congr 1; omega
    · have e : dg c = 99 := by unfold dg; rw [if_neg h, if_neg h2]
      rw [if_pos (by omega)]
      by_cases h3 : (c.toNat : Int) ≥ 97
      · rw [decide_eq_true h3, oif_t, decide_eq_false (by omega), oif_f]
      · rw [decide_eq_false h3, oif_f]

theorem rh_range : ∀ (l : List UInt8) (i : Nat) (t : Int), 0 ≤ t → t ≤ 65535 →
    rangeR (fun (x : UInt8) _ (t : Int) k => oif (decide ((if dg x ≥ 16 then -1 else dg x) < 0)) (some ((0 : Int), false)) (oif (decide (IntKind.i64.wrap ((BitVec.ofInt IntKind.i64.bits (IntKind.i64.wrap (t * 2 ^ (min (4 : Int).toNat IntKind.i64.bits))) ||| BitVec.ofInt IntKind.i64.bits (if dg x ≥ 16 then -1 else dg x)).toNat : Int) > 65535)) (some (0, false)) (k (IntKind.i64.wrap ((BitVec.ofInt IntKind.i64.bits (IntKind.i64.wrap (t * 2 ^ (min (4 : Int).toNat IntKind.i64.bits))) ||| BitVec.ofInt IntKind.i64.bits (if dg x ≥ 16 then -1 else dg x)).toNat : Int))))) (fun t => some (t, true)) l i t = some (toR (rdL 16 65535 t l))
  | [], i, t, h0, h1 => by
    simp only [rangeR, rdL]; unfold toR; rw [if_neg (by omega)]
  | c :: r, i, t, h0, h1 => by
    simp only [rangeR, rdL]
    have hd := dg_in c
    by_cases h : dg c ≥ 16
    · rw [if_pos h, if_pos h]; rfl
    · rw [if_neg h, if_neg h, decide_eq_false (by omega), oif_f, shl_or h0 h1 hd.1 (by omega)]
      by_cases h2 : t * 16 + dg c > 65535
      · rw [decide_eq_true h2, oif_t, if_pos h2]; rfl
      · rw [decide_eq_false h2, oif_f, if_neg h2]
        exact rh_range r (i + 1) _ (by omega) (by omega)

theorem q_ReadHex {d : Nat} {s : ByteArray} (hs : s.size < 4194304) (hx : hxB (bl s) = true) : g300 (d + 3) s = some (toR (rcV 16 65535 ((bl s).drop 2))) := by
  obtain ⟨r, hr⟩ := hxB_cons hx
  have loop : iterP (l300_0 (d + 2) s (j300_0 (d + 2))) fuelN (0, false, 0, 2) = some (toR (rdL 16 65535 0 ((bl s).drop 2))) := by
    have hs2 := hs
    rw [bl_len] at hs2
    refine (range_from (fun (t : Int) (i : Int) => ((0 : Int), false, t, i)) (bl s) (fun (x : UInt8) _ (t : Int) k => oif (decide ((if dg x ≥ 16 then -1 else dg x) < 0)) (some ((0 : Int), false)) (oif (decide (IntKind.i64.wrap ((BitVec.ofInt IntKind.i64.bits (IntKind.i64.wrap (t * 2 ^ (min (4 : Int).toNat IntKind.i64.bits))) ||| BitVec.ofInt IntKind.i64.bits (if dg x ≥ 16 then -1 else dg x)).toNat : Int) > 65535)) (some (0, false)) (k (IntKind.i64.wrap ((BitVec.ofInt IntKind.i64.bits (IntKind.i64.wrap (t * 2 ^ (min (4 : Int).toNat IntKind.i64.bits))) ||| BitVec.ofInt IntKind.i64.bits (if dg x ≥ 16 then -1 else dg x)).toNat : Int))))) (fun t => some (t, true)) ?_ ?_ fuelN 2 0 (by rw [fuelN_eq]; omega) (by rw [hr]; simp)).trans (rh_range _ _ _ (Int.le_refl 0) (by omega))
    · intro ag t i x hx
      have hi := (List.getElem?_eq_some_iff.1 hx).1
      simp only [l300_0, l300_0_b, bl_def]
      rw [bl_len]
      simp only [bl_def, ltl hx, nn, ofNat_toNat, hx, ob_s, oif_t, q_hexDigit]
      rw [wr1 (by omega)]
    · intro ag t
      simp only [l300_0, l300_0_b]
      rw [bl_len, ltn, oif_f]; rfl
  rw [e300]
  unfold j300_1
  simp only [bl_def]
  rw [bl_len]
  rw [hr] at loop ⊢
  rw [List.drop_succ_cons, List.drop_succ_cons, List.drop_zero] at loop ⊢
  simp only [List.getElem?_cons_zero, List.getElem?_cons_succ, ob_s]
  have c1 : ((((48 : UInt8).toNat : Nat) : Int) != 48) = false := rfl
  have c2 : ((((120 : UInt8).toNat : Nat) : Int) != 120) = false := rfl
  cases r with
  | nil => rw [decide_eq_true (by simp), oif_t, oif_t]; rfl
  | cons c r =>
    rw [decide_eq_false (by simp; omega), oif_f, c1, oif_f, c2, oif_f]
    simp only [List.getElem?_cons_zero, ob_s]
    by_cases hc : c.toNat = 48
    · have hc2 : ((c.toNat : Int) == 48) = true := by rw [hc]; rfl
      rw [hc2, oif_t]
      cases r with
      | nil =>
        rw [decide_eq_false (by simp), oif_f, loop]; simp [rcV]
      | cons a b =>
        rw [decide_eq_true (by simp; omega), oif_t]; simp [rcV, hc, toR]
    · have hc2 : ((c.toNat : Int) == 48) = false := by simp; omega
      rw [hc2, oif_f, oif_f, loop]; simp [rcV, hc]

theorem q_ReadAny {d : Nat} {s : ByteArray} (hs : s.size < 4194304) : g232 (d + 4) s = some (toR (nyV (bl s))) := by
  rw [e232]
  unfold nyV
  by_cases h : ((s.size : Nat) : Int) ≥ 2
  · rw [decide_eq_true h, oif_t, slice_t (by omega) (by omega), hx_ext]
    cases hx : hxB (bl s) with
    | true => rw [oif_t, q_ReadHex hs hx, ob_s]; rfl
    | false => rw [oif_f, q_ReadNumber hs, ob_s]; rfl
  · rw [decide_eq_false h, oif_f, q_ReadNumber hs, ob_s, hx_two h]; rfl

def sgI (x y : Int) : Int := if x < y then -1 else if x > y then 1 else 0

def ctV (a b : List UInt8) : Int × Bool := if nyV a < 0 ∨ nyV b < 0 then (0, false) else (sgI (nyV a) (nyV b), true)

theorem q_CompareTexts {d : Nat} {s t : ByteArray} (hs : s.size < 4194304) (ht : t.size < 4194304) : g87 (d + 5) s t = some (ctV (bl s) (bl t)) := by
  rw [e87, q_ReadAny hs, ob_s, q_ReadAny ht, ob_s]
  unfold ctV toR sgI
  by_cases h1 : nyV (bl s) < 0
  · rw [if_pos h1, if_pos (Or.inl h1)]; rfl
  · rw [if_neg h1, Bool.not_true, oif_f]
    by_cases h2 : nyV (bl t) < 0
    · rw [if_pos h2, if_pos (Or.inr h2)]; rfl
    · rw [if_neg h2, Bool.not_true, oif_f, if_neg (by omega), oif_ss, oif_ss]
      simp only [decide_eq_true_eq]
      (repeat' split) <;> rfl

theorem q_l1Sign2 {d : Nat} {x y : Int} : g213 (d + 1) (x - y) = some (sgI x y) := by
  rw [e213]; unfold sgI; simp only [oif_ss, decide_eq_true_eq]; congr 1
  by_cases h1 : x < y
  · rw [if_neg (by omega), if_pos (by omega), if_pos h1]
  · rw [if_neg h1]
    by_cases h2 : x > y
    · rw [if_pos (by omega), if_pos h2]
    · rw [if_neg (by omega), if_neg (by omega), if_neg h2]

theorem q_sCompareTexts {d : Nat} {s t : ByteArray} (hs : s.size < 4194304) (ht : t.size < 4194304) : g88 (d + 4) s t = some (ctV (bl s) (bl t)) := by
  have a1 := nyV_in (bl s)
  have a2 := nyV_in (bl t)
  rw [e88, q_nuAny hs, ob_s, q_nuAny ht, ob_s]
  unfold ctV
  by_cases h1 : nyV (bl s) < 0
  · rw [decide_eq_true h1, oif_t, if_pos (Or.inl h1)]
  · rw [decide_eq_false h1, oif_f]
    by_cases h2 : nyV (bl t) < 0
    · rw [decide_eq_true h2, oif_t, if_pos (Or.inr h2)]
    · rw [decide_eq_false h2, oif_f, if_neg (by omega), wr (by omega) (by omega), q_l1Sign2, ob_s]

theorem sgI_flip (x y : Int) : sgI y x = 0 - sgI x y := by
  unfold sgI; (repeat' split) <;> omega

theorem p_DrawScaleValue {d : Nat} {x : List Int} (hx : Bytes x) : Ok (g77 (d + 5) x) fun _ => True := by
  rw [e77]
  refine Ok.bind (p_value (CurOk.new hx) (by omega)) fun r hr => ?_
  refine Ok.bind (p_among hr.2.2 (by omega) (by simp)) fun q hq => ?_
  refine Ok.bind (p_among hq.2 (by omega) (by simp)) fun u hu => ?_
  exact Ok.bind (p_one hu.2 (by omega)) fun v hv => Ok.some trivial

theorem p_DrawAddValues {d : Nat} {x : List Int} (hx : Bytes x) : Ok (g80 (d + 5) x) fun r => r.length ≤ 100 := by
  rw [e80]
  refine Ok.bind (p_pick (CurOk.new hx) (by omega)) fun r hr => ?_
  obtain ⟨a1, a2, a3⟩ := hr
  refine iter_ok (fun k s => s.2.1 ≤ (k : Int) ∧ s.1.length + k ≤ 20 ∧ CurOk (2 + 10 * s.1.length) s.2.2) ?_ _ 20 _ (by rw [fuelN_eq]; omega) ⟨by simp only; omega, by simp, by simpa using a3⟩
  rintro k ⟨l, n, x⟩ ag ⟨h1, h2, h3⟩ hag
  simp only at h1 h2 h3
  simp only [l80_0, l80_0_b]
  refine Ok.oif (fun h => ?_) (fun h => ?_)
  · simp at h
    refine Ok.bind (p_value h3 (by omega)) fun u hu => ?_
    rw [room (by simp; omega), oif_t]
    exact hag (k - 1) _ (by omega) ⟨by simp only; rw [wr (by omega) (by omega)]; omega, by simp; omega, by simpa [Nat.mul_add, Nat.add_assoc] using hu.2.2⟩
  · unfold j80_0
    refine Ok.bind (p_one h3 (by omega)) fun u hu => ?_
    refine Ok.oif (fun h => ?_) (fun h => Ok.some (by omega))
    refine Ok.bind (p_pick hu (by omega)) fun v hv => ?_
    obtain ⟨v1, v2, v3⟩ := hv
    rw [wr (n := 40 + v.1) (by omega) (by omega), decide_eq_true (show 0 ≤ 40 + v.1 by omega), oif_t, oif_t]
    have e : (Nat.ble (40 + v.1).toNat (40 + v.1).toNat && Nat.ble ((40 + v.1).toNat * 8) roomMax) = true := by
      rw [Bool.and_eq_true, Nat.ble_eq, Nat.ble_eq]; unfold roomMax; omega
    rw [e, oif_t]
    exact Ok.some (by rw [List.length_replicate]; omega)

theorem p_DrawMultiplyValues {d : Nat} {x : List Int} (hx : Bytes x) : Ok (g83 (d + 5) x) fun _ => True := by
  rw [e83]
  refine Ok.bind (p_value (CurOk.new hx) (by omega)) fun r hr => ?_
  exact Ok.bind (p_value hr.2.2 (by omega)) fun v hv => Ok.some trivial

theorem p_DrawCompareTexts {d : Nat} {x : List Int} (hx : Bytes x) : Ok (g86 (d + 14) x) fun r => r.1.size ≤ 40 ∧ r.2.size ≤ 40 := by
  rw [e86]
  refine Ok.bind (p_value (CurOk.new hx) (by omega)) fun r hr => ?_
  refine Ok.bind (p_one hr.2.2 (by omega)) fun q hq => ?_
  have no : Ok (j86_0 (d + 13) r false q.2.1 q.2.2.1 q.2.2.2) fun r => r.1.size ≤ 40 ∧ r.2.size ≤ 40 := by
    unfold j86_0
    rw [oif_f]
    refine Ok.bind (p_numeral hq (by omega)) fun u hu => ?_
    exact Ok.bind (p_numeral hu.2 (by omega)) fun v hv => Ok.some ⟨hu.1, hv.1⟩
  refine Ok.oif (fun _ => ?_) (fun _ => no)
  rw [q_nuValue, ob_s]
  cases hv : decide (0 ≤ r.1 ∧ r.1 ≤ 1000000000) with
  | false => exact no
  | true =>
    simp only [decide_eq_true_eq] at hv
    unfold j86_0
    rw [oif_t]
    obtain ⟨fs, hf, hf1, hf2⟩ := p_nuForms (d := d + 1) hv.1 hv.2
    simp only [hf, ob_s]
    refine Ok.bind (p_of hq (by omega) hf1) fun u hu => ?_
    refine Ok.bind (p_of hu.2 (by omega) hf1) fun v hv => Ok.some ⟨?_, ?_⟩
    · have := hf2 _ hu.1; simp only; omega
    · have := hf2 _ hv.1; simp only; omega

end Go.Proofs.Ytmjhgkmiafemfaa
