/-
  What the cursor's functions and the small ones give by value.
  Conditions: the cursor has not been moved 2^62 times.
  Comparing and adding up lists of numbers; ranges.
  Conditions: the lists are shorter than the fuel.
  Texts: their elements, and the draws of texts.
  Conditions: none, but those of the cursor for the draws.
  Packets, in both packages: valid ones, flows, sizes; the draws.
  Conditions: none, but those of the cursor for the draws.
  Flows and their packets at ticks, in both packages.
  Conditions: none, but those of the cursor for the draws.
  Stable sorting: lists sorted by a key in which those of one key keep their order.
  Conditions: none.
  Stable sorting of a slice, as the library does it: runs of twenty sorted by insertion, then merged.
  Conditions: the slices are shorter than a million.
  Timed packets: lists of them, what was sent until a tick, peaks, and flows merged.
  Conditions: none, but those of the cursor for the draws.
  Nothing is given for functions outside.
  Conditions: none.
-/
import Derived.Test.YtpjlbjkeekobnaaFnMergedRes
import Derived.Test.YtpjlbjkeekobnaaPKit2
import Derived.Laws.Strings
set_option linter.all false
namespace Go.Proofs.Ytpjlbjkeekobnaa
open Go.Ev Go.Pv

theorem p_next {d m : Nat} {c : List Int × Int × Int} (hc : CurOk m c) (hm : m < 4611686018427387904) : Ok (g83 (d + 1) c) fun r => 0 ≤ r.1 ∧ r.1 < 256 ∧ CurOk (m + 1) r.2 := by
  obtain ⟨hb, h0, h1⟩ := hc
  obtain ⟨code, at', seed⟩ := c
  simp only at hb h0 h1
  have hw : IntKind.i64.wrap (at' + 1) = at' + 1 := wr (by omega) (by omega)
  rw [e83]
  have fin : ∀ n : Int, (at' < code.length → 0 ≤ n ∧ n < 256) → Ok (j83_0 d (code, at', seed) n) fun r => 0 ≤ r.1 ∧ r.1 < 256 ∧ CurOk (m + 1) r.2 := by
    intro n hn
    unfold j83_0
    simp only [hw]
    refine Ok.oif (fun h => ?_) (fun h => ?_)
    · simp only [decide_eq_true_eq] at h
      obtain ⟨a, b⟩ := hn (by omega)
      exact Ok.some ⟨a, b, hb, by simp only; omega, by simp only; omega⟩
    · exact Ok.some ⟨(seedByte _).1, (seedByte _).2, hb, by simp only; omega, by simp only; omega⟩
  refine Ok.oif (fun h => ?_) (fun h => ?_)
  · simp only [decide_eq_true_eq] at h
    refine Ok.oif (fun _ => ?_) (fun h2 => by simp only [decide_eq_false_iff_not] at h2; omega)
    have hlt : at'.toNat < code.length := by omega
    simp only
    rw [List.getElem?_eq_getElem hlt]
    have hx := hb _ (List.getElem_mem hlt)
    refine Ok.bind (Ok.some rfl) (fun a ha => ?_)
    subst ha
    exact fin _ (fun _ => by rw [wr (by omega) (by omega)]; exact hx)
  · simp only [decide_eq_false_iff_not] at h
    exact fin 0 (fun h' => absurd h' h)

theorem p_pick {d m : Nat} {c : List Int × Int × Int} {n : Int} (hc : CurOk m c) (hm : m + 1 < 4611686018427387904) : Ok (g48 (d + 2) c n) fun r => 0 ≤ r.1 ∧ (r.1 < n ∨ r.1 = 0) ∧ CurOk (m + 2) r.2 := by
  rw [e48]
  refine Ok.oif (fun h => ?_) (fun h => ?_)
  · exact Ok.some ⟨by simp, .inr rfl, hc.mono (by omega)⟩
  · simp only [decide_eq_false_iff_not] at h
    refine Ok.bind (p_next hc (by omega)) (fun r hr => ?_)
    obtain ⟨h1, h2, h3⟩ := hr
    have hn : (n == 0) = false := by simp; omega
    refine Ok.oif (fun h4 => ?_) (fun h4 => ?_)
    · refine Ok.bind (p_next h3 (by omega)) (fun q hq => ?_)
      obtain ⟨h5, h6, h7⟩ := hq
      rw [hn]
      rw [wr (n := r.1 * 256) (by omega) (by omega), wr (by omega) (by omega)]
      exact Ok.some ⟨Int.tmod_nonneg _ (by omega), .inl (Int.tmod_lt_of_pos _ (by omega)), h7.mono (by omega)⟩
    · rw [hn]
      exact Ok.some ⟨Int.tmod_nonneg _ (by omega), .inl (Int.tmod_lt_of_pos _ (by omega)), h3.mono (by omega)⟩

theorem p_among {d m : Nat} {c : List Int × Int × Int} {l : List Int} (hc : CurOk m c) (hm : m + 1 < 4611686018427387904) (hl : 0 < l.length) : Ok (g68 (d + 3) c l) fun r => r.1 ∈ l ∧ CurOk (m + 2) r.2 := by
  rw [e68]
  refine Ok.bind (p_pick hc hm) (fun r hr => ?_)
  obtain ⟨h1, h2, h3⟩ := hr
  refine Ok.oif (fun _ => ?_) (fun h => by simp only [decide_eq_false_iff_not] at h; omega)
  have hlt : r.1.toNat < l.length := by omega
  rw [List.getElem?_eq_getElem hlt]
  exact Ok.bind (Ok.some rfl) (fun a ha => by subst ha; exact Ok.some ⟨List.getElem_mem hlt, h3⟩)

theorem p_one {d m : Nat} {c : List Int × Int × Int} {n : Int} (hc : CurOk m c) (hm : m + 1 < 4611686018427387904) : Ok (g44 (d + 3) c n) fun r => CurOk (m + 2) r.2 := by
  rw [e44]
  exact Ok.bind (p_pick hc hm) (fun r hr => Ok.some hr.2.2)

theorem q_l1In {d : Nat} {x y z : Int} : g69 (d + 1) x y z = some (decide (y ≤ x ∧ x ≤ z)) := by
  rw [e69]; simp only [oif_ss]; congr 1; rw [Bool.eq_iff_iff]; simp

theorem q_l1Least {d : Nat} {x y : Int} : g75 (d + 1) x y = some (min x y) := by
  rw [e75]; simp only [oif_ss]; congr 1; split <;> simp_all <;> omega

theorem q_isTicks {d : Nat} {x : Int} : g55 (d + 1) x = some (decide (0 ≤ x ∧ x ≤ 100000)) := by
  rw [e55]; simp only [oif_ss]; congr 1; rw [Bool.eq_iff_iff]; simp

def szOk (s : Int) : Bool := decide (1 ≤ s ∧ s ≤ 1500)

theorem q_isSize {d : Nat} {x : Int} : g86 (d + 1) x = some (szOk x) := by
  rw [e86]; simp only [oif_ss]; congr 1; rw [Bool.eq_iff_iff]; simp [szOk]

theorem q_l1Most {d : Nat} {x y : Int} : g70 (d + 1) x y = some (max x y) := by
  rw [e70]; simp only [oif_ss]; congr 1; simp only [decide_eq_true_eq]; split <;> omega

theorem q_l1All {d : Nat} {l : List Int} {a b : Int} (hl : l.length < 4194304) : g89 (d + 2) l a b = some (l.all fun x => decide (a ≤ x ∧ x ≤ b)) := by
  rw [e89]
  refine (range_eq (fun (t : Bool) (i : Int) => (t, i)) l (fun x _ t k => oif (decide (a ≤ x ∧ x ≤ b)) (k t) (some false)) (j89_0 (d + 1)) ?_ ?_ (by rw [fuelN_eq]; exact hl) false).trans ?_
  · intro ag t i x hx; have hi := (List.getElem?_eq_some_iff.1 hx).1; simp only [l89_0, l89_0_b, ltl hx, bltl hx, nn, ofNat_toNat, hx, ob_s, oif_t]; rw [wr1 (by omega)]
    rw [q_l1In, ob_s]; cases decide (a ≤ x ∧ x ≤ b) <;> rfl
  · intro ag t; simp only [l89_0, l89_0_b, ltn, oif_f]
  · rw [rangeR_all (p := fun x => decide (a ≤ x ∧ x ≤ b))]; cases l.all _ <;> rfl

abbrev By := ByteArray

def bl (s : ByteArray) : List UInt8 := s.data.toList

theorem bl_len (s : ByteArray) : s.size = (bl s).length := rfl

theorem bl_def (s : ByteArray) : s.data.toList = bl s := rfl

theorem bl_app (a b : ByteArray) : bl (a ++ b) = bl a ++ bl b := by simp [bl]

theorem bl_ext (s : ByteArray) (a b : Nat) : bl (s.extract a b) = ((bl s).drop a).take (b - a) := by simp [bl]

theorem bl_lit (l : List UInt8) : bl ⟨l.toArray⟩ = l := by simp [bl]

theorem bl_inj {a b : ByteArray} : bl a = bl b ↔ a = b := by
  constructor
  · intro h
    cases a with | mk a => cases b with | mk b =>
      simp only [bl] at h
      rw [Array.toList_inj.1 h]
  · intro h; rw [h]

theorem bl_eq (a b : ByteArray) : (a.toList == b.toList) = decide (bl a = bl b) := by
  rw [ByteArray.toList_eq, ByteArray.toList_eq]
  by_cases h : bl a = bl b
  · rw [decide_eq_true h]; simpa [bl] using h
  · rw [decide_eq_false h]; simpa [bl] using h

theorem strL_len (l : List Int) : (strL l).size = l.length := by rw [bl_len]; simp [bl, strL]

theorem ble_t {a b : Nat} (h : a ≤ b) : Nat.ble a b = true := by rw [Nat.ble_eq]; exact h

theorem slice_t {α : Type} {a b n : Nat} {x y : Option α} (h1 : a ≤ b) (h2 : b ≤ n) : oif (Nat.ble a b && Nat.ble b n) x y = x := by rw [ble_t h1, ble_t h2]; rfl

theorem room2 {α : Type} {a b : Nat} {x y : Option α} (h : a + b ≤ 9223372036854775807) : oif (Nat.ble (a + b) 9223372036854775807) x y = x := by rw [ble_t h]; rfl

abbrev Pk := Int × Int × Int × Int × Int × Int

def wordOk (n : Int) : Bool := decide (0 ≤ n ∧ n ≤ 65535)

def pkOk (p : Pk) : Bool := decide (1 ≤ p.1 ∧ p.1 ≤ 100000 ∧ 0 ≤ p.2.1 ∧ p.2.1 ≤ 65535 ∧ 0 ≤ p.2.2.1 ∧ p.2.2.1 ≤ 65535 ∧ 0 ≤ p.2.2.2.1 ∧ p.2.2.2.1 ≤ 65535 ∧ 0 ≤ p.2.2.2.2.1 ∧ p.2.2.2.2.1 ≤ 65535 ∧ 1 ≤ p.2.2.2.2.2 ∧ p.2.2.2.2.2 ≤ 1500)

theorem pkOk_in {p : Pk} (h : pkOk p = true) : 1 ≤ p.1 ∧ p.1 ≤ 100000 ∧ 0 ≤ p.2.1 ∧ p.2.1 ≤ 65535 ∧ 0 ≤ p.2.2.1 ∧ p.2.2.1 ≤ 65535 ∧ 0 ≤ p.2.2.2.1 ∧ p.2.2.2.1 ≤ 65535 ∧ 0 ≤ p.2.2.2.2.1 ∧ p.2.2.2.2.1 ≤ 65535 ∧ 1 ≤ p.2.2.2.2.2 ∧ p.2.2.2.2.2 ≤ 1500 := by
  simpa [pkOk] using h

theorem q_IsPacket {d : Nat} {x : Pk} : g92 (d + 2) x = some (pkOk x) := by
  rw [e92, e101, ob_s]
  refine (range_eq (fun (t : Bool) (i : Int) => (t, i)) [x.2.1, x.2.2.1, x.2.2.2.1, x.2.2.2.2.1] (fun y _ t k => oif (wordOk y) (k t) (some false)) (j92_0 (d + 1) x) ?_ ?_ (by rw [fuelN_eq]; simp) false).trans ?_
  · intro ag t i y hy
    have hi : i < 4 := by have := (List.getElem?_eq_some_iff.1 hy).1; simpa using this
    have h4 : decide ((i : Int) < 4) = true := by simp; omega
    simp only [l92_0, l92_0_b, h4, nn, ofNat_toNat, oif_t]
    rw [hy, ob_s, wr1 (by omega)]
    unfold wordOk
    by_cases h1 : y < 0
    · rw [decide_eq_true h1, oif_t, decide_eq_false (by omega), oif_f]
    · rw [decide_eq_false h1, oif_f]
      by_cases h2 : y > 65535
      · rw [decide_eq_true h2, oif_t, decide_eq_false (by omega), oif_f]
      · rw [decide_eq_false h2, oif_f, decide_eq_true (by omega), oif_t]
  · intro ag t; rfl
  · rw [rangeR_all (p := wordOk)]
    unfold j92_0
    simp only [oif_ss]
    congr 1
    rw [Bool.eq_iff_iff]
    simp only [List.all_cons, List.all_nil, Bool.and_true, wordOk, pkOk]
    simp
    omega

theorem q_pkWord {d : Nat} {n : Int} : g102 (d + 2) n = some (wordOk n) := by
  rw [e102, q_l1In, ob_s]; rfl

theorem q_pkGood {d : Nat} {x : Pk} : g93 (d + 3) x = some (pkOk x) := by
  rw [e93]
  simp only [q_l1In, q_pkWord, ob_s, oif_ss]
  congr 1
  rw [Bool.eq_iff_iff]
  simp [wordOk, pkOk]
  omega

/-- Valid packets, in order, from an Id on. -/
def incI : Int → List Pk → Bool
  | _, [] => true
  | a, p :: r => pkOk p && (decide (a < p.1) && incI p.1 r)

def pksOk (l : List Pk) : Bool := incI 0 l && decide (((l.length : Nat) : Int) ≤ 60)

theorem incI_all : ∀ {l : List Pk} {a : Int}, incI a l = true → ∀ p ∈ l, pkOk p = true
  | [], _, _, p, hp => by simp at hp
  | q :: r, a, h, p, hp => by
    simp only [incI, Bool.and_eq_true] at h
    rcases List.mem_cons.1 hp with rfl | hp
    · exact h.1
    · exact incI_all h.2.2 p hp

theorem pksOk_in {l : List Pk} (h : pksOk l = true) : (∀ p ∈ l, pkOk p = true) ∧ l.length ≤ 60 := by
  simp only [pksOk, Bool.and_eq_true, decide_eq_true_eq] at h
  exact ⟨incI_all h.1, by omega⟩

def lastI : Int → List Pk → Int
  | a, [] => a
  | _, p :: r => lastI p.1 r

theorem inc_spec {β : Type} {fin : Bool × Int → Option β} {no : Option β} : ∀ (l : List Pk) (i : Nat) (t : Bool × Int),
    rangeR (fun x _ t k => oif (!pkOk x) no (oif (decide (x.1 ≤ t.2)) no (k (t.1, x.1)))) fin l i t = oif (incI t.2 l) (fin (t.1, lastI t.2 l)) no
  | [], i, t => rfl
  | x :: r, i, t => by
    simp only [rangeR, incI]
    cases hx : pkOk x with
    | false => rfl
    | true =>
      simp only [Bool.not_true, oif_f, Bool.true_and]
      by_cases h : x.1 ≤ t.2
      · rw [decide_eq_true h, oif_t, decide_eq_false (by omega)]; rfl
      · rw [decide_eq_false h, oif_f, decide_eq_true (by omega), Bool.true_and, inc_spec r (i + 1) (t.1, x.1)]; rfl

theorem inc_impl {β : Type} {l : List Pk} {fin : Bool → Option β} {no : Option β} : ∀ (r : List Pk) (i : Nat) (a : Int) (t : Bool), l.drop i = r → (i = 0 → a = 0) → (0 < i → ∃ y, l[i - 1]? = some y ∧ y.1 = a) →
    rangeR (fun x i t k => oif (!pkOk x) no (oif (decide ((i : Int) > 0)) (obind (l[i - 1]?) fun y => oif (decide (x.1 ≤ y.1)) no (k t)) (k t))) fin r i t = oif (incI a r) (fin t) no
  | [], i, a, t, _, _, _ => rfl
  | x :: r, i, a, t, hd, h0, h1 => by
    have hi : i < l.length := by
      rcases Nat.lt_or_ge i l.length with h | h
      · exact h
      · rw [List.drop_of_length_le h] at hd; simp at hd
    have hx : l[i]? = some x := by
      have := List.drop_eq_getElem_cons hi
      rw [hd] at this; injection this with e _; rw [List.getElem?_eq_getElem hi, ← e]
    have hd' : l.drop (i + 1) = r := by
      have := List.drop_eq_getElem_cons hi
      rw [hd] at this; injection this with _ e; exact e.symm
    have ih := inc_impl (fin := fin) (no := no) r (i + 1) x.1 t hd' (by omega) (fun _ => ⟨x, by simpa using hx, rfl⟩)
    simp only [rangeR, incI]
    cases hp : pkOk x with
    | false => rfl
    | true =>
      simp only [Bool.not_true, oif_f, Bool.true_and]
      by_cases hi0 : i = 0
      · subst hi0
        obtain rfl := h0 rfl
        have := pkOk_in hp
        rw [decide_eq_true (show (0 : Int) < x.1 by omega), Bool.true_and]
        simp only [Int.natCast_zero]
        rw [show decide ((0 : Int) > 0) = false from rfl, oif_f]
        exact ih
      · obtain ⟨y, e1, e2⟩ := h1 (by omega)
        rw [decide_eq_true (show ((i : Int) > 0) by omega), oif_t, e1, ob_s, e2]
        by_cases h : x.1 ≤ a
        · rw [decide_eq_true h, oif_t, decide_eq_false (by omega)]; rfl
        · rw [decide_eq_false h, oif_f, decide_eq_true (by omega), Bool.true_and]; exact ih

theorem sum_range {α β : Type} {f : α → Int} {fin : Int → Option β} : ∀ (l : List α) (i : Nat) (t : Int), (∀ x ∈ l, 0 ≤ f x ∧ f x ≤ 1000000) → 0 ≤ t → t + 1000000 * (l.length : Int) ≤ 9000000000000000000 →
    rangeR (fun x _ t k => k (IntKind.i64.wrap (t + f x))) fin l i t = fin (t + (l.map f).sum)
  | [], i, t, _, _, _ => by simp [rangeR]
  | x :: r, i, t, h, h0, h1 => by
    have hx := h x (by simp)
    simp only [List.length_cons] at h1
    simp only [rangeR]
    rw [wr (n := t + f x) (by omega) (by omega), sum_range r (i + 1) (t + f x) (fun y hy => h y (by simp [hy])) (by omega) (by omega)]
    simp only [List.map_cons, List.sum_cons]; congr 1; omega

def pkSz (p : Pk) : Int := p.2.2.2.2.2

def szs (l : List Pk) : Int := (l.map pkSz).sum

theorem szs_in {l : List Pk} (h : pksOk l = true) : ∀ x ∈ l, 0 ≤ pkSz x ∧ pkSz x ≤ 1000000 := fun x hx => by
  have := pkOk_in ((pksOk_in h).1 x hx); unfold pkSz; omega

theorem szs_le : ∀ l : List Pk, (∀ p ∈ l, pkOk p = true) → szs l ≤ 1500 * (l.length : Int)
  | [], _ => by simp [szs]
  | p :: r, h => by
    have h1 := pkOk_in (h p (by simp))
    have h2 := szs_le r (fun q hq => h q (by simp [hq]))
    have h3 : pkSz p ≤ 1500 := h1.2.2.2.2.2.2.2.2.2.2.2
    simp only [szs, List.map_cons, List.sum_cons, List.length_cons] at h2 ⊢
    omega

def tsV (l : List Pk) : Int × Bool := if pksOk l then (szs l, true) else (0, false)

def flOk (k : Int) : Bool := decide (1 ≤ k ∧ k ≤ 64)

def fl1 (a n : Int) : Int := (31 * a + n + 7) % 1000003

def fl3 (p : Pk) : Int := fl1 (fl1 (fl1 40503 p.2.1) p.2.2.1) p.2.2.2.1

def flV (p : Pk) (k : Int) : Int := fl3 p % k

theorem fl1_in (a n : Int) : 0 ≤ fl1 a n ∧ fl1 a n < 1000003 := ⟨Int.emod_nonneg _ (by omega), Int.emod_lt_of_pos _ (by omega)⟩

theorem fl1_raw {a n : Int} (h0 : 0 ≤ a) (h1 : a < 1000003) (h2 : 0 ≤ n) (h3 : n ≤ 65535) : (IntKind.i64.wrap ((IntKind.i64.wrap ((IntKind.i64.wrap ((31 : Int) * a)) + n)) + 7)).tmod 1000003 = fl1 a n := by
  rw [wr (n := 31 * a) (by omega) (by omega), wr (n := 31 * a + n) (by omega) (by omega), wr (by omega) (by omega), Int.tmod_eq_emod_of_nonneg (by omega)]; rfl

theorem flV_in {p : Pk} {k : Int} (h : flOk k = true) : 0 ≤ flV p k ∧ flV p k < k := by
  simp only [flOk, decide_eq_true_eq] at h
  exact ⟨Int.emod_nonneg _ (by omega), Int.emod_lt_of_pos _ (by omega)⟩

def foV (p : Pk) (k : Int) : Int × Bool := if pkOk p && flOk k then (flV p k, true) else (0, false)

/-- The sizes flow by flow. -/
def fsL (k : Int) : List Int → List Pk → List Int
  | t, [] => t
  | t, p :: r => fsL k (t.set (flV p k).toNat (t.getD (flV p k).toNat 0 + pkSz p)) r

theorem fs_range {β : Type} {k : Int} {G : Pk → Option Int} {fin : List Int → Option β} (hk : flOk k = true) (hG : ∀ p, pkOk p = true → G p = some (flV p k)) :
    ∀ (l : List Pk) (i : Nat) (t : List Int) (B : Int), t.length = k.toNat → (∀ e ∈ t, 0 ≤ e ∧ e ≤ B) → (∀ p ∈ l, pkOk p = true) → B + 1500 * (l.length : Int) ≤ 1000000000 →
    rangeR (fun x _ t kk => obind (G x) fun r8 => oif (decide (0 ≤ (r8 : Int))) (oif (Nat.blt ((r8 : Int).toNat) t.length) (obind (t[(r8 : Int).toNat]?) fun n9 => oif (decide (0 ≤ (r8 : Int))) (oif (Nat.blt ((r8 : Int).toNat) t.length) (obind (t[(r8 : Int).toNat]?) fun n10 => kk (t.set ((r8 : Int).toNat) (IntKind.i64.wrap (n9 + x.2.2.2.2.2)))) none) none) none) none) fin l i t = fin (fsL k t l)
  | [], i, t, B, _, _, _, _ => rfl
  | x :: r, i, t, B, hl, ht, hx, hB => by
    have hxp := hx x (by simp)
    obtain ⟨f1, f2⟩ := flV_in (p := x) hk
    have hlt : (flV x k).toNat < t.length := by omega
    have hg : t[(flV x k).toNat]? = some (t.getD (flV x k).toNat 0) := by rw [List.getElem?_eq_getElem hlt]; simp [List.getD, List.getElem?_eq_getElem hlt]
    have he := ht _ (List.mem_of_getElem? hg)
    have hp := pkOk_in hxp
    simp only [List.length_cons] at hB
    simp only [rangeR, hG x hxp, ob_s, decide_eq_true f1, oif_t, blt_of hlt, hg]
    rw [wr (by omega) (by omega)]
    have ih := fs_range (fin := fin) hk hG r (i + 1) (t.set (flV x k).toNat (t.getD (flV x k).toNat 0 + pkSz x)) (B + 1500) (by simpa using hl) (fun e he' => by
      rcases List.mem_or_eq_of_mem_set he' with h | h
      · have := ht e h; omega
      · rw [h]; unfold pkSz; omega) (fun p hp => hx p (by simp [hp])) (by omega)
    exact ih

theorem fsL_len {k : Int} : ∀ {l : List Pk} {t : List Int}, (fsL k t l).length = t.length
  | [], _ => rfl
  | x :: r, t => by simp only [fsL]; rw [fsL_len]; simp

theorem fsL_sum {k : Int} (hk : flOk k = true) : ∀ {l : List Pk} {t : List Int}, t.length = k.toNat → (fsL k t l).sum = t.sum + szs l
  | [], t, _ => by simp [fsL, szs]
  | x :: r, t, hl => by
    obtain ⟨f1, f2⟩ := flV_in (p := x) hk
    simp only [fsL]
    rw [fsL_sum hk (by simpa using hl), sum_set (by omega)]
    simp only [szs, List.map_cons, List.sum_cons]; omega

theorem fsL_nonneg {k : Int} : ∀ {l : List Pk} {t : List Int}, (∀ p ∈ l, pkOk p = true) → (∀ e ∈ t, 0 ≤ e) → ∀ e ∈ fsL k t l, 0 ≤ e
  | [], t, _, ht => ht
  | x :: r, t, hx, ht => by
    have hp := pkOk_in (hx x (by simp))
    simp only [fsL]
    refine fsL_nonneg (fun p hp => hx p (by simp [hp])) (fun e he => ?_)
    rcases List.mem_or_eq_of_mem_set he with h | h
    · exact ht e h
    · rw [h]
      have : 0 ≤ t.getD (flV x k).toNat 0 := by
        unfold List.getD
        cases hg : t[(flV x k).toNat]? with
        | none => simp
        | some v => simpa using ht v (List.mem_of_getElem? hg)
      unfold pkSz; omega

def fsV (l : List Pk) (k : Int) : List Int × Bool := if pksOk l && flOk k then (fsL k (List.replicate k.toNat 0) l, true) else ([], false)

def mkE (a m v : Int) : Int := IntKind.i64.wrap ((BitVec.ofInt IntKind.i64.bits (IntKind.i64.wrap ((BitVec.ofInt IntKind.i64.bits a &&& ~~~BitVec.ofInt IntKind.i64.bits m).toNat : Int)) ||| BitVec.ofInt IntKind.i64.bits (IntKind.i64.wrap ((BitVec.ofInt IntKind.i64.bits v &&& BitVec.ofInt IntKind.i64.bits m).toNat : Int))).toNat : Int)

def mkV (x : Pk) (m v : Int) : Pk × Bool := if pkOk x && (wordOk m && wordOk v) then ((x.1, x.2.1, x.2.2.1, x.2.2.2.1, mkE x.2.2.2.2.1 m v, x.2.2.2.2.2), true) else ((0, 0, 0, 0, 0, 0), false)

theorem bv_word {n : Int} (h0 : 0 ≤ n) (h1 : n ≤ 65535) : ((BitVec.ofInt 64 n).toNat : Int) = n := by
  rw [BitVec.toNat_ofInt]
  have : n % ((2 ^ 64 : Nat) : Int) = n := Int.emod_eq_of_lt h0 (by omega)
  rw [this]; omega

theorem bv_back (x : BitVec 64) : BitVec.ofInt 64 (x.toNat : Int) = x := by
  apply BitVec.eq_of_toNat_eq
  rw [BitVec.toNat_ofInt]
  have h := x.isLt
  have : ((x.toNat : Int)) % ((2 ^ 64 : Nat) : Int) = (x.toNat : Int) := Int.emod_eq_of_lt (by omega) (by omega)
  rw [this]; simp

theorem bv_and_le (x y : BitVec 64) : (x &&& y).toNat ≤ x.toNat := by rw [BitVec.toNat_and]; exact Nat.and_le_left

theorem mkE_laws {a m v : Int} (ha : wordOk a = true) (hm : wordOk m = true) (hv : wordOk v = true) :
    IntKind.i64.wrap ((BitVec.ofInt IntKind.i64.bits (mkE a m v) &&& BitVec.ofInt IntKind.i64.bits m).toNat : Int) = IntKind.i64.wrap ((BitVec.ofInt IntKind.i64.bits v &&& BitVec.ofInt IntKind.i64.bits m).toNat : Int) ∧
    IntKind.i64.wrap ((BitVec.ofInt IntKind.i64.bits (mkE a m v) &&& ~~~BitVec.ofInt IntKind.i64.bits m).toNat : Int) = IntKind.i64.wrap ((BitVec.ofInt IntKind.i64.bits a &&& ~~~BitVec.ofInt IntKind.i64.bits m).toNat : Int) := by
  simp only [wordOk, decide_eq_true_eq] at ha hm hv
  have e64 : IntKind.i64.bits = 64 := rfl
  unfold mkE
  rw [e64]
  have a1 := bv_word ha.1 ha.2
  have v1 := bv_word hv.1 hv.2
  generalize BitVec.ofInt 64 a = A at *
  generalize BitVec.ofInt 64 v = V at *
  generalize BitVec.ofInt 64 m = M at *
  have l1 := bv_and_le A (~~~M)
  have l2 := bv_and_le V M
  rw [wr (n := ((A &&& ~~~M).toNat : Int)) (by omega) (by omega), wr (n := ((V &&& M).toNat : Int)) (by omega) (by omega), bv_back, bv_back]
  have hA : A.toNat < 2 ^ 16 := by omega
  have hV : V.toNat < 2 ^ 16 := by omega
  have l3 : ((A &&& ~~~M) ||| (V &&& M)).toNat < 2 ^ 16 := by
    rw [BitVec.toNat_or]; exact Nat.or_lt_two_pow (by omega) (by omega)
  rw [wr (n := (((A &&& ~~~M) ||| (V &&& M)).toNat : Int)) (by omega) (by omega), bv_back]
  have i1 : ((A &&& ~~~M) ||| (V &&& M)) &&& M = V &&& M := by
    apply BitVec.eq_of_getLsbD_eq; intro i hi
    simp only [BitVec.getLsbD_and, BitVec.getLsbD_or, BitVec.getLsbD_not, hi, decide_true, Bool.true_and]
    cases A.getLsbD i <;> cases M.getLsbD i <;> cases V.getLsbD i <;> rfl
  have i2 : ((A &&& ~~~M) ||| (V &&& M)) &&& ~~~M = A &&& ~~~M := by
    apply BitVec.eq_of_getLsbD_eq; intro i hi
    simp only [BitVec.getLsbD_and, BitVec.getLsbD_or, BitVec.getLsbD_not, hi, decide_true, Bool.true_and]
    cases A.getLsbD i <;> cases M.getLsbD i <;> cases V.getLsbD i <;> rfl
  rw [i1, i2]
  exact ⟨by rw [wr (by omega) (by omega)], by rw [wr (by omega) (by omega)]⟩

theorem p_packet {d m : Nat} {c : List Int × Int × Int} (hc : CurOk m c) (hm : m + 40 < 4611686018427387904) : Ok (g90 (d + 4) c) fun r => CurOk (m + 16) r.2 := by
  rw [e90]
  (repeat' (first | (with_reducible refine Ok.some ?_; exact CurOk.mono (by assumption) (by omega)) | (with_reducible refine Ok.oif (fun _ => ?_) (fun _ => ?_)) | (with_reducible refine Ok.bind (p_pick (by assumption) (by omega)) (fun r hr => ?_); obtain ⟨_, _, _⟩ := hr) | (with_reducible refine Ok.bind (p_among (by assumption) (by omega) (by simp)) (fun r hr => ?_); obtain ⟨_, _⟩ := hr) | (with_reducible refine Ok.bind (p_one (by assumption) (by omega)) (fun r hr => ?_))))

theorem p_anyPacket {d m : Nat} {c : List Int × Int × Int} (hc : CurOk m c) (hm : m + 40 < 4611686018427387904) : Ok (g91 (d + 5) c) fun r => CurOk (m + 20) r.2 := by
  rw [e91]
  refine Ok.bind (p_packet hc (by omega)) (fun r hr => ?_)
  refine Ok.bind (p_pick hr (by omega)) (fun q hq => ?_)
  obtain ⟨h1, h2, h3⟩ := hq
  have fin : ∀ {a b c' e f : Int} {l : List Int} {r2 : Pk × List Int × Int × Int}, CurOk (m + 20) (l, e, f) → Ok (j91_0 (d + 4) r2 a b c' l e f) fun r => CurOk (m + 20) r.2 := fun h => by
    unfold j91_0; exact Ok.some h
  refine Ok.oif (fun _ => ?_) (fun _ => ?_)
  · refine Ok.bind (p_among h3 (by omega) (by simp)) (fun u hu => Ok.some (hu.2.mono (by omega)))
  refine Ok.oif (fun _ => ?_) (fun _ => ?_)
  · refine Ok.bind (p_among h3 (by omega) (by simp)) (fun u hu => Ok.some (hu.2.mono (by omega)))
  refine Ok.oif (fun _ => ?_) (fun _ => ?_)
  · refine Ok.bind (p_among h3 (by omega) (by simp)) (fun u hu => Ok.some (hu.2.mono (by omega)))
  refine Ok.oif (fun _ => ?_) (fun _ => ?_)
  · refine Ok.bind (p_among h3 (by omega) (by simp)) (fun u hu => fin (hu.2.mono (by omega)))
  refine Ok.oif (fun _ => ?_) (fun _ => ?_)
  · refine Ok.bind (p_among h3 (by omega) (by simp)) (fun u hu => fin (hu.2.mono (by omega)))
  refine Ok.oif (fun _ => ?_) (fun _ => ?_)
  · refine Ok.bind (p_among h3 (by omega) (by simp)) (fun u hu => fin (hu.2.mono (by omega)))
  · exact fin (h3.mono (by omega))

abbrev Fl := Int × Int × Int × Int × Int × Int × Int × Int × Int
abbrev Tm := Int × Pk

def flowOk (f : Fl) : Bool := decide (0 ≤ f.1 ∧ f.1 ≤ 1000000000 ∧ 0 ≤ f.2.1 ∧ f.2.1 ≤ 65535 ∧ 0 ≤ f.2.2.1 ∧ f.2.2.1 ≤ 65535 ∧ 0 ≤ f.2.2.2.1 ∧ f.2.2.2.1 ≤ 65535 ∧ 0 ≤ f.2.2.2.2.1 ∧ f.2.2.2.2.1 ≤ 65535 ∧ 0 ≤ f.2.2.2.2.2.1 ∧ f.2.2.2.2.2.1 ≤ 10000 ∧ 1 ≤ f.2.2.2.2.2.2.1 ∧ f.2.2.2.2.2.2.1 ≤ 500 ∧ 1 ≤ f.2.2.2.2.2.2.2.1 ∧ f.2.2.2.2.2.2.2.1 ≤ 10 ∧ 1 ≤ f.2.2.2.2.2.2.2.2 ∧ f.2.2.2.2.2.2.2.2 ≤ 1500)

theorem flowOk_in {f : Fl} (h : flowOk f = true) : 0 ≤ f.1 ∧ f.1 ≤ 1000000000 ∧ 0 ≤ f.2.1 ∧ f.2.1 ≤ 65535 ∧ 0 ≤ f.2.2.1 ∧ f.2.2.1 ≤ 65535 ∧ 0 ≤ f.2.2.2.1 ∧ f.2.2.2.1 ≤ 65535 ∧ 0 ≤ f.2.2.2.2.1 ∧ f.2.2.2.2.1 ≤ 65535 ∧ 0 ≤ f.2.2.2.2.2.1 ∧ f.2.2.2.2.2.1 ≤ 10000 ∧ 1 ≤ f.2.2.2.2.2.2.1 ∧ f.2.2.2.2.2.2.1 ≤ 500 ∧ 1 ≤ f.2.2.2.2.2.2.2.1 ∧ f.2.2.2.2.2.2.2.1 ≤ 10 ∧ 1 ≤ f.2.2.2.2.2.2.2.2 ∧ f.2.2.2.2.2.2.2.2 ≤ 1500 := by
  simpa only [flowOk, decide_eq_true_eq] using h

/-- A loop whose states are numbered. -/
theorem count_from {σ β : Type} {F : (σ → Option β) → σ → Option β} {S : Nat → σ} {N : Nat} {fin : Option β} (h1 : ∀ ag k, k < N → F ag (S k) = ag (S (k + 1))) (h2 : ∀ ag, F ag (S N) = fin) :
    ∀ (fuel r k : Nat), k + r = N → r < fuel → iterP F fuel (S k) = fin
  | 0, r, k, _, h => by omega
  | fuel + 1, 0, k, h, _ => by
    simp only [iterP]
    have : k = N := by omega
    subst this; exact h2 _
  | fuel + 1, r + 1, k, h, hf => by
    simp only [iterP]
    rw [h1 _ _ (by omega)]
    exact count_from h1 h2 fuel r (k + 1) (by omega) (by omega)

theorem count_eq {σ β : Type} {F : (σ → Option β) → σ → Option β} (S : Nat → σ) (N : Nat) {fin : Option β} (h1 : ∀ ag k, k < N → F ag (S k) = ag (S (k + 1))) (h2 : ∀ ag, F ag (S N) = fin) {fuel : Nat} (hf : N < fuel) :
    iterP F fuel (S 0) = fin := count_from h1 h2 fuel N 0 (by omega) hf

theorem nilB_same {β : Type} {n : Nat} {a b : Option β} (h : n = 0 → a = b) : nilB n a b = b := by
  cases n with
  | zero => rw [h rfl]; simp [nilB, both]
  | succ n => rfl

theorem q_cloneInts {d : Nat} {l : List Int} (hl : l.length ≤ 1000000) : g105 (d + 1) l = some l := by
  rw [e105, nilB_same (fun h => ?_), room (by simp; omega), oif_t, List.nil_append]
  rw [List.length_eq_zero_iff.1 h]; rfl

theorem q_l1Own {d : Nat} {l : List Int} (hl : l.length ≤ 1000000) : g108 (d + 1) l = some l := by
  rw [e108, room (by simp; omega), oif_t, List.nil_append]

def mx0 (a n : Int) : Int := (31 * a + n + 7) % 1000003

def mx1 (a n : Int) : Int := (mx0 a n * (mx0 a n / 32 + 3)) % 1000003

def mxV (l : List Int) : Int := (l ++ [3, 1]).foldl mx1 (7919 + (l.length : Int))

theorem mx1_in (a n : Int) : 0 ≤ mx1 a n ∧ mx1 a n < 1000003 := ⟨Int.emod_nonneg _ (by omega), Int.emod_lt_of_pos _ (by omega)⟩

theorem mxf_in : ∀ {l : List Int} {a : Int}, 0 ≤ a → a < 1000003 → 0 ≤ l.foldl mx1 a ∧ l.foldl mx1 a < 1000003
  | [], a, h0, h1 => ⟨h0, h1⟩
  | x :: r, a, _, _ => mxf_in (l := r) (mx1_in a x).1 (mx1_in a x).2

theorem mxV_in {l : List Int} (hl : l.length ≤ 1000) : 0 ≤ mxV l ∧ mxV l < 1000003 := mxf_in (by omega) (by omega)

theorem mx1_raw {a n : Int} (h0 : 0 ≤ a) (h1 : a < 1000003) (h2 : 0 ≤ n) (h3 : n ≤ 1000000000) : (IntKind.i64.wrap (((IntKind.i64.wrap ((IntKind.i64.wrap ((IntKind.i64.wrap ((31 : Int) * a)) + n)) + 7)).tmod 1000003) * (IntKind.i64.wrap ((IntKind.i64.wrap (((IntKind.i64.wrap ((IntKind.i64.wrap ((IntKind.i64.wrap ((31 : Int) * a)) + n)) + 7)).tmod 1000003).tdiv 32)) + 3)))).tmod 1000003 = mx1 a n := by
  rw [wr (n := 31 * a) (by omega) (by omega), wr (n := 31 * a + n) (by omega) (by omega), wr (n := 31 * a + n + 7) (by omega) (by omega), Int.tmod_eq_emod_of_nonneg (a := 31 * a + n + 7) (by omega)]
  have eb : (31 * a + n + 7) % 1000003 = mx0 a n := rfl
  have b1 : 0 ≤ mx0 a n := Int.emod_nonneg _ (by omega)
  have b2 : mx0 a n < 1000003 := Int.emod_lt_of_pos _ (by omega)
  rw [eb, Int.tdiv_eq_ediv_of_nonneg b1, wr (n := mx0 a n / 32) (by omega) (by omega), wr (n := mx0 a n / 32 + 3) (by omega) (by omega)]
  have k1 : 0 ≤ mx0 a n * (mx0 a n / 32 + 3) := Int.mul_nonneg b1 (by omega)
  have k2 : mx0 a n * (mx0 a n / 32 + 3) ≤ 1000003 * (mx0 a n / 32 + 3) := Int.mul_le_mul_of_nonneg_right (by omega) (by omega)
  rw [wr (n := mx0 a n * (mx0 a n / 32 + 3)) (by omega) (by omega), Int.tmod_eq_emod_of_nonneg k1]; rfl

theorem mx_range {β : Type} {fin : Int → Option β} : ∀ (l : List Int) (i : Nat) (t : Int), 0 ≤ t → t < 1000003 → (∀ x ∈ l, 0 ≤ x ∧ x ≤ 1000000000) →
    rangeR (fun x _ t kk => kk ((IntKind.i64.wrap (((IntKind.i64.wrap ((IntKind.i64.wrap ((IntKind.i64.wrap ((31 : Int) * t)) + x)) + 7)).tmod 1000003) * (IntKind.i64.wrap ((IntKind.i64.wrap (((IntKind.i64.wrap ((IntKind.i64.wrap ((IntKind.i64.wrap ((31 : Int) * t)) + x)) + 7)).tmod 1000003).tdiv 32)) + 3)))).tmod 1000003)) fin l i t = fin (l.foldl mx1 t)
  | [], i, t, _, _, _ => rfl
  | x :: r, i, t, h0, h1, hl => by
    simp only [rangeR, List.foldl_cons]
    rw [mx1_raw h0 h1 (hl x (by simp)).1 (hl x (by simp)).2]
    exact mx_range r (i + 1) _ (mx1_in t x).1 (mx1_in t x).2 (fun y hy => hl y (by simp [hy]))

theorem mx_all {l : List Int} (h : ∀ x ∈ l, 0 ≤ x ∧ x ≤ 1000000000) : ∀ x ∈ l ++ [3, 1], 0 ≤ x ∧ x ≤ 1000000000 := fun x hx => by
  simp only [List.mem_append, List.mem_cons, List.not_mem_nil, or_false] at hx
  rcases hx with hx | rfl | rfl
  · exact h x hx
  · omega
  · omega

theorem q_mixOf {d : Nat} {l : List Int} (hl : l.length ≤ 1000) (h : ∀ x ∈ l, 0 ≤ x ∧ x ≤ 1000000000) : g98 (d + 2) l = some (mxV l) := by
  rw [e98, q_cloneInts (by omega), ob_s, room (by simp; omega), oif_t, wr (n := 7919 + ((l.length : Nat) : Int)) (by omega) (by omega)]
  refine (range_eq (fun (t : Int) (i : Int) => (t, i)) (l ++ [3, 1]) (fun x _ t kk => kk ((IntKind.i64.wrap (((IntKind.i64.wrap ((IntKind.i64.wrap ((IntKind.i64.wrap ((31 : Int) * t)) + x)) + 7)).tmod 1000003) * (IntKind.i64.wrap ((IntKind.i64.wrap (((IntKind.i64.wrap ((IntKind.i64.wrap ((IntKind.i64.wrap ((31 : Int) * t)) + x)) + 7)).tmod 1000003).tdiv 32)) + 3)))).tmod 1000003)) (j98_0 (d + 1)) ?_ ?_ (by rw [fuelN_eq]; simp; omega) _).trans ?_
  · have hlen : (l ++ [3, 1]).length = l.length + 2 := by simp
    intro ag t i x hx; have hi := (List.getElem?_eq_some_iff.1 hx).1; simp only [l98_0, l98_0_b, ltl hx, bltl hx, nn, ofNat_toNat, hx, ob_s, oif_t]; rw [wr1 (by omega)]
  · intro ag t; simp only [l98_0, l98_0_b, ltn, oif_f]
  · rw [mx_range _ _ _ (by omega) (by omega) (mx_all h)]; rfl

theorem q_tfMix {d : Nat} {l : List Int} (hl : l.length ≤ 1000) (h : ∀ x ∈ l, 0 ≤ x ∧ x ≤ 1000000000) : g107 (d + 2) l = some (mxV l) := by
  rw [e107, q_l1Own (by omega), ob_s, room (by simp; omega), oif_t, wr (n := 7919 + ((l.length : Nat) : Int)) (by omega) (by omega)]
  refine (range_eq (fun (t : Int) (i : Int) => (t, i)) (l ++ [3, 1]) (fun x _ t kk => kk ((IntKind.i64.wrap (((IntKind.i64.wrap ((IntKind.i64.wrap ((IntKind.i64.wrap ((31 : Int) * t)) + x)) + 7)).tmod 1000003) * (IntKind.i64.wrap ((IntKind.i64.wrap (((IntKind.i64.wrap ((IntKind.i64.wrap ((IntKind.i64.wrap ((31 : Int) * t)) + x)) + 7)).tmod 1000003).tdiv 32)) + 3)))).tmod 1000003)) (j107_0 (d + 1)) ?_ ?_ (by rw [fuelN_eq]; simp; omega) _).trans ?_
  · have hlen : (l ++ [3, 1]).length = l.length + 2 := by simp
    intro ag t i x hx; have hi := (List.getElem?_eq_some_iff.1 hx).1; simp only [l107_0, l107_0_b, ltl hx, bltl hx, nn, ofNat_toNat, hx, ob_s, oif_t]; rw [wr1 (by omega)]
  · intro ag t; simp only [l107_0, l107_0_b, ltn, oif_f]
  · rw [mx_range _ _ _ (by omega) (by omega) (mx_all h)]; rfl

theorem q_tfBelow {d : Nat} {l : List Int} {n : Int} (hl : l.length ≤ 900) (h : ∀ x ∈ l, 0 ≤ x ∧ x ≤ 1000000000) (h1 : 1 ≤ n) (h2 : n ≤ 1000000000) : g104 (d + 3) l n = some (mxV (l ++ [n]) % n) := by
  have m := mxV_in (l := l ++ [n]) (by simp; omega)
  rw [e104, q_l1Own (by omega), ob_s, room (by simp; omega), oif_t, q_tfMix (by simp; omega) (fun x hx => by
    simp only [List.mem_append, List.mem_cons, List.not_mem_nil, or_false] at hx
    rcases hx with hx | rfl
    · exact h x hx
    · omega), ob_s, show (n == 0) = false by simp; omega, oif_f, Int.tmod_eq_emod_of_nonneg m.1]

def keysOk (l : List Int) : Bool := l.all (fun x => decide (0 ≤ x ∧ x ≤ 1000000000)) && decide (((l.length : Nat) : Int) ≤ 8)

theorem keysOk_in {l : List Int} (h : keysOk l = true) : (∀ x ∈ l, 0 ≤ x ∧ x ≤ 1000000000) ∧ l.length ≤ 8 := by
  simp only [keysOk, Bool.and_eq_true, List.all_eq_true, decide_eq_true_eq] at h
  exact ⟨h.1, by omega⟩

def moV (l : List Int) : Int × Bool := if keysOk l then (mxV l, true) else (0, false)

def nfV (l : List Int) (n : Int) : Int × Bool := if keysOk l && decide (l.length ≤ 7 ∧ 1 ≤ n ∧ n ≤ 100000) then (mxV (l ++ [n]) % n, true) else (0, false)

theorem nfV_in {l : List Int} {n : Int} (h : (nfV l n).2 = true) : 0 ≤ (nfV l n).1 ∧ (nfV l n).1 < n := by
  unfold nfV at h ⊢
  cases hc : (keysOk l && decide (l.length ≤ 7 ∧ 1 ≤ n ∧ n ≤ 100000)) with
  | false => rw [hc] at h; simp at h
  | true =>
    simp only [Bool.and_eq_true, decide_eq_true_eq] at hc
    simp only [if_true]
    exact ⟨Int.emod_nonneg _ (by omega), Int.emod_lt_of_pos _ (by omega)⟩

theorem q_IsFlow {d : Nat} {x : Fl} : g56 (d + 2) x = some (flowOk x) := by
  rw [e56]
  refine (range_eq (fun (t : Bool) (i : Int) => (t, i)) [x.2.1, x.2.2.1, x.2.2.2.1, x.2.2.2.2.1] (fun y _ t k => oif (wordOk y) (k t) (some false)) (j56_0 (d + 1) x) ?_ ?_ (by rw [fuelN_eq]; simp) false).trans ?_
  · intro ag t i y hy
    have hi : i < 4 := by have := (List.getElem?_eq_some_iff.1 hy).1; simpa using this
    have h4 : decide ((i : Int) < 4) = true := by simp; omega
    simp only [l56_0, l56_0_b, h4, nn, ofNat_toNat, oif_t]
    rw [hy, ob_s, wr1 (by omega)]
    unfold wordOk
    by_cases h1 : y < 0
    · rw [decide_eq_true h1, oif_t, decide_eq_false (by omega), oif_f]
    · rw [decide_eq_false h1, oif_f]
      by_cases h2 : y > 65535
      · rw [decide_eq_true h2, oif_t, decide_eq_false (by omega), oif_f]
      · rw [decide_eq_false h2, oif_f, decide_eq_true (by omega), oif_t]
  · intro ag t; rfl
  · rw [rangeR_all (p := wordOk)]
    unfold j56_0
    simp only [q_isSize, ob_s, oif_ss]
    congr 1
    rw [Bool.eq_iff_iff]
    simp only [List.all_cons, List.all_nil, Bool.and_true, wordOk, flowOk, szOk]
    simp
    omega

theorem q_tfGood {d : Nat} {x : Fl} : g62 (d + 3) x = some (flowOk x) := by
  rw [e62]
  simp only [q_l1In, q_l1All (show [x.2.1, x.2.2.1, x.2.2.2.1, x.2.2.2.2.1].length < 4194304 by simp), ob_s, oif_ss]
  congr 1
  rw [Bool.eq_iff_iff]
  simp [flowOk]
  omega

def gapV (f : Fl) (b : Int) : Int := 1 + mxV [f.1, b, 1, f.2.2.2.2.2.2.1] % f.2.2.2.2.2.2.1

theorem gapV_in {f : Fl} (h : flowOk f = true) (b : Int) : 1 ≤ gapV f b ∧ gapV f b ≤ f.2.2.2.2.2.2.1 ∧ f.2.2.2.2.2.2.1 ≤ 500 := by
  have hf := flowOk_in h
  have h1 := Int.emod_nonneg (mxV [f.1, b, 1, f.2.2.2.2.2.2.1]) (show f.2.2.2.2.2.2.1 ≠ 0 by omega)
  have h2 := Int.emod_lt_of_pos (mxV [f.1, b, 1, f.2.2.2.2.2.2.1]) (show 0 < f.2.2.2.2.2.2.1 by omega)
  unfold gapV; omega

theorem q_gapOf {d : Nat} {f : Fl} {b : Int} (h : flowOk f = true) (h0 : 0 ≤ b) (h1 : b ≤ 1000) : g97 (d + 3) f b = some (gapV f b) := by
  have hf := flowOk_in h
  have m := mxV_in (l := [f.1, b, 1, f.2.2.2.2.2.2.1]) (by simp)
  have g := gapV_in h b
  rw [e97, q_mixOf (by simp) (fun x hx => by
    simp only [List.mem_cons, List.not_mem_nil, or_false] at hx
    rcases hx with rfl | rfl | rfl | rfl <;> omega), ob_s, show (f.2.2.2.2.2.2.1 == 0) = false by simp; omega, oif_f, Int.tmod_eq_emod_of_nonneg m.1]
  unfold gapV at g ⊢
  rw [wr (by omega) (by omega)]

theorem q_tfGap {d : Nat} {f : Fl} {b : Int} (h : flowOk f = true) (h0 : 0 ≤ b) (h1 : b ≤ 1000) : g103 (d + 4) f b = some (gapV f b) := by
  have hf := flowOk_in h
  have g := gapV_in h b
  rw [e103, q_tfBelow (by simp) (fun x hx => by
    simp only [List.mem_cons, List.not_mem_nil, or_false] at hx
    rcases hx with rfl | rfl | rfl <;> omega) (by omega) (by omega), ob_s]
  unfold gapV at g ⊢
  simp only [List.cons_append, List.nil_append]
  rw [wr (by omega) (by omega)]

/-- The tick of a burst, and of a packet. -/
def tickA (f : Fl) : Nat → Int
  | 0 => f.2.2.2.2.2.1
  | k + 1 => tickA f k + gapV f ((k + 1 : Nat) : Int)

theorem tickA_in {f : Fl} (h : flowOk f = true) : ∀ k : Nat, 0 ≤ tickA f k ∧ tickA f k ≤ 10000 + 500 * (k : Int)
  | 0 => by have := flowOk_in h; simp only [tickA]; omega
  | k + 1 => by
    have := tickA_in h k
    have g := gapV_in h ((k + 1 : Nat) : Int)
    simp only [tickA]; omega

def burN (f : Fl) (n : Nat) : Nat := n / f.2.2.2.2.2.2.2.1.toNat

theorem burN_le {f : Fl} {n : Nat} : burN f n ≤ n := Nat.div_le_self ..

theorem burN_eq {f : Fl} (h : flowOk f = true) (n : Nat) : (n : Int).tdiv f.2.2.2.2.2.2.2.1 = (burN f n : Int) := by
  have hf := flowOk_in h
  obtain ⟨b, hb⟩ := Int.eq_ofNat_of_zero_le (show 0 ≤ f.2.2.2.2.2.2.2.1 by omega)
  unfold burN
  rw [hb, Int.toNat_natCast]; rfl

def ptS (f : Fl) (n : Int) : Int := 1 + mxV [f.1, n, 2, f.2.2.2.2.2.2.2.2] % f.2.2.2.2.2.2.2.2

def ptV (f : Fl) (n : Nat) : Tm := (tickA f (burN f n), ((n + 1 : Nat) : Int), f.2.1, f.2.2.1, f.2.2.2.1, f.2.2.2.2.1, ptS f n)

theorem ptS_in {f : Fl} (h : flowOk f = true) (n : Int) : 1 ≤ ptS f n ∧ ptS f n ≤ 1500 := by
  have hf := flowOk_in h
  have h1 := Int.emod_nonneg (mxV [f.1, n, 2, f.2.2.2.2.2.2.2.2]) (show f.2.2.2.2.2.2.2.2 ≠ 0 by omega)
  have h2 := Int.emod_lt_of_pos (mxV [f.1, n, 2, f.2.2.2.2.2.2.2.2]) (show 0 < f.2.2.2.2.2.2.2.2 by omega)
  unfold ptS; omega

theorem pt_ok {f : Fl} (h : flowOk f = true) {n : Nat} (hn : n < 60) : pkOk (ptV f n).2 = true := by
  have hf := flowOk_in h
  have hs := ptS_in h n
  unfold pkOk ptV
  rw [decide_eq_true_eq]
  refine ⟨?_, ?_, ?_, ?_, ?_, ?_, ?_, ?_, ?_, ?_, ?_, ?_⟩ <;> simp only <;> omega

theorem q_packetAt {d : Nat} {f : Fl} {n : Nat} (h : flowOk f = true) (hn : n ≤ 100) : g87 (d + 4) f n = some (ptV f n) := by
  have hf := flowOk_in h
  have hb : burN f n ≤ n := burN_le
  have hne : (f.2.2.2.2.2.2.2.1 == 0) = false := by simp; omega
  rw [e87]
  refine count_eq (F := l87_0 (d + 3) f n (j87_0 (d + 3) f n)) (fun k => (tickA f k, ((k + 1 : Nat) : Int))) (burN f n) ?_ ?_ (by rw [fuelN_eq]; omega)
  · intro ag k hk
    have ht := tickA_in h k
    have hg := gapV_in h ((k + 1 : Nat) : Int)
    simp only [l87_0, l87_0_b, hne, oif_f, burN_eq h]
    rw [wr (n := (burN f n : Int)) (by omega) (by omega), decide_eq_true (by omega), oif_t, q_gapOf h (by omega) (by omega), ob_s, wr (n := tickA f k + gapV f ((k + 1 : Nat) : Int)) (by omega) (by omega), wr1 (by omega)]
    rfl
  · intro ag
    simp only [l87_0, l87_0_b, hne, oif_f, burN_eq h]
    rw [wr (n := (burN f n : Int)) (by omega) (by omega), decide_eq_false (by omega), oif_f]
    have m := mxV_in (l := [f.1, (n : Int), 2, f.2.2.2.2.2.2.2.2]) (by simp)
    have hs := ptS_in h n
    unfold j87_0
    rw [q_mixOf (by simp) (fun x hx => by
      simp only [List.mem_cons, List.not_mem_nil, or_false] at hx
      rcases hx with rfl | rfl | rfl | rfl <;> omega), ob_s, show (f.2.2.2.2.2.2.2.2 == 0) = false by simp; omega, oif_f, Int.tmod_eq_emod_of_nonneg m.1]
    unfold ptV ptS at *
    rw [wr (n := 1 + mxV [f.1, (n : Int), 2, f.2.2.2.2.2.2.2.2] % f.2.2.2.2.2.2.2.2) (by omega) (by omega), wr1 (by omega)]

theorem q_tfPacket {d : Nat} {f : Fl} {n : Nat} (h : flowOk f = true) (hn : n ≤ 100) : g94 (d + 5) f n = some (ptV f n) := by
  have hf := flowOk_in h
  have hb : burN f n ≤ n := burN_le
  have hne : (f.2.2.2.2.2.2.2.1 == 0) = false := by simp; omega
  rw [e94]
  refine count_eq (F := l94_0 (d + 4) f n (j94_0 (d + 4) f n)) (fun k => (((k + 1 : Nat) : Int), (tickA f k, 0, 0, 0, 0, 0, 0))) (burN f n) ?_ ?_ (by rw [fuelN_eq]; omega)
  · intro ag k hk
    have ht := tickA_in h k
    have hg := gapV_in h ((k + 1 : Nat) : Int)
    simp only [l94_0, l94_0_b, hne, oif_f, burN_eq h]
    rw [wr (n := (burN f n : Int)) (by omega) (by omega), decide_eq_true (by omega), oif_t, q_tfGap h (by omega) (by omega), ob_s, wr (n := tickA f k + gapV f ((k + 1 : Nat) : Int)) (by omega) (by omega), wr1 (by omega)]
    rfl
  · intro ag
    simp only [l94_0, l94_0_b, hne, oif_f, burN_eq h]
    rw [wr (n := (burN f n : Int)) (by omega) (by omega), decide_eq_false (by omega), oif_f]
    have hs := ptS_in h n
    unfold j94_0
    rw [q_tfBelow (by simp) (fun x hx => by
      simp only [List.mem_cons, List.not_mem_nil, or_false] at hx
      rcases hx with rfl | rfl | rfl <;> omega) (by omega) (by omega), ob_s]
    unfold ptV ptS at *
    simp only [List.cons_append, List.nil_append]
    rw [wr (n := 1 + mxV [f.1, (n : Int), 2, f.2.2.2.2.2.2.2.2] % f.2.2.2.2.2.2.2.2) (by omega) (by omega), wr1 (by omega)]

def paV (f : Fl) (n : Int) : Tm × Bool := if flowOk f && decide (0 ≤ n ∧ n ≤ 59) then (ptV f n.toNat, true) else ((0, 0, 0, 0, 0, 0, 0), false)

/-- The first number at which something holds, within bounds. -/
def untN (c : Nat → Bool) (k : Nat) : Nat → Nat
  | 0 => k
  | r + 1 => if c k then k else untN c (k + 1) r

theorem untN_in {c : Nat → Bool} : ∀ (r k : Nat), k ≤ untN c k r ∧ untN c k r ≤ k + r ∧ (∀ j, k ≤ j → j < untN c k r → c j = false) ∧ (untN c k r < k + r → c (untN c k r) = true)
  | 0, k => ⟨Nat.le_refl _, Nat.le_refl _, fun j h1 h2 => by simp only [untN] at h2; omega, fun h => by simp only [untN] at h; omega⟩
  | r + 1, k => by
    simp only [untN]
    cases hc : c k with
    | true => simp only [if_true]; exact ⟨by omega, by omega, fun j h1 h2 => by omega, fun _ => hc⟩
    | false =>
      simp only [Bool.false_eq_true, if_false]
      obtain ⟨h1, h2, h3, h4⟩ := untN_in (c := c) r (k + 1)
      refine ⟨by omega, by omega, fun j h5 h6 => ?_, fun h => h4 (by omega)⟩
      rcases Nat.eq_or_lt_of_le h5 with h7 | h7
      · rw [← h7]; exact hc
      · exact h3 j (by omega) h6

def ptL (f : Fl) (k : Nat) : List Tm := (List.range k).map (ptV f)

theorem ptL_len {f : Fl} {k : Nat} : (ptL f k).length = k := by simp [ptL]

theorem ptL_succ {f : Fl} {k : Nat} : ptL f (k + 1) = ptL f k ++ [ptV f k] := by simp [ptL, List.range_succ]

theorem ptL_get {f : Fl} {k i : Nat} (h : i < k) : (ptL f k)[i]? = some (ptV f i) := by simp [ptL, h]

def untK (f : Fl) (t : Int) : Nat := untN (fun k => decide ((ptV f k).1 > t)) 0 60

theorem q_flowUntil {d : Nat} {f : Fl} {t : Int} (h : flowOk f = true) : g57 (d + 5) f t = some (ptL f (untK f t)) := by
  obtain ⟨h1, h2, h3, h4⟩ := untN_in (c := fun k => decide ((ptV f k).1 > t)) 60 0
  rw [e57]
  refine count_eq (F := l57_0 (d + 4) f t (j57_0 (d + 4))) (fun k => (ptL f k, (k : Int))) (untK f t) ?_ ?_ (by rw [fuelN_eq]; unfold untK; omega)
  · intro ag k hk
    have hk2 := h3 k (by omega) hk
    simp only [l57_0, l57_0_b]
    unfold untK at hk
    rw [decide_eq_true (show (k : Int) < 60 by omega), oif_t, q_packetAt h (by omega), ob_s, hk2, oif_f, room (by rw [ptL_len]; simp; omega), oif_t, wr1 (by omega), ptL_succ]
  · intro ag
    simp only [l57_0, l57_0_b]
    by_cases h5 : untK f t < 60
    · have h6 := h4 (by unfold untK at h5; omega)
      change decide ((ptV f (untK f t)).1 > t) = true at h6
      rw [decide_eq_true (show (untK f t : Int) < 60 by omega), oif_t, q_packetAt h (by omega), ob_s, h6, oif_t]; rfl
    · rw [decide_eq_false (show ¬ (untK f t : Int) < 60 by omega), oif_f]; rfl

theorem q_tfUntil {d : Nat} {f : Fl} {t : Int} (h : flowOk f = true) : g71 (d + 6) f t = some (ptL f (untK f t)) := by
  obtain ⟨h1, h2, h3, h4⟩ := untN_in (c := fun k => decide ((ptV f k).1 > t)) 60 0
  rw [e71]
  refine count_eq (F := l71_0 (d + 5) f t (j71_0 (d + 5))) (fun k => (ptL f k, (k : Int))) (untK f t) ?_ ?_ (by rw [fuelN_eq]; unfold untK; omega)
  · intro ag k hk
    have hk2 := h3 k (by omega) hk
    simp only [l71_0, l71_0_b]
    unfold untK at hk
    rw [decide_eq_true (show (k : Int) < 60 by omega), oif_t, q_tfPacket h (by omega), ob_s, hk2, oif_f, room (by rw [ptL_len]; simp; omega), oif_t, wr1 (by omega), ptL_succ]
  · intro ag
    simp only [l71_0, l71_0_b]
    by_cases h5 : untK f t < 60
    · have h6 := h4 (by unfold untK at h5; omega)
      change decide ((ptV f (untK f t)).1 > t) = true at h6
      rw [decide_eq_true (show (untK f t : Int) < 60 by omega), oif_t, q_tfPacket h (by omega), ob_s, h6, oif_t]; rfl
    · rw [decide_eq_false (show ¬ (untK f t : Int) < 60 by omega), oif_f]; rfl

def tkOk (n : Int) : Bool := decide (0 ≤ n ∧ n ≤ 100000)

def fuV (f : Fl) (t : Int) : List Tm × Bool := if flowOk f && tkOk t then (ptL f (untK f t), true) else ([], false)

theorem q_tfTick {d : Nat} {n : Int} : g63 (d + 2) n = some (tkOk n) := by rw [e63, q_l1In, ob_s]; rfl

theorem q_FlowUntil {d : Nat} {f : Fl} {t : Int} : g29 (d + 6) f t = some (fuV f t) := by
  rw [e29, q_IsFlow, ob_s, q_isTicks, ob_s]; unfold fuV tkOk
  cases h : flowOk f with
  | false => rfl
  | true => cases h2 : decide (0 ≤ t ∧ t ≤ 100000) with
    | false => rfl
    | true => rw [q_flowUntil h]; rfl

theorem q_sFlowUntil {d : Nat} {f : Fl} {t : Int} : g30 (d + 7) f t = some (fuV f t) := by
  rw [e30, q_tfGood, ob_s, q_tfTick, ob_s]; unfold fuV
  cases h : flowOk f with
  | false => rfl
  | true => cases h2 : tkOk t with
    | false => rfl
    | true => rw [q_tfUntil h]; rfl

def gapL (f : Fl) (k : Nat) : List Int := (List.range k).map fun b => gapV f ((b + 1 : Nat) : Int)

theorem gapL_len {f : Fl} {k : Nat} : (gapL f k).length = k := by simp [gapL]

theorem gapL_succ {f : Fl} {k : Nat} : gapL f (k + 1) = gapL f k ++ [gapV f ((k + 1 : Nat) : Int)] := by simp [gapL, List.range_succ]

def goV (f : Fl) (n : Int) : List Int × Bool := if flowOk f && decide (0 ≤ n ∧ n ≤ 40) then (gapL f n.toNat, true) else ([], false)

def shF (f : Fl) (t : Int) : Fl := (f.1, f.2.1, f.2.2.1, f.2.2.2.1, f.2.2.2.2.1, f.2.2.2.2.2.1 + t, f.2.2.2.2.2.2)

def sfV (f : Fl) (t : Int) : Fl × Bool := if flowOk f && (tkOk t && decide (f.2.2.2.2.2.1 + t ≤ 10000)) then (shF f t, true) else ((0, 0, 0, 0, 0, 0, 0, 0, 0), false)

theorem shF_ok {f : Fl} {t : Int} (h : flowOk f = true) (ht : tkOk t = true) : flowOk (shF f t) = decide (f.2.2.2.2.2.1 + t ≤ 10000) := by
  have hf := flowOk_in h
  simp only [tkOk, decide_eq_true_eq] at ht
  rw [Bool.eq_iff_iff, decide_eq_true_eq]
  constructor
  · intro hh
    have h2 := flowOk_in hh
    simp only [shF] at h2; omega
  · intro hh
    unfold flowOk shF
    rw [decide_eq_true_eq]
    refine ⟨?_, ?_, ?_, ?_, ?_, ?_, ?_, ?_, ?_, ?_, ?_, ?_, ?_, ?_, ?_, ?_, ?_, ?_⟩ <;> simp only <;> omega

theorem p_flow {d m : Nat} {c : List Int × Int × Int} (hc : CurOk m c) (hm : m + 40 < 4611686018427387904) : Ok (g53 (d + 4) c) fun r => CurOk (m + 24) r.2 := by
  rw [e53]; unfold j53_0
  (repeat' (first | (with_reducible refine Ok.some ?_; exact CurOk.mono (by assumption) (by omega)) | (with_reducible refine Ok.oif (fun _ => ?_) (fun _ => ?_)) | (with_reducible refine Ok.bind (p_pick (by assumption) (by omega)) (fun r hr => ?_); obtain ⟨_, _, _⟩ := hr) | (with_reducible refine Ok.bind (p_among (by assumption) (by omega) (by simp)) (fun r hr => ?_); obtain ⟨_, _⟩ := hr) | (with_reducible refine Ok.bind (p_one (by assumption) (by omega)) (fun r hr => ?_))))

theorem p_tick {d m : Nat} {c : List Int × Int × Int} (hc : CurOk m c) (hm : m + 40 < 4611686018427387904) : Ok (g54 (d + 4) c) fun r => CurOk (m + 8) r.2 := by
  rw [e54]
  (repeat' (first | (with_reducible refine Ok.some ?_; exact CurOk.mono (by assumption) (by omega)) | (with_reducible refine Ok.oif (fun _ => ?_) (fun _ => ?_)) | (with_reducible refine Ok.bind (p_pick (by assumption) (by omega)) (fun r hr => ?_); obtain ⟨_, _, _⟩ := hr) | (with_reducible refine Ok.bind (p_among (by assumption) (by omega) (by simp)) (fun r hr => ?_); obtain ⟨_, _⟩ := hr) | (with_reducible refine Ok.bind (p_one (by assumption) (by omega)) (fun r hr => ?_))))

def Srt {α : Type} (key : α → Int) (l : List α) : Prop := l.Pairwise fun x y => key x ≤ key y

def Kf {α : Type} (key : α → Int) (k : Int) (l : List α) : List α := l.filter fun x => decide (key x = k)
structure Stb {α : Type} (key : α → Int) (l r : List α) : Prop where
  srt : Srt key r
  fl : ∀ k, Kf key k r = Kf key k l
  perm : r.Perm l

theorem Kf_app {α : Type} {key : α → Int} {k : Int} (a b : List α) : Kf key k (a ++ b) = Kf key k a ++ Kf key k b := List.filter_append ..

theorem Kf_cons {α : Type} {key : α → Int} {k : Int} (x : α) (b : List α) : Kf key k (x :: b) = Kf key k [x] ++ Kf key k b := Kf_app [x] b

theorem Kf_no {α : Type} {key : α → Int} {k : Int} {a : List α} (h : ∀ x ∈ a, key x ≠ k) : Kf key k a = [] := by
  unfold Kf; rw [List.filter_eq_nil_iff]; intro x hx; simpa using h x hx

theorem Kf_mem {α : Type} {key : α → Int} {k : Int} {a : List α} {x : α} : x ∈ Kf key k a ↔ x ∈ a ∧ key x = k := by
  unfold Kf; simp [List.mem_filter]

/-- Two lists of which the one lies below the other change places. -/
theorem Kf_swap {α : Type} {key : α → Int} {k : Int} {a b : List α} (h : ∀ x ∈ b, ∀ y ∈ a, key x < key y) : Kf key k (b ++ a) = Kf key k (a ++ b) := by
  rw [Kf_app, Kf_app]
  by_cases hb : ∃ x ∈ b, key x = k
  · obtain ⟨x, hx, hk⟩ := hb
    have : Kf key k a = [] := Kf_no fun y hy e => by have := h x hx y hy; omega
    rw [this]; simp
  · have : Kf key k b = [] := Kf_no fun y hy e => hb ⟨y, hy, e⟩
    rw [this]; simp

theorem Stb.self {α : Type} {key : α → Int} {l : List α} (h : Srt key l) : Stb key l l := ⟨h, fun _ => rfl, List.Perm.refl _⟩

theorem Stb.trans {α : Type} {key : α → Int} {x y r : List α} (h : Stb key y r) (hf : ∀ k, Kf key k y = Kf key k x) (hp : y.Perm x) : Stb key x r :=
  ⟨h.srt, fun k => (h.fl k).trans (hf k), h.perm.trans hp⟩

theorem Stb.len {α : Type} {key : α → Int} {x r : List α} (h : Stb key x r) : r.length = x.length := h.perm.length_eq

theorem Stb.mem {α : Type} {key : α → Int} {x r : List α} (h : Stb key x r) {z : α} : z ∈ r ↔ z ∈ x := h.perm.mem_iff

theorem Stb.cat {α : Type} {key : α → Int} {x1 x2 r1 r2 : List α} (h1 : Stb key x1 r1) (h2 : Stb key x2 r2) (h : ∀ a ∈ x1, ∀ b ∈ x2, key a ≤ key b) : Stb key (x1 ++ x2) (r1 ++ r2) := by
  refine ⟨?_, fun k => by rw [Kf_app, Kf_app, h1.fl, h2.fl], h1.perm.append h2.perm⟩
  unfold Srt
  rw [List.pairwise_append]
  exact ⟨h1.srt, h2.srt, fun a ha b hb => h a (h1.mem.1 ha) b (h2.mem.1 hb)⟩

theorem Stb.ins {α : Type} {key : α → Int} {x s1 s2 : List α} {y : α} (h : Stb key x (s1 ++ s2)) (h1 : ∀ a ∈ s1, key a ≤ key y) (h2 : ∀ a ∈ s2, key y < key a) : Stb key (x ++ [y]) (s1 ++ y :: s2) := by
  have hs := h.srt
  unfold Srt at hs
  rw [List.pairwise_append] at hs
  obtain ⟨q1, q2, q3⟩ := hs
  refine ⟨?_, fun k => ?_, ?_⟩
  · unfold Srt
    rw [List.pairwise_append]
    refine ⟨q1, List.pairwise_cons.2 ⟨fun a ha => Int.le_of_lt (h2 a ha), q2⟩, fun a ha b hb => ?_⟩
    rcases List.mem_cons.1 hb with rfl | hb
    · exact h1 a ha
    · exact q3 a ha b hb
  · have := h.fl k
    rw [Kf_app] at this
    rw [Kf_app, Kf_cons, Kf_app, ← this, List.append_assoc]
    congr 1
    have e := Kf_swap (key := key) (k := k) (a := s2) (b := [y]) (fun a ha b hb => by simp at ha; subst ha; exact h2 b hb)
    rw [Kf_app, Kf_app] at e; exact e
  · refine List.perm_middle.trans ?_
    exact ((List.Perm.cons y h.perm).trans (List.perm_append_singleton y x).symm)

theorem Srt.left {α : Type} {key : α → Int} {a b : List α} (h : Srt key (a ++ b)) : Srt key a := (List.pairwise_append.1 h).1

theorem Srt.right {α : Type} {key : α → Int} {a b : List α} (h : Srt key (a ++ b)) : Srt key b := (List.pairwise_append.1 h).2.1

theorem Srt.across {α : Type} {key : α → Int} {a b : List α} (h : Srt key (a ++ b)) : ∀ x ∈ a, ∀ y ∈ b, key x ≤ key y := (List.pairwise_append.1 h).2.2

theorem Srt.one {α : Type} {key : α → Int} (x : α) : Srt key [x] := List.pairwise_singleton ..

theorem Srt.get {α : Type} {key : α → Int} {l : List α} (h : Srt key l) {i j : Nat} {x y : α} (hij : i ≤ j) (hx : l[i]? = some x) (hy : l[j]? = some y) : key x ≤ key y := by
  rcases Nat.eq_or_lt_of_le hij with rfl | hlt
  · rw [hx] at hy; injection hy with hy; subst hy; exact Int.le_refl _
  · obtain ⟨hi, rfl⟩ := List.getElem?_eq_some_iff.1 hx
    obtain ⟨hj, rfl⟩ := List.getElem?_eq_some_iff.1 hy
    exact List.pairwise_iff_getElem.1 h i j hi hj hlt

/-- Sorted lists that hold the same of each key are the same. -/
theorem Srt.uniq {α : Type} {key : α → Int} : ∀ {r q : List α}, Srt key r → Srt key q → (∀ k, Kf key k r = Kf key k q) → r = q
  | [], [], _, _, _ => rfl
  | [], y :: q, _, _, h => by
    have := h (key y)
    simp [Kf] at this
  | x :: r, [], _, _, h => by
    have := h (key x)
    simp [Kf] at this
  | x :: r, y :: q, hr, hq, h => by
    have hr' := List.pairwise_cons.1 hr
    have hq' := List.pairwise_cons.1 hq
    have e1 : key x ≤ key y := by
      have hy : y ∈ Kf key (key y) (x :: r) := by rw [h]; exact Kf_mem.2 ⟨by simp, rfl⟩
      rcases List.mem_cons.1 (Kf_mem.1 hy).1 with e | e
      · rw [e]; exact Int.le_refl _
      · exact hr'.1 y e
    have e2 : key y ≤ key x := by
      have hx : x ∈ Kf key (key x) (y :: q) := by rw [← h]; exact Kf_mem.2 ⟨by simp, rfl⟩
      rcases List.mem_cons.1 (Kf_mem.1 hx).1 with e | e
      · rw [e]; exact Int.le_refl _
      · exact hq'.1 x e
    have e3 : key x = key y := by omega
    have h0 := h (key x)
    have hx : x = y := by
      unfold Kf at h0
      rw [List.filter_cons_of_pos (by simp), List.filter_cons_of_pos (by simp [e3])] at h0
      injection h0
    subst hx
    congr 1
    refine Srt.uniq hr'.2 hq'.2 fun k => ?_
    have := h k
    rw [Kf_cons, Kf_cons (b := q)] at this
    exact List.append_cancel_left this

theorem Stb.uniq {α : Type} {key : α → Int} {l r q : List α} (h : Stb key l r) (g : Stb key l q) : r = q :=
  h.srt.uniq g.srt fun k => (h.fl k).trans (g.fl k).symm

/-- Places of lists. -/
theorem at_mid {α : Type} {p s : List α} {u : α} {i : Nat} (h : i = p.length) : (p ++ u :: s)[i]? = some u := by
  subst h; simp

theorem swap_at {α : Type} {p q s : List α} {u v : α} : ((p ++ u :: (q ++ v :: s)).set p.length v).set (p.length + 1 + q.length) u = p ++ v :: (q ++ u :: s) := by
  rw [List.set_append_right _ _ (Nat.le_refl _), Nat.sub_self, List.set_cons_zero, List.set_append_right _ _ (by omega)]
  rw [show p.length + 1 + q.length - p.length = q.length + 1 by omega, List.set_cons_succ, List.set_append_right _ _ (Nat.le_refl _), Nat.sub_self, List.set_cons_zero]

theorem swap_ta {α : Type} {p q s : List α} {u v : α} : ((p ++ u :: (q ++ v :: s)).set (p.length + 1 + q.length) u).set p.length v = p ++ v :: (q ++ u :: s) := by
  rw [List.set_comm _ _ (by omega)]; exact swap_at

theorem swap_seq {α β : Type} {l : List α} {i j : Nat} {u v : α} (hi : l[i]? = some u) (hj : l[j]? = some v) (K : List α → Option β) :
    oif (decide (0 ≤ (j : Int))) (oif (Nat.blt ((j : Int).toNat) l.length) (obind (l[(j : Int).toNat]?) fun x9 => oif (decide (0 ≤ (i : Int))) (oif (Nat.blt ((i : Int).toNat) l.length) (obind (l[(i : Int).toNat]?) fun x10 =>
      oif (decide (0 ≤ (i : Int))) (oif (Nat.blt ((i : Int).toNat) l.length) (obind (l[(i : Int).toNat]?) fun x11 => oif (decide (0 ≤ (j : Int))) (oif (Nat.blt ((j : Int).toNat) ((l.set ((i : Int).toNat) x9).length)) (obind ((l.set ((i : Int).toNat) x9)[(j : Int).toNat]?) fun x12 =>
        K ((l.set ((i : Int).toNat) x9).set ((j : Int).toNat) x10)) none) none) none) none) none) none) none) none = K ((l.set i v).set j u) := by
  have h1 := (List.getElem?_eq_some_iff.1 hi).1
  have h2 := (List.getElem?_eq_some_iff.1 hj).1
  have h3 : ∃ z, (l.set i v)[j]? = some z := ⟨(l.set i v)[j]'(by simpa using h2), List.getElem?_eq_getElem _⟩
  obtain ⟨z, h3⟩ := h3
  have b1 : Nat.blt i l.length = true := Nat.ble_eq_true_of_le h1
  have b2 : Nat.blt j l.length = true := Nat.ble_eq_true_of_le h2
  have b3 : Nat.blt j (l.set i v).length = true := by rw [List.length_set]; exact b2
  have p1 : decide (0 ≤ (i : Int)) = true := decide_eq_true (by omega)
  have p2 : decide (0 ≤ (j : Int)) = true := decide_eq_true (by omega)
  simp only [Int.toNat_natCast, p1, p2, b1, b2, hi, hj, oif_t, ob_s, b3, h3]

theorem swap_ok {α β : Type} {l : List α} {i j : Nat} {u v : α} {Q : β → Prop} (hi : l[i]? = some u) (hj : l[j]? = some v) (K : List α → Option β) (h : Ok (K ((l.set i v).set j u)) Q) :
    Ok (oif (decide (0 ≤ (j : Int))) (oif (Nat.blt ((j : Int).toNat) l.length) (obind (l[(j : Int).toNat]?) fun x9 => oif (decide (0 ≤ (i : Int))) (oif (Nat.blt ((i : Int).toNat) l.length) (obind (l[(i : Int).toNat]?) fun x10 =>
      oif (decide (0 ≤ (i : Int))) (oif (Nat.blt ((i : Int).toNat) l.length) (obind (l[(i : Int).toNat]?) fun x11 => oif (decide (0 ≤ (j : Int))) (oif (Nat.blt ((j : Int).toNat) ((l.set ((i : Int).toNat) x9).length)) (obind ((l.set ((i : Int).toNat) x9)[(j : Int).toNat]?) fun x12 =>
        K ((l.set ((i : Int).toNat) x9).set ((j : Int).toNat) x10)) none) none) none) none) none) none) none) none) Q := by rw [swap_seq hi hj K]; exact h

theorem mid_of {a b : Nat} (h : a + b ≤ 4000000000) : IntKind.i64.wrap ((IntKind.u64.wrap (IntKind.i64.wrap ((a : Int) + (b : Int)))).fdiv (2 ^ (min (1 : Int).toNat IntKind.u64.bits))) = (((a + b) / 2 : Nat) : Int) := by
  have e0 : (2 : Int) ^ (min (1 : Int).toNat IntKind.u64.bits) = 2 := rfl
  rw [e0, wr (n := (a : Int) + (b : Int)) (by omega) (by omega)]
  have e1 : IntKind.u64.wrap ((a : Int) + (b : Int)) = (a : Int) + (b : Int) := by
    exact IntWalk.u64_in _ ⟨by omega, by omega⟩
  rw [e1, Int.fdiv_eq_ediv_of_nonneg _ (by omega), wr (by omega) (by omega)]
  omega

theorem wrA {a b : Nat} (h : a + b ≤ 4000000000) : IntKind.i64.wrap ((a : Int) + (b : Int)) = ((a + b : Nat) : Int) := by
  rw [wr (by omega) (by omega)]; omega

theorem wrS {a b : Nat} (h : b ≤ a) (ha : a ≤ 4000000000) : IntKind.i64.wrap ((a : Int) - (b : Int)) = ((a - b : Nat) : Int) := by
  rw [wr (by omega) (by omega)]; omega

theorem wrP {a : Nat} (h : 1 ≤ a) (ha : a ≤ 4000000000) : IntKind.i64.wrap ((a : Int) - 1) = ((a - 1 : Nat) : Int) := by
  rw [wr (by omega) (by omega)]; omega

theorem split_at {α : Type} {l : List α} {i : Nat} (h : i ≤ l.length) : ∃ a b, l = a ++ b ∧ a.length = i := ⟨l.take i, l.drop i, (List.take_append_drop i l).symm, by simp; omega⟩

theorem split_cons {α : Type} {l : List α} {i : Nat} {x : α} (h : l[i]? = some x) : ∃ a b, l = a ++ x :: b ∧ a.length = i := by
  obtain ⟨hi, rfl⟩ := List.getElem?_eq_some_iff.1 h
  exact ⟨l.take i, l.drop (i + 1), by rw [← List.drop_eq_getElem_cons hi, List.take_append_drop], by simp; omega⟩

/-- A list of sorted runs of a length, the last one not longer. -/
inductive Blks {α : Type} (key : α → Int) (n : Nat) : List α → List α → Prop
  | last (X D : List α) : X.length ≤ n → Stb key X D → Blks key n X D
  | cons (X1 D1 X D : List α) : X1.length = n → Stb key X1 D1 → Blks key n X D → Blks key n (X1 ++ X) (D1 ++ D)

theorem Blks.len {α : Type} {key : α → Int} {n : Nat} {X D : List α} (h : Blks key n X D) : D.length = X.length := by
  induction h with
  | last X D _ h => exact h.len
  | cons X1 D1 X D _ h _ ih => simp [h.len, ih]

theorem Blks.one {α : Type} {key : α → Int} {n : Nat} {X D : List α} (h : Blks key n X D) (hn : X.length ≤ n) : Stb key X D := by
  cases h with
  | last _ _ _ h => exact h
  | cons X1 D1 X D h1 h2 h3 =>
    simp only [List.length_append] at hn
    have e1 : X = [] := List.length_eq_zero_iff.1 (by omega)
    have e2 : D = [] := List.length_eq_zero_iff.1 (by rw [h3.len]; omega)
    subst e1 e2; simpa using h2

theorem Blks.two {α : Type} {key : α → Int} {n : Nat} {X D : List α} (h : Blks key n X D) (hn : n < X.length) : ∃ X1 D1 X' D', X = X1 ++ X' ∧ D = D1 ++ D' ∧ X1.length = n ∧ Stb key X1 D1 ∧ Blks key n X' D' := by
  cases h with
  | last _ _ h _ => omega
  | cons X1 D1 X D h1 h2 h3 => exact ⟨X1, D1, X, D, rfl, rfl, h1, h2, h3⟩

theorem Stb.comp {α : Type} {key : α → Int} {x1 x2 d1 d2 r : List α} (h : Stb key (d1 ++ d2) r) (h1 : Stb key x1 d1) (h2 : Stb key x2 d2) : Stb key (x1 ++ x2) r :=
  h.trans (fun k => by rw [Kf_app, Kf_app, h1.fl, h2.fl]) (h1.perm.append h2.perm)

abbrev ElT := Int × Int × Int × Int × Int × Int × Int

def kyT (x : ElT) : Int := x.1

theorem cmpT {d : Nat} {a b : Int} : ∃ c, g60 (d + 1) a b = some c ∧ decide (c < 0) = decide (a < b) := by
  rw [e60]; simp only [oif_ss]
  refine ⟨_, rfl, ?_⟩
  by_cases h : a < b
  · rw [decide_eq_true h]; simp
  · rw [decide_eq_false h]
    by_cases h2 : a > b
    · rw [decide_eq_true h2]; simp
    · rw [decide_eq_false h2]; simp

theorem p_swapRT {d : Nat} {p U M V s : List ElT} {n a b : Nat} {f : Bool} (hu : U.length = n) (hv : V.length = n) (ha : a = p.length) (hb : b = p.length + n + M.length) (hL : p.length + (n + M.length + n) + s.length ≤ 1000000) :
    Ok (g109 (d + 1) (p ++ (U ++ (M ++ (V ++ s)))) a b n f) fun r => r = p ++ (V ++ (M ++ (U ++ s))) := by
  rw [e109]
  refine iter_ok (fun k st => ∃ U1 U2 V1 V2, U = U1 ++ U2 ∧ V = V1 ++ V2 ∧ U1.length = V1.length ∧ st.1 = ((U1.length : Nat) : Int) ∧ st.2 = p ++ (V1 ++ (U2 ++ (M ++ (U1 ++ (V2 ++ s))))) ∧ k = U2.length) ?_ _ n _ (by rw [fuelN_eq]; omega) ⟨[], U, [], V, rfl, rfl, rfl, rfl, by simp, hu.symm⟩
  rintro k ⟨i, L⟩ ag ⟨U1, U2, V1, V2, rfl, rfl, h1, h2, h3, h4⟩ hag
  simp only at h2 h3
  subst h2
  simp only [List.length_append] at hu hv
  simp only [l109_0, l109_0_b]
  cases U2 with
  | nil =>
    simp only [List.length_nil] at hu
    obtain rfl : V2 = [] := List.length_eq_zero_iff.1 (by omega)
    rw [decide_eq_false (by omega), oif_f]
    unfold j109_0
    exact Ok.some (by rw [h3]; simp)
  | cons u U2 =>
    cases V2 with
    | nil => simp only [List.length_cons, List.length_nil] at hu hv; omega
    | cons v V2 =>
      simp only [List.length_cons] at hu hv
      rw [decide_eq_true (by omega), oif_t, wrA (by omega), wrA (by omega)]
      have e : L = (p ++ V1) ++ u :: ((U2 ++ (M ++ U1)) ++ v :: (V2 ++ s)) := by rw [h3]; simp
      have hi : L[a + U1.length]? = some u := by rw [e]; exact at_mid (by simp <;> omega)
      have hj : L[b + U1.length]? = some v := by
        rw [e, show (p ++ V1) ++ u :: ((U2 ++ (M ++ U1)) ++ v :: (V2 ++ s)) = ((p ++ V1) ++ u :: (U2 ++ (M ++ U1))) ++ v :: (V2 ++ s) by simp]
        exact at_mid (by simp <;> omega)
      refine swap_ok hi hj (fun L' => ag (IntKind.i64.wrap (((U1.length : Nat) : Int) + 1), L')) ?_
      rw [e, show a + U1.length = (p ++ V1).length by simp <;> omega, show b + U1.length = (p ++ V1).length + 1 + (U2 ++ (M ++ U1)).length by simp <;> omega, swap_at, wr1 (by omega)]
      refine hag U2.length _ (by rw [h4]; simp) ⟨U1 ++ [u], U2, V1 ++ [v], V2, by simp, by simp, by simp [h1], by simp, by simp, rfl⟩

theorem p_rotT {d : Nat} {p U V s : List ElT} {a m b : Nat} {f : Bool} (hu : 0 < U.length) (hv : 0 < V.length) (ha : a = p.length) (hm : m = p.length + U.length) (hb : b = p.length + U.length + V.length) (hL : p.length + U.length + V.length + s.length ≤ 1000000) :
    Ok (g106 (d + 2) (p ++ (U ++ (V ++ s))) a m b f) fun r => r = p ++ (V ++ (U ++ s)) := by
  rw [show d + 2 = (d + 1) + 1 from rfl, e106, wrS (by omega) (by omega), wrS (by omega) (by omega)]
  refine iter_ok (fun k st => ∃ p' U' V' s', 0 < U'.length ∧ 0 < V'.length ∧ st = (((U'.length : Nat) : Int), ((V'.length : Nat) : Int), p' ++ (U' ++ (V' ++ s'))) ∧ p'.length + U'.length = m ∧ p'.length + U'.length + V'.length + s'.length ≤ 1000000 ∧ p' ++ (V' ++ (U' ++ s')) = p ++ (V ++ (U ++ s)) ∧ k = U'.length + V'.length) ?_ _ (U.length + V.length) _ (by rw [fuelN_eq]; omega) ⟨p, U, V, s, hu, hv, by rw [show m - a = U.length by omega, show b - m = V.length by omega], by omega, by omega, rfl, rfl⟩
  rintro k st ag ⟨p', U', V', s', h1, h2, rfl, h3, h4, h5, rfl⟩ hag
  simp only [l106_0, l106_0_b]
  rw [wrS (a := m) (b := U'.length) (by omega) (by omega)]
  by_cases he : U'.length = V'.length
  · rw [show ((((U'.length : Nat) : Int)) != ((V'.length : Nat) : Int)) = false by rw [he]; simp, oif_f]
    unfold j106_0
    rw [wrS (a := m) (b := U'.length) (by omega) (by omega)]
    refine Ok.bind (p_swapRT (d := d) (p := p') (U := U') (M := []) (V := V') (s := s') (n := U'.length) rfl he.symm (by omega) (by simp <;> omega) (by simp <;> omega)) fun r hr => ?_
    subst hr
    exact Ok.some (by rw [← h5]; simp)
  · rw [show ((((U'.length : Nat) : Int)) != ((V'.length : Nat) : Int)) = true by simp <;> omega, oif_t]
    by_cases hg : ((U'.length : Nat) : Int) > ((V'.length : Nat) : Int)
    · rw [decide_eq_true hg, oif_t]
      obtain ⟨Ua, Ub, rfl, hua⟩ := split_at (l := U') (i := V'.length) (by omega)
      simp only [List.length_append] at h1 h3 h4 hg he ⊢
      have := p_swapRT (d := d) (p := p') (U := Ua) (M := Ub) (V := V') (s := s') (n := V'.length) (a := m - (Ua.length + Ub.length)) (b := m) (f := false) hua rfl (by omega) (by omega) (by omega)
      rw [show p' ++ (Ua ++ Ub ++ (V' ++ s')) = p' ++ (Ua ++ (Ub ++ (V' ++ s'))) by simp]
      refine Ok.bind this fun r hr => ?_
      subst hr
      rw [wrS (by omega) (by omega)]
      refine hag (Ub.length + Ua.length) _ (by rw [List.length_append]; omega) ⟨p' ++ V', Ub, Ua, s', by omega, by omega, ?_, by simp <;> omega, by simp <;> omega, by rw [← h5]; simp, rfl⟩
      rw [show Ua.length + Ub.length - V'.length = Ub.length by omega, hua]; simp
    · rw [decide_eq_false hg, oif_f]
      obtain ⟨Va, Vb, rfl, hva⟩ := split_at (l := V') (i := V'.length - U'.length) (by omega)
      simp only [List.length_append] at h2 h3 h4 hg he hva ⊢
      have hvb : Vb.length = U'.length := by omega
      rw [show ((m : Nat) : Int) + (((Va.length + Vb.length : Nat) : Int)) = ((m + (Va.length + Vb.length) : Nat) : Int) by omega, wr (n := ((m + (Va.length + Vb.length) : Nat) : Int)) (by omega) (by omega), wrS (by omega) (by omega)]
      have := p_swapRT (d := d) (p := p') (U := U') (M := Va) (V := Vb) (s := s') (n := U'.length) (a := m - U'.length) (b := m + (Va.length + Vb.length) - U'.length) (f := false) rfl hvb (by omega) (by omega) (by omega)
      rw [show p' ++ (U' ++ (Va ++ Vb ++ s')) = p' ++ (U' ++ (Va ++ (Vb ++ s'))) by simp]
      refine Ok.bind this fun r hr => ?_
      subst hr
      rw [wrS (by omega) (by omega)]
      refine hag (Vb.length + Va.length) _ (by rw [List.length_append]; omega) ⟨p', Vb, Va, U' ++ s', by omega, by omega, ?_, by omega, by simp <;> omega, by rw [← h5]; simp, rfl⟩
      rw [show Va.length + Vb.length - U'.length = Va.length by omega, hvb]

theorem p_insertT {d : Nat} {p X s : List ElT} {a b : Nat} {f : Bool} (ha : a = p.length) (hb : b = p.length + X.length) (hL : p.length + X.length + s.length ≤ 1000000) :
    Ok (g99 (d + 3) (p ++ (X ++ s)) a b f) fun r => ∃ R, r = p ++ (R ++ s) ∧ Stb kyT X R := by
  rw [show d + 3 = (d + 1) + 2 from rfl, e99, wr1 (by omega)]
  cases X with
  | nil =>
    obtain ⟨n, hn⟩ : ∃ n, fuelN = n + 1 := ⟨4194303, fuelN_eq⟩
    rw [hn]
    simp only [iterP, l99_0, l99_0_b]
    rw [decide_eq_false (by simp at hb; omega), oif_f]
    unfold j99_0
    exact Ok.some ⟨[], rfl, Stb.self List.Pairwise.nil⟩
  | cons x X =>
    simp only [List.length_cons] at hb hL
    refine iter_ok (fun k st => ∃ X0 S Y, x :: X = X0 ++ Y ∧ Stb kyT X0 S ∧ st.1 = ((p.length + S.length : Nat) : Int) ∧ st.2 = p ++ (S ++ (Y ++ s)) ∧ k = Y.length) ?_ _ X.length _ (by rw [fuelN_eq]; omega) ⟨[x], [x], X, rfl, Stb.self (Srt.one x), by simp [ha], rfl, rfl⟩
    rintro k ⟨i, L⟩ ag ⟨X0, S, Y, h0, h1, h2, h3, h4⟩ hag
    simp only at h2 h3
    subst h2
    have hlen := congrArg List.length h0
    simp only [List.length_cons, List.length_append] at hlen
    have hS := h1.len
    simp only [l99_0, l99_0_b]
    cases Y with
    | nil =>
      simp only [List.length_nil] at hlen
      rw [decide_eq_false (by omega), oif_f]
      unfold j99_0
      exact Ok.some ⟨S, by rw [h3]; simp, by rw [h0]; simpa using h1⟩
    | cons y Y =>
      simp only [List.length_cons] at hlen
      rw [decide_eq_true (by omega), oif_t]
      have fin : ∀ (n1 n2 : Int) (b1 b2 : Bool) (S1 S2 : List ElT), S = S1 ++ S2 → (∀ z ∈ S1, kyT z ≤ kyT y) → (∀ z ∈ S2, kyT y < kyT z) → Ok (j99_1 (d + 1) ag ((p.length + S.length : Nat) : Int) n1 n2 b1 b2 (p ++ (S1 ++ (y :: (S2 ++ (Y ++ s)))))) fun r => ∃ R, r = p ++ (R ++ s) ∧ Stb kyT (x :: X) R := by
        intro n1 n2 b1 b2 S1 S2 e g1 g2
        subst e
        simp only [List.length_append] at hS hlen ⊢
        unfold j99_1
        rw [wr1 (by omega)]
        refine hag Y.length _ (by rw [h4]; simp) ⟨X0 ++ [y], S1 ++ y :: S2, Y, by rw [h0]; simp, h1.ins g1 g2, by simp <;> omega, by simp, rfl⟩
      refine iter_ok (fun q st => ∃ S1 S2, S = S1 ++ S2 ∧ (∀ z ∈ S2, kyT y < kyT z) ∧ st.1 = ((p.length + S1.length : Nat) : Int) ∧ st.2 = p ++ (S1 ++ (y :: (S2 ++ (Y ++ s)))) ∧ q = S1.length) ?_ _ S.length _ (by rw [fuelN_eq]; omega) ⟨S, [], by simp, by simp, rfl, by rw [h3]; simp, rfl⟩
      rintro q ⟨j, M⟩ ag2 ⟨S1, S2, e, g2, g3, g4, rfl⟩ hag2
      simp only at g3 g4
      subst g3
      have hsl := congrArg List.length e
      simp only [List.length_append] at hsl
      simp only [l99_1, l99_1_b]
      rcases List.eq_nil_or_concat S1 with rfl | ⟨S1, z, rfl⟩
      · rw [decide_eq_false (by simp [ha]), oif_f]
        unfold j99_2
        rw [oif_f, g4]
        exact fin _ _ _ _ [] S2 e (by simp) g2
      · simp only [List.concat_eq_append, List.length_append, List.length_cons, List.length_nil] at e g4 hsl hag2 ⊢
        have hz : M[p.length + S1.length]? = some z := by
          rw [g4, show p ++ (S1 ++ [z] ++ (y :: (S2 ++ (Y ++ s)))) = (p ++ S1) ++ z :: (y :: (S2 ++ (Y ++ s))) by simp]
          exact at_mid (by simp)
        have hy : M[p.length + (S1.length + (0 + 1))]? = some y := by
          rw [g4, show p ++ (S1 ++ [z] ++ (y :: (S2 ++ (Y ++ s)))) = (p ++ S1 ++ [z]) ++ y :: (S2 ++ (Y ++ s)) by simp]
          exact at_mid (by simp <;> omega)
        have hl1 := (List.getElem?_eq_some_iff.1 hz).1
        have hl2 := (List.getElem?_eq_some_iff.1 hy).1
        rw [decide_eq_true (by omega), oif_t, wrP (by omega) (by omega), show p.length + (S1.length + (0 + 1)) - 1 = p.length + S1.length by omega]
        simp only [nn, ofNat_toNat, oif_t, blt_of hl1, blt_of hl2, hz, hy, ob_s]
        obtain ⟨c, hc, hlt⟩ := cmpT (d := d) (a := y.1) (b := z.1)
        rw [hc, ob_s]
        unfold j99_2
        rw [hlt]
        cases hd : decide (y.1 < z.1) with
        | true =>
          simp only [decide_eq_true_eq] at hd
          rw [oif_t, wrP (by omega) (by omega), show p.length + (S1.length + (0 + 1)) - 1 = p.length + S1.length by omega]
          refine swap_ok (i := p.length + (S1.length + (0 + 1))) (j := p.length + S1.length) hy hz (fun L' => ag2 (((p.length + S1.length : Nat) : Int), L')) ?_
          rw [g4, show p ++ (S1 ++ [z] ++ (y :: (S2 ++ (Y ++ s)))) = (p ++ S1) ++ z :: ([] ++ y :: (S2 ++ (Y ++ s))) by simp, show p.length + (S1.length + (0 + 1)) = (p ++ S1).length + 1 + ([] : List ElT).length by simp <;> omega, show p.length + S1.length = (p ++ S1).length by simp, swap_ta]
          refine hag2 S1.length _ (by omega) ⟨S1, z :: S2, by rw [e]; simp, fun w hw => ?_, by simp, by simp, rfl⟩
          rcases List.mem_cons.1 hw with rfl | hw
          · exact hd
          · exact g2 w hw
        | false =>
          simp only [decide_eq_false_iff_not] at hd
          rw [oif_f, g4]
          have hs := h1.srt
          rw [e] at hs
          have := fin ((p.length + (S1.length + (0 + 1)) : Nat) : Int) ((p.length + (S1.length + (0 + 1)) : Nat) : Int) (decide (((p.length + (S1.length + (0 + 1)) : Nat) : Int) > (a : Int))) true (S1 ++ [z]) S2 e (fun w hw => ?_) g2
          · exact this
          · rcases List.mem_append.1 hw with hw | hw
            · have := (Srt.left hs).across w hw z (by simp)
              have hd' : z.1 ≤ y.1 := by omega
              exact Int.le_trans this hd'
            · simp at hw; subst hw; show w.1 ≤ y.1; omega

theorem p_mvRT {d : Nat} {p B s : List ElT} {x : ElT} {a i : Nat} (ha : a = p.length) (hi : i = p.length + 1 + B.length) (hL : p.length + 1 + B.length + s.length ≤ 1000000) :
    Ok (iterP (l100_1 d (i : Int) (j100_0 d)) fuelN ((a : Int), p ++ (x :: (B ++ s)))) fun r => r = p ++ (B ++ (x :: s)) := by
  refine iter_ok (fun k st => ∃ B1 B2, B = B1 ++ B2 ∧ st.1 = ((p.length + B1.length : Nat) : Int) ∧ st.2 = p ++ (B1 ++ (x :: (B2 ++ s))) ∧ k = B2.length) ?_ _ B.length _ (by rw [fuelN_eq]; omega) ⟨[], B, rfl, by simp [ha], rfl, rfl⟩
  rintro k ⟨k0, L⟩ ag ⟨B1, B2, rfl, h1, h2, h3⟩ hag
  simp only at h1 h2
  subst h1
  simp only [List.length_append] at hi hL
  simp only [l100_1, l100_1_b]
  rw [wrP (by omega) (by omega)]
  cases B2 with
  | nil =>
    rw [decide_eq_false (by simp at hi; omega), oif_f]
    unfold j100_0
    exact Ok.some (by rw [h2]; simp)
  | cons y B2 =>
    simp only [List.length_cons] at hi hL h3
    rw [decide_eq_true (by omega), oif_t, wr1 (by omega)]
    have hx : L[p.length + B1.length]? = some x := by
      rw [h2, show p ++ (B1 ++ (x :: (y :: B2 ++ s))) = (p ++ B1) ++ x :: (y :: B2 ++ s) by simp]
      exact at_mid (by simp)
    have hy : L[p.length + B1.length + 1]? = some y := by
      rw [h2, show p ++ (B1 ++ (x :: (y :: B2 ++ s))) = (p ++ B1 ++ [x]) ++ y :: (B2 ++ s) by simp]
      exact at_mid (by simp <;> omega)
    refine swap_ok (i := p.length + B1.length) (j := p.length + B1.length + 1) hx hy (fun L' => ag (((p.length + B1.length + 1 : Nat) : Int), L')) ?_
    rw [h2, show p ++ (B1 ++ (x :: (y :: B2 ++ s))) = (p ++ B1) ++ x :: ([] ++ y :: (B2 ++ s)) by simp, show p.length + B1.length + 1 = (p ++ B1).length + 1 + ([] : List ElT).length by simp, show p.length + B1.length = (p ++ B1).length by simp, swap_at]
    refine hag B2.length _ (by omega) ⟨B1 ++ [y], B2, by simp, by simp <;> omega, by simp, rfl⟩

theorem p_mvLT {d : Nat} {p A s : List ElT} {y : ElT} {m i : Nat} (hi : i = p.length) (hm : m = p.length + A.length) (hL : p.length + 1 + A.length + s.length ≤ 1000000) :
    Ok (iterP (l100_3 d (i : Int) (j100_2 d)) fuelN ((m : Int), p ++ (A ++ (y :: s)))) fun r => r = p ++ (y :: (A ++ s)) := by
  refine iter_ok (fun k st => ∃ A1 A2, A = A1 ++ A2 ∧ st.1 = ((p.length + A1.length : Nat) : Int) ∧ st.2 = p ++ (A1 ++ (y :: (A2 ++ s))) ∧ k = A1.length) ?_ _ A.length _ (by rw [fuelN_eq]; omega) ⟨A, [], by simp, by simp [hm], by simp, rfl⟩
  rintro k ⟨k0, L⟩ ag ⟨A1, A2, rfl, h1, h2, h3⟩ hag
  simp only at h1 h2
  subst h1
  simp only [List.length_append] at hm hL
  simp only [l100_3, l100_3_b]
  rcases List.eq_nil_or_concat A1 with rfl | ⟨A1, z, rfl⟩
  · rw [decide_eq_false (by simp <;> omega), oif_f]
    unfold j100_2
    exact Ok.some (by rw [h2]; simp)
  · simp only [List.concat_eq_append, List.length_append, List.length_cons, List.length_nil] at h2 h3 hL hag ⊢
    rw [decide_eq_true (by omega), oif_t, wrP (by omega) (by omega), show p.length + (A1.length + (0 + 1)) - 1 = p.length + A1.length by omega]
    have hz : L[p.length + A1.length]? = some z := by
      rw [h2, show p ++ (A1 ++ [z] ++ (y :: (A2 ++ s))) = (p ++ A1) ++ z :: (y :: (A2 ++ s)) by simp]
      exact at_mid (by simp)
    have hy : L[p.length + (A1.length + (0 + 1))]? = some y := by
      rw [h2, show p ++ (A1 ++ [z] ++ (y :: (A2 ++ s))) = (p ++ A1 ++ [z]) ++ y :: (A2 ++ s) by simp]
      exact at_mid (by simp <;> omega)
    refine swap_ok (i := p.length + (A1.length + (0 + 1))) (j := p.length + A1.length) hy hz (fun L' => ag (((p.length + A1.length : Nat) : Int), L')) ?_
    rw [h2, show p ++ (A1 ++ [z] ++ (y :: (A2 ++ s))) = (p ++ A1) ++ z :: ([] ++ y :: (A2 ++ s)) by simp, show p.length + (A1.length + (0 + 1)) = (p ++ A1).length + 1 + ([] : List ElT).length by simp <;> omega, show p.length + A1.length = (p ++ A1).length by simp, swap_ta]
    refine hag A1.length _ (by omega) ⟨A1, z :: A2, by simp, by simp, by simp, rfl⟩

theorem getsT {p A s : List ElT} {i : Nat} {x : ElT} (h : A[i]? = some x) : (p ++ (A ++ s))[p.length + i]? = some x := by
  have hi := (List.getElem?_eq_some_iff.1 h).1
  rw [List.getElem?_append_right (by omega), List.getElem?_append_left (by omega), show p.length + i - p.length = i by omega]; exact h

/-- A search by halves for the first place at which something does not hold. -/
theorem half_ok {β : Type} {F : (Int × Int → Option β) → Int × Int → Option β} {P : Nat → Bool} {lo hi : Nat} {K : Int → Option β} {Q : β → Prop} (hlh : lo ≤ hi) (hh : hi ≤ 1000000)
    (h : ∀ ag (i j : Nat), lo ≤ i → i < j → j ≤ hi → F ag ((i : Int), (j : Int)) = oif (P ((i + j) / 2)) (ag ((((i + j) / 2 + 1 : Nat) : Int), (j : Int))) (ag ((i : Int), (((i + j) / 2 : Nat) : Int))))
    (h2 : ∀ ag (i : Nat), F ag ((i : Int), (i : Int)) = K (i : Int))
    (hK : ∀ c : Nat, lo ≤ c → c ≤ hi → (lo < c → P (c - 1) = true) → (c < hi → P c = false) → Ok (K (c : Int)) Q) : Ok (iterP F fuelN ((lo : Int), (hi : Int))) Q := by
  refine iter_ok (fun k st => ∃ i j : Nat, st = ((i : Int), (j : Int)) ∧ lo ≤ i ∧ i ≤ j ∧ j ≤ hi ∧ (lo < i → P (i - 1) = true) ∧ (j < hi → P j = false) ∧ k = j - i) ?_ _ (hi - lo) _ (by rw [fuelN_eq]; omega) ⟨lo, hi, rfl, by omega, by omega, by omega, by omega, by omega, rfl⟩
  rintro k st ag ⟨i, j, rfl, g1, g2, g3, g4, g5, rfl⟩ hag
  rcases Nat.eq_or_lt_of_le g2 with rfl | hlt
  · rw [h2]; exact hK i g1 g3 g4 g5
  · rw [h ag i j g1 hlt g3]
    cases hp : P ((i + j) / 2) with
    | true => rw [oif_t]; exact hag (j - ((i + j) / 2 + 1)) _ (by omega) ⟨(i + j) / 2 + 1, j, rfl, by omega, by omega, g3, fun _ => by rw [Nat.add_sub_cancel]; exact hp, g5, rfl⟩
    | false => rw [oif_f]; exact hag ((i + j) / 2 - i) _ (by omega) ⟨i, (i + j) / 2, rfl, g1, by omega, by omega, g4, fun _ => hp, rfl⟩

theorem p_symT : ∀ (j : Nat) {d : Nat} {p A B s : List ElT} {a m b : Nat} {f : Bool}, A.length + B.length ≤ 2 ^ j → 0 < A.length → 0 < B.length → Srt kyT A → Srt kyT B → a = p.length → m = p.length + A.length → b = p.length + A.length + B.length → p.length + A.length + B.length + s.length ≤ 1000000 →
    Ok (g100 (d + j + 3) (p ++ (A ++ (B ++ s))) a m b f) fun r => ∃ R, r = p ++ (R ++ s) ∧ Stb kyT (A ++ B) R
  | 0, d, p, A, B, s, a, m, b, f, h, h1, h2, _, _, _, _, _, _ => by simp at h; omega
  | j + 1, d, p, A, B, s, a, m, b, f, h, h1, h2, sa, sb, ha, hm, hb, hL => by
    rw [show d + (j + 1) + 3 = (d + j + 1 + 1) + 2 by omega, e100, wrS (by omega) (by omega), wrS (by omega) (by omega)]
    by_cases c1 : A.length = 1
    · obtain ⟨x, rfl⟩ : ∃ x, A = [x] := List.length_eq_one_iff.1 c1
      simp only [List.length_cons, List.length_nil] at hm hb hL
      rw [show (((m - a : Nat) : Int) == 1) = true by rw [show m - a = 1 by omega]; rfl, oif_t]
      refine half_ok (P := fun c => match B[c - m]? with | some y => decide (y.1 < x.1) | none => false) (K := fun i => j100_1 (d + j + 1 + 1) (p ++ ([x] ++ (B ++ s))) (a : Int) i) (by omega) (by omega) (fun ag i k q1 q2 q3 => ?_) (fun ag i => ?_) (fun c q1 q2 q3 q4 => ?_)
      · simp only [l100_0, l100_0_b]
        rw [decide_eq_true (by omega), oif_t, mid_of (by omega)]
        obtain ⟨y, hy⟩ : ∃ y, B[(i + k) / 2 - m]? = some y := ⟨_, List.getElem?_eq_getElem (by omega)⟩
        have hy2 : (p ++ ([x] ++ (B ++ s)))[(i + k) / 2]? = some y := by
          have := getsT (p := p ++ [x]) (s := s) hy
          rw [show (p ++ [x]).length + ((i + k) / 2 - m) = (i + k) / 2 by simp <;> omega] at this
          simpa using this
        have hx2 : (p ++ ([x] ++ (B ++ s)))[a]? = some x := at_mid (s := B ++ s) ha
        have l1 := (List.getElem?_eq_some_iff.1 hy2).1
        have l2 := (List.getElem?_eq_some_iff.1 hx2).1
        simp only [nn, ofNat_toNat, oif_t, blt_of l1, blt_of l2, hx2, hy2, ob_s]
        obtain ⟨c, hc, hlt⟩ := cmpT (d := d + j + 1) (a := y.1) (b := x.1)
        rw [hc, ob_s, hlt, hy, wr1 (by omega)]
      · simp only [l100_0, l100_0_b]
        rw [decide_eq_false (by omega), oif_f]
      · obtain ⟨B1, B2, rfl, hB1⟩ := split_at (l := B) (i := c - m) (by omega)
        simp only [List.length_append] at hb hL
        have k1 : ∀ z ∈ B1, kyT z < kyT x := by
          intro z hz
          by_cases hc : m < c
          · have := q3 hc
            obtain ⟨i, hi, rfl⟩ := List.getElem_of_mem hz
            have hlast : (B1 ++ B2)[c - 1 - m]? = some (B1[c - 1 - m]'(by omega)) := by rw [List.getElem?_append_left (by omega), List.getElem?_eq_getElem]
            simp only [hlast, decide_eq_true_eq] at this
            have hle := (Srt.left sb).get (i := i) (j := c - 1 - m) (by omega) (List.getElem?_eq_getElem hi) (List.getElem?_eq_getElem (by omega))
            exact Int.lt_of_le_of_lt hle this
          · obtain rfl : B1 = [] := List.length_eq_zero_iff.1 (by omega)
            simp at hz
        have k2 : ∀ z ∈ B2, kyT x ≤ kyT z := by
          intro z hz
          obtain ⟨i, hi, rfl⟩ := List.getElem_of_mem hz
          have := q4 (by omega)
          have hfst : (B1 ++ B2)[c - m]? = some (B2[0]'(by omega)) := by rw [List.getElem?_append_right (by omega), show c - m - B1.length = 0 by omega, List.getElem?_eq_getElem]
          simp only [hfst, decide_eq_false_iff_not] at this
          have hle := (Srt.right sb).get (i := 0) (j := i) (by omega) (List.getElem?_eq_getElem (by omega)) (List.getElem?_eq_getElem hi)
          have : kyT x ≤ kyT (B2[0]'(by omega)) := by show x.1 ≤ _; have h3 : ¬ (B2[0]'(by omega)).1 < x.1 := this; show x.1 ≤ (B2[0]'(by omega)).1; omega
          exact Int.le_trans this hle
        show Ok (j100_1 (d + j + 1 + 1) (p ++ ([x] ++ (B1 ++ B2 ++ s))) (a : Int) (c : Int)) _
        unfold j100_1
        rw [show p ++ ([x] ++ (B1 ++ B2 ++ s)) = p ++ (x :: (B1 ++ (B2 ++ s))) by simp]
        refine Ok.mono (p_mvRT (p := p) (B := B1) (s := B2 ++ s) (x := x) ha (by omega) (by simp <;> omega)) fun r hr => ?_
        subst hr
        refine ⟨B1 ++ (x :: B2), by simp, ?_⟩
        have t1 : Stb kyT (B1 ++ (x :: B2)) (B1 ++ (x :: B2)) := by
          refine Stb.self ?_
          unfold Srt
          rw [List.pairwise_append]
          refine ⟨Srt.left sb, List.pairwise_cons.2 ⟨k2, Srt.right sb⟩, fun u hu w hw => ?_⟩
          rcases List.mem_cons.1 hw with rfl | hw
          · exact Int.le_of_lt (k1 u hu)
          · exact Srt.across sb u hu w hw
        refine t1.trans (fun k => ?_) ?_
        · have := Kf_swap (key := kyT) (k := k) (a := [x]) (b := B1) (fun u hu w hw => by simp at hw; subst hw; exact k1 u hu)
          rw [show B1 ++ x :: B2 = (B1 ++ [x]) ++ B2 by simp, Kf_app, this, ← Kf_app, List.append_assoc]
        · rw [show [x] ++ (B1 ++ B2) = x :: (B1 ++ B2) from rfl]; exact List.perm_middle
    · rw [show (((m - a : Nat) : Int) == 1) = false by rw [beq_eq_false_iff_ne]; omega, oif_f]
      by_cases c2 : B.length = 1
      · obtain ⟨y, rfl⟩ : ∃ y, B = [y] := List.length_eq_one_iff.1 c2
        simp only [List.length_cons, List.length_nil] at hb hL
        rw [show (((b - m : Nat) : Int) == 1) = true by rw [show b - m = 1 by omega]; rfl, oif_t]
        refine half_ok (P := fun c => match A[c - a]? with | some x => !decide (y.1 < x.1) | none => false) (K := fun i => j100_3 (d + j + 1 + 1) (p ++ (A ++ ([y] ++ s))) (m : Int) i) (by omega) (by omega) (fun ag i k q1 q2 q3 => ?_) (fun ag i => ?_) (fun c q1 q2 q3 q4 => ?_)
        · simp only [l100_2, l100_2_b]
          rw [decide_eq_true (by omega), oif_t, mid_of (by omega)]
          obtain ⟨x, hx⟩ : ∃ x, A[(i + k) / 2 - a]? = some x := ⟨_, List.getElem?_eq_getElem (by omega)⟩
          have hx2 : (p ++ (A ++ ([y] ++ s)))[(i + k) / 2]? = some x := by
            have := getsT (p := p) (s := [y] ++ s) hx
            rw [show p.length + ((i + k) / 2 - a) = (i + k) / 2 by omega] at this
            exact this
          have hy2 : (p ++ (A ++ ([y] ++ s)))[m]? = some y := by
            rw [show p ++ (A ++ ([y] ++ s)) = (p ++ A) ++ y :: s by simp]
            exact at_mid (by simp <;> omega)
          have l1 := (List.getElem?_eq_some_iff.1 hy2).1
          have l2 := (List.getElem?_eq_some_iff.1 hx2).1
          simp only [nn, ofNat_toNat, oif_t, blt_of l1, blt_of l2, hx2, hy2, ob_s]
          obtain ⟨c, hc, hlt⟩ := cmpT (d := d + j + 1) (a := y.1) (b := x.1)
          rw [hc, ob_s, hlt, hx, wr1 (by omega)]
        · simp only [l100_2, l100_2_b]
          rw [decide_eq_false (by omega), oif_f]
        · obtain ⟨A1, A2, rfl, hA1⟩ := split_at (l := A) (i := c - a) (by omega)
          simp only [List.length_append] at hm hb hL
          have k1 : ∀ z ∈ A1, kyT z ≤ kyT y := by
            intro z hz
            by_cases hc : a < c
            · have := q3 hc
              obtain ⟨i, hi, rfl⟩ := List.getElem_of_mem hz
              have hlast : (A1 ++ A2)[c - 1 - a]? = some (A1[c - 1 - a]'(by omega)) := by rw [List.getElem?_append_left (by omega), List.getElem?_eq_getElem]
              simp only [hlast, Bool.not_eq_true', decide_eq_false_iff_not] at this
              have hle := (Srt.left sa).get (i := i) (j := c - 1 - a) (by omega) (List.getElem?_eq_getElem hi) (List.getElem?_eq_getElem (by omega))
              have h3 : (A1[c - 1 - a]'(by omega)).1 ≤ y.1 := by omega
              exact Int.le_trans hle h3
            · obtain rfl : A1 = [] := List.length_eq_zero_iff.1 (by omega)
              simp at hz
          have k2 : ∀ z ∈ A2, kyT y < kyT z := by
            intro z hz
            obtain ⟨i, hi, rfl⟩ := List.getElem_of_mem hz
            have := q4 (by omega)
            have hfst : (A1 ++ A2)[c - a]? = some (A2[0]'(by omega)) := by rw [List.getElem?_append_right (by omega), show c - a - A1.length = 0 by omega, List.getElem?_eq_getElem]
            simp only [hfst, Bool.not_eq_false', decide_eq_true_eq] at this
            have hle := (Srt.right sa).get (i := 0) (j := i) (by omega) (List.getElem?_eq_getElem (by omega)) (List.getElem?_eq_getElem hi)
            exact Int.lt_of_lt_of_le this hle
          show Ok (j100_3 (d + j + 1 + 1) (p ++ (A1 ++ A2 ++ ([y] ++ s))) (m : Int) (c : Int)) _
          unfold j100_3
          rw [show p ++ (A1 ++ A2 ++ ([y] ++ s)) = (p ++ A1) ++ (A2 ++ (y :: s)) by simp]
          refine Ok.mono (p_mvLT (p := p ++ A1) (A := A2) (s := s) (y := y) (by simp <;> omega) (by simp <;> omega) (by simp <;> omega)) fun r hr => ?_
          subst hr
          refine ⟨A1 ++ (y :: A2), by simp, ?_⟩
          exact (Stb.self sa).ins k1 k2
      · rw [show (((b - m : Nat) : Int) == 1) = false by rw [beq_eq_false_iff_ne]; omega, oif_f, mid_of (by omega)]
        have hq : (p.length + (p.length + A.length + B.length)) / 2 = (a + b) / 2 := by rw [ha, hb]
        rw [decide_eq_decide.2 (show ((m : Nat) : Int) > (((a + b) / 2 : Nat) : Int) ↔ (a + b) / 2 < m by omega)]
        -- what the search shows, and what follows it
        have key : ∀ c : Nat, a ≤ c → c ≤ m → m ≤ (a + b) / 2 + m - c → (a + b) / 2 + m - c ≤ b →
            (∀ x ∈ (A.drop (c - a)), ∀ y ∈ B.take ((a + b) / 2 - c), kyT y < kyT x) → (∀ x ∈ A.take (c - a), ∀ y ∈ B.drop ((a + b) / 2 - c), kyT x ≤ kyT y) →
            Ok (j100_9 (d + j + 1 + 1) (p ++ (A ++ (B ++ s))) (a : Int) (m : Int) (b : Int) (c : Int)) fun r => ∃ R, r = p ++ (R ++ s) ∧ Stb kyT (A ++ B) R := by
          intro c q1 q2 q3 q4 g1 g2
          obtain ⟨A1, A2, hA, hA1⟩ := split_at (l := A) (i := c - a) (by omega)
          obtain ⟨B1, B2, hB, hB1⟩ := split_at (l := B) (i := (a + b) / 2 - c) (by omega)
          subst hA hB
          rw [← hA1, List.drop_left] at g1
          rw [← hA1, List.take_left] at g2
          rw [← hB1, List.take_left] at g1
          rw [← hB1, List.drop_left] at g2
          simp only [List.length_append] at h h1 h2 hm hb hL c1 c2 hq
          have hend : (a + b) / 2 + m - c = m + B1.length := by omega
          -- the right part
          have s5 : ∀ R1, Stb kyT (A1 ++ B1) R1 → Ok (j100_5 (d + j + 1 + 1) (a : Int) (m : Int) (b : Int) (c : Int) (p ++ (R1 ++ (A2 ++ (B2 ++ s))))) fun r => ∃ R, r = p ++ (R ++ s) ∧ Stb kyT ((A1 ++ A2) ++ (B1 ++ B2)) R := by
            intro R1 hR1
            have hl1 := hR1.len
            simp only [List.length_append] at hl1
            have fin : ∀ R2, Stb kyT (A2 ++ B2) R2 → ∃ R, p ++ (R1 ++ (R2 ++ s)) = p ++ (R ++ s) ∧ Stb kyT ((A1 ++ A2) ++ (B1 ++ B2)) R := by
              intro R2 hR2
              refine ⟨R1 ++ R2, by simp, (hR1.cat hR2 ?_).trans (fun k => ?_) ?_⟩
              · intro x hx y hy
                rcases List.mem_append.1 hx with hx | hx <;> rcases List.mem_append.1 hy with hy | hy
                · exact Srt.across sa x hx y hy
                · exact g2 x hx y hy
                · exact Int.le_of_lt (g1 y hy x hx)
                · exact Srt.across sb x hx y hy
              · have e := Kf_swap (key := kyT) (k := k) (a := A2) (b := B1) (fun x hx y hy => g1 y hy x hx)
                rw [Kf_app, Kf_app] at e
                simp only [Kf_app, List.append_assoc]
                rw [← List.append_assoc (Kf kyT k B1), e, List.append_assoc]
              · rw [List.append_assoc, List.append_assoc]
                exact List.Perm.append_left A1 (List.perm_append_comm_assoc B1 A2 B2)
            unfold j100_5
            rw [mid_of (by omega), wrA (by omega), wrS (by omega) (by omega), hend]
            by_cases k1 : (a + b) / 2 < m + B1.length
            · rw [decide_eq_true (by omega), oif_t]
              unfold j100_4
              by_cases k2 : m + B1.length < b
              · rw [decide_eq_true (by omega), oif_t, mid_of (by omega), wrA (by omega), wrS (by omega) (by omega), hend]
                have := p_symT j (d := d) (p := p ++ R1) (A := A2) (B := B2) (s := s) (a := (a + b) / 2) (m := m + B1.length) (b := b) (f := false) (by omega) (by omega) (by omega) (Srt.right sa) (Srt.right sb) (by simp <;> omega) (by simp <;> omega) (by simp <;> omega) (by simp <;> omega)
                rw [show d + j + 1 + 1 + 1 = d + j + 3 by omega, show p ++ (R1 ++ (A2 ++ (B2 ++ s))) = (p ++ R1) ++ (A2 ++ (B2 ++ s)) by simp]
                refine Ok.bind this fun r hr => ?_
                obtain ⟨R2, rfl, hR2⟩ := hr
                refine Ok.some ?_
                rw [List.append_assoc]; exact fin R2 hR2
              · rw [decide_eq_false (by omega), oif_f]
                obtain rfl : B2 = [] := List.length_eq_zero_iff.1 (by omega)
                refine Ok.some ?_
                have := fin A2 (by simpa using Stb.self (Srt.right sa))
                simpa using this
            · rw [decide_eq_false (by omega), oif_f]
              unfold j100_4
              rw [oif_f]
              obtain rfl : A2 = [] := List.length_eq_zero_iff.1 (by omega)
              refine Ok.some ?_
              have := fin B2 (by simpa using Stb.self (Srt.right sb))
              simpa using this
          -- the left part
          have s7 : Ok (j100_7 (d + j + 1 + 1) (a : Int) (m : Int) (b : Int) (c : Int) (p ++ (A1 ++ (B1 ++ (A2 ++ (B2 ++ s)))))) fun r => ∃ R, r = p ++ (R ++ s) ∧ Stb kyT ((A1 ++ A2) ++ (B1 ++ B2)) R := by
            unfold j100_7
            by_cases k1 : a < c
            · rw [decide_eq_true (by omega), oif_t, mid_of (by omega)]
              unfold j100_6
              by_cases k2 : c < (a + b) / 2
              · rw [decide_eq_true (by omega), oif_t, mid_of (by omega)]
                have := p_symT j (d := d) (p := p) (A := A1) (B := B1) (s := A2 ++ (B2 ++ s)) (a := a) (m := c) (b := (a + b) / 2) (f := false) (by omega) (by omega) (by omega) (Srt.left sa) (Srt.left sb) ha (by omega) (by omega) (by simp <;> omega)
                rw [show d + j + 1 + 1 + 1 = d + j + 3 by omega]
                refine Ok.bind this fun r hr => ?_
                obtain ⟨R1, rfl, hR1⟩ := hr
                exact s5 R1 hR1
              · rw [decide_eq_false (by omega), oif_f]
                obtain rfl : B1 = [] := List.length_eq_zero_iff.1 (by omega)
                exact s5 A1 (by simpa using Stb.self (Srt.left sa))
            · rw [decide_eq_false (by omega), oif_f]
              unfold j100_6
              rw [oif_f]
              obtain rfl : A1 = [] := List.length_eq_zero_iff.1 (by omega)
              exact s5 B1 (by simpa using Stb.self (Srt.left sb))
          unfold j100_9
          rw [mid_of (by omega), wrA (by omega), wrS (by omega) (by omega), hend]
          have e1 : p ++ (A1 ++ A2 ++ (B1 ++ B2 ++ s)) = (p ++ A1) ++ (A2 ++ (B1 ++ (B2 ++ s))) := by simp
          by_cases k1 : c < m
          · rw [decide_eq_true (by omega), oif_t]
            unfold j100_8
            by_cases k2 : m < m + B1.length
            · rw [decide_eq_true (by omega), oif_t, mid_of (by omega), wrA (by omega), wrS (by omega) (by omega), hend, e1]
              have := p_rotT (d := d + j + 1) (p := p ++ A1) (U := A2) (V := B1) (s := B2 ++ s) (a := c) (m := m) (b := m + B1.length) (f := false) (by omega) (by omega) (by simp <;> omega) (by simp <;> omega) (by simp <;> omega) (by simp <;> omega)
              rw [show d + j + 1 + 1 + 1 = d + j + 1 + 2 by omega]
              refine Ok.bind this fun r hr => ?_
              subst hr
              rw [show p ++ A1 ++ (B1 ++ (A2 ++ (B2 ++ s))) = p ++ (A1 ++ (B1 ++ (A2 ++ (B2 ++ s)))) by simp]
              exact s7
            · rw [decide_eq_false (by omega), oif_f]
              obtain rfl : B1 = [] := List.length_eq_zero_iff.1 (by omega)
              simpa using s7
          · rw [decide_eq_false (by omega), oif_f]
            unfold j100_8
            rw [oif_f]
            obtain rfl : A2 = [] := List.length_eq_zero_iff.1 (by omega)
            simpa using s7
        have srch : ∀ lo hi : Nat, a ≤ lo → lo ≤ hi → hi ≤ m → (∀ c, lo ≤ c → c < hi → m ≤ (a + b) / 2 + m - 1 - c ∧ (a + b) / 2 + m - 1 - c < b) → m ≤ (a + b) / 2 + m - hi → (a + b) / 2 + m - lo ≤ b → (lo = a ∨ (a + b) / 2 + m - lo = b) → (hi = m ∨ (a + b) / 2 + m - hi = m) →
            Ok (j100_10 (d + j + 1 + 1) (p ++ (A ++ (B ++ s))) (a : Int) (m : Int) (b : Int) (lo : Int) (hi : Int)) fun r => ∃ R, r = p ++ (R ++ s) ∧ Stb kyT (A ++ B) R := by
          intro lo hi q1 q2 q3 q4 q5 q6 q7 q8
          unfold j100_10
          refine half_ok (P := fun c => match A[c - a]?, B[(a + b) / 2 - 1 - c]? with | some x, some y => !decide (y.1 < x.1) | _, _ => false) (K := fun i => j100_9 (d + j + 1 + 1) (p ++ (A ++ (B ++ s))) (a : Int) (m : Int) (b : Int) i) q2 (by omega) (fun ag i k r1 r2 r3 => ?_) (fun ag i => ?_) (fun c r1 r2 r3 r4 => ?_)
          · simp only [l100_4, l100_4_b]
            obtain ⟨t1, t2⟩ := q4 ((i + k) / 2) (by omega) (by omega)
            rw [decide_eq_true (by omega), oif_t, mid_of (by omega), mid_of (by omega), wrA (by omega), wrP (by omega) (by omega), wrS (by omega) (by omega)]
            obtain ⟨x, hx⟩ : ∃ x, A[(i + k) / 2 - a]? = some x := ⟨_, List.getElem?_eq_getElem (by omega)⟩
            obtain ⟨y, hy⟩ : ∃ y, B[(a + b) / 2 - 1 - (i + k) / 2]? = some y := ⟨_, List.getElem?_eq_getElem (by omega)⟩
            have hx2 : (p ++ (A ++ (B ++ s)))[(i + k) / 2]? = some x := by
              have := getsT (p := p) (s := B ++ s) hx
              rw [show p.length + ((i + k) / 2 - a) = (i + k) / 2 by omega] at this
              exact this
            have hy2 : (p ++ (A ++ (B ++ s)))[(a + b) / 2 + m - 1 - (i + k) / 2]? = some y := by
              have := getsT (p := p ++ A) (s := s) hy
              rw [show (p ++ A).length + ((a + b) / 2 - 1 - (i + k) / 2) = (a + b) / 2 + m - 1 - (i + k) / 2 by simp <;> omega] at this
              simpa using this
            have l1 := (List.getElem?_eq_some_iff.1 hy2).1
            have l2 := (List.getElem?_eq_some_iff.1 hx2).1
            simp only [nn, ofNat_toNat, oif_t, blt_of l1, blt_of l2, hx2, hy2, ob_s]
            obtain ⟨c, hc, hlt⟩ := cmpT (d := d + j + 1) (a := y.1) (b := x.1)
            rw [hc, ob_s, hlt, hx, hy, wr1 (by omega)]
          · simp only [l100_4, l100_4_b]
            rw [decide_eq_false (by omega), oif_f]
          · refine key c (by omega) (by omega) (by omega) (by omega) (fun x hx y hy => ?_) (fun x hx y hy => ?_)
            · obtain ⟨i, hi', rfl⟩ := List.getElem_of_mem hx
              obtain ⟨k, hk, rfl⟩ := List.getElem_of_mem hy
              simp only [List.length_drop, List.length_take] at hi' hk
              have hc : c < hi := by
                rcases q8 with h | h <;> omega
              have := r4 hc
              have ha0 : A[c - a]? = some (A[c - a]'(by omega)) := List.getElem?_eq_getElem _
              have hb0 : B[(a + b) / 2 - 1 - c]? = some (B[(a + b) / 2 - 1 - c]'(by omega)) := List.getElem?_eq_getElem _
              rw [ha0, hb0] at this
              simp only [Bool.not_eq_false', decide_eq_true_eq] at this
              have e1 := sa.get (i := c - a) (j := c - a + i) (by omega) ha0 (List.getElem?_eq_getElem (by omega))
              have e2 := sb.get (i := k) (j := (a + b) / 2 - 1 - c) (by omega) (List.getElem?_eq_getElem (by omega)) hb0
              rw [List.getElem_drop, List.getElem_take]
              exact Int.lt_of_le_of_lt e2 (Int.lt_of_lt_of_le this e1)
            · obtain ⟨i, hi', rfl⟩ := List.getElem_of_mem hx
              obtain ⟨k, hk, rfl⟩ := List.getElem_of_mem hy
              simp only [List.length_drop, List.length_take] at hi' hk
              have hc : lo < c := by
                rcases q7 with h | h <;> omega
              have := r3 hc
              have ha0 : A[c - 1 - a]? = some (A[c - 1 - a]'(by omega)) := List.getElem?_eq_getElem _
              have hb0 : B[(a + b) / 2 - 1 - (c - 1)]? = some (B[(a + b) / 2 - 1 - (c - 1)]'(by omega)) := List.getElem?_eq_getElem _
              rw [ha0, hb0] at this
              simp only [Bool.not_eq_true', decide_eq_false_iff_not] at this
              have e1 := sa.get (i := i) (j := c - 1 - a) (by omega) (List.getElem?_eq_getElem (by omega)) ha0
              have e2 := sb.get (i := (a + b) / 2 - 1 - (c - 1)) (j := (a + b) / 2 - c + k) (by omega) hb0 (List.getElem?_eq_getElem (by omega))
              rw [List.getElem_drop, List.getElem_take]
              have h3 : kyT (A[c - 1 - a]'(by omega)) ≤ kyT (B[(a + b) / 2 - 1 - (c - 1)]'(by omega)) := by
                show (A[c - 1 - a]'(by omega)).1 ≤ (B[(a + b) / 2 - 1 - (c - 1)]'(by omega)).1
                omega
              exact Int.le_trans e1 (Int.le_trans h3 e2)
        by_cases c3 : (a + b) / 2 < m
        · rw [decide_eq_true c3, oif_t, wrA (by omega), wrS (by omega) (by omega)]
          exact srch _ _ (by omega) (by omega) (by omega) (fun c g1 g2 => by omega) (by omega) (by omega) (by omega) (by omega)
        · rw [decide_eq_false c3, oif_f]
          exact srch _ _ (by omega) (by omega) (by omega) (fun c g1 g2 => by omega) (by omega) (by omega) (by omega) (by omega)

theorem p_stableT {d : Nat} {X : List ElT} {f : Bool} (hL : X.length ≤ 1000000) : Ok (g88 (d + 24) X ((X.length : Nat) : Int) f) fun r => Stb kyT X r := by
  rw [show d + 24 = (d + 23) + 1 from rfl, e88]
  refine iter_ok (fun k st => ∃ p Y, st = (((p.length : Nat) : Int), ((p.length + 20 : Nat) : Int), p ++ Y) ∧ p.length + Y.length = X.length ∧ (∀ D, Blks kyT 20 Y D → Blks kyT 20 X (p ++ D)) ∧ k = Y.length) ?_ _ X.length _ (by rw [fuelN_eq]; omega) ⟨[], X, rfl, by simp, fun D h => h, rfl⟩
  rintro k st ag ⟨p, Y, rfl, h1, h2, rfl⟩ hag
  simp only [l88_0, l88_0_b]
  by_cases c1 : p.length + 20 ≤ X.length
  · rw [decide_eq_true (by omega), oif_t]
    obtain ⟨Y1, Y2, rfl, hY⟩ := split_at (l := Y) (i := 20) (by omega)
    simp only [List.length_append] at h1 hag
    have := p_insertT (d := d + 20) (p := p) (X := Y1) (s := Y2) (a := p.length) (b := p.length + 20) (f := false) rfl (by omega) (by omega)
    rw [show p ++ (Y1 ++ Y2) = p ++ (Y1 ++ Y2) from rfl]
    refine Ok.bind this fun r hr => ?_
    obtain ⟨R, rfl, hR⟩ := hr
    have hRl := hR.len
    rw [show (((p.length + 20 : Nat) : Int) + 20) = ((p.length + 20 + 20 : Nat) : Int) by omega, wr (n := ((p.length + 20 + 20 : Nat) : Int)) (by omega) (by omega)]
    refine hag Y2.length _ (by omega) ⟨p ++ R, Y2, by rw [List.length_append, hRl, hY]; simp, by rw [List.length_append, hRl]; omega, fun D hD => ?_, rfl⟩
    rw [List.append_assoc]
    exact h2 _ (Blks.cons Y1 R Y2 D hY hR hD)
  · rw [decide_eq_false (by omega), oif_f]
    unfold j88_2
    have := p_insertT (d := d + 20) (p := p) (X := Y) (s := []) (a := p.length) (b := X.length) (f := false) rfl (by omega) (by simp <;> omega)
    rw [show p ++ Y = p ++ (Y ++ []) by simp]
    refine Ok.bind this fun r hr => ?_
    obtain ⟨R, rfl, hR⟩ := hr
    have hB := h2 R (Blks.last Y R (by omega) hR)
    clear this hag
    generalize ((p.length : Nat) : Int) = n5
    generalize ((p.length + 20 : Nat) : Int) = n6
    refine iter_ok (fun k st => ∃ (bs : Nat) (x y : Int) (D : List ElT), st = ((bs : Int), x, y, D) ∧ 1 ≤ bs ∧ bs ≤ 2000020 ∧ Blks kyT bs X D ∧ k = 2000020 - bs) ?_ _ 2000000 _ (by rw [fuelN_eq]; omega) ⟨20, n5, n6, p ++ (R ++ []), rfl, by omega, by omega, by simpa using hB, by omega⟩
    rintro k st ag ⟨bs, x, y, D, rfl, b1, b2, b3, rfl⟩ hag
    simp only [l88_1, l88_1_b]
    by_cases c2 : bs < X.length
    · rw [decide_eq_true (by omega), oif_t, show ((2 : Int) * (bs : Int)) = ((2 * bs : Nat) : Int) by omega, wr (n := ((2 * bs : Nat) : Int)) (by omega) (by omega)]
      have hD := b3.len
      refine iter_ok (fun k st => ∃ p Y0 Y, st = (((p.length : Nat) : Int), ((p.length + 2 * bs : Nat) : Int), p ++ Y) ∧ p.length + Y.length = X.length ∧ Blks kyT bs Y0 Y ∧ (∀ D, Blks kyT (2 * bs) Y0 D → Blks kyT (2 * bs) X (p ++ D)) ∧ k = Y.length) ?_ _ X.length _ (by rw [fuelN_eq]; omega) ⟨[], X, D, by simp, by simp [hD], b3, fun D h => h, hD.symm⟩
      rintro k st ag2 ⟨p, Y0, Y, rfl, h1, h2, h3, rfl⟩ hag2
      have hYl := h2.len
      simp only [l88_2, l88_2_b]
      by_cases c3 : p.length + 2 * bs ≤ X.length
      · rw [decide_eq_true (by omega), oif_t, wrA (by omega)]
        obtain ⟨X1, D1, X', D', rfl, rfl, g1, g2, g3⟩ := h2.two (by omega)
        have g1l := g2.len
        simp only [List.length_append] at hYl h1
        obtain ⟨D2, D3, X2, X3, hX', hD', g4, g5, g6⟩ : ∃ D2 D3 X2 X3, X' = X2 ++ X3 ∧ D' = D2 ++ D3 ∧ X2.length = bs ∧ Stb kyT X2 D2 ∧ Blks kyT bs X3 D3 := by
          by_cases hc : bs < X'.length
          · obtain ⟨X2, D2, X3, D3, e1, e2, e3, e4, e5⟩ := g3.two hc
            exact ⟨D2, D3, X2, X3, e1, e2, e3, e4, e5⟩
          · have hl := g3.len
            exact ⟨D', [], X', [], by simp, by simp, by omega, g3.one (by omega), Blks.last _ _ (by simp) (Stb.self List.Pairwise.nil)⟩
        subst hX' hD'
        have g4l := g5.len
        have g6l := g6.len
        simp only [List.length_append] at hYl h1 hag2
        have := p_symT 20 (d := d) (p := p) (A := D1) (B := D2) (s := D3) (a := p.length) (m := p.length + bs) (b := p.length + 2 * bs) (f := false) (by omega) (by omega) (by omega) g2.srt g5.srt rfl (by omega) (by omega) (by omega)
        rw [show p ++ (D1 ++ (D2 ++ D3)) = p ++ (D1 ++ (D2 ++ D3)) from rfl]
        refine Ok.bind this fun r hr => ?_
        obtain ⟨R, rfl, hR⟩ := hr
        have hRl := hR.len
        simp only [List.length_append] at hRl
        rw [show ((2 : Int) * (bs : Int)) = ((2 * bs : Nat) : Int) by omega, wr (n := ((2 * bs : Nat) : Int)) (by omega) (by omega), wrA (by omega)]
        refine hag2 D3.length _ (by omega) ⟨p ++ R, X3, D3, by rw [List.length_append, hRl, show D1.length + D2.length = 2 * bs by omega]; simp, by rw [List.length_append, hRl]; omega, g6, fun D hD => ?_, rfl⟩
        rw [List.append_assoc]
        refine h3 _ ?_
        rw [← List.append_assoc]
        exact Blks.cons (X1 ++ X2) R X3 D (by simp <;> omega) (hR.comp g2 g5) hD
      · rw [decide_eq_false (by omega), oif_f]
        unfold j88_1
        rw [wrA (by omega), show ((bs : Int) * 2) = ((2 * bs : Nat) : Int) by omega, wr (n := ((2 * bs : Nat) : Int)) (by omega) (by omega)]
        by_cases c4 : p.length + bs < X.length
        · rw [decide_eq_true (by omega), oif_t]
          obtain ⟨X1, D1, X', D', rfl, rfl, g1, g2, g3⟩ := h2.two (by omega)
          have g1l := g2.len
          have g3l := g3.len
          simp only [List.length_append] at hYl h1
          have g5 := g3.one (by omega)
          have := p_symT 20 (d := d) (p := p) (A := D1) (B := D') (s := []) (a := p.length) (m := p.length + bs) (b := X.length) (f := false) (by omega) (by omega) (by omega) g2.srt g5.srt rfl (by omega) (by omega) (by simp <;> omega)
          rw [show p ++ (D1 ++ D') = p ++ (D1 ++ (D' ++ [])) by simp]
          refine Ok.bind this fun r hr => ?_
          obtain ⟨R, rfl, hR⟩ := hr
          refine hag _ _ ?_ ⟨2 * bs, _, _, _, rfl, by omega, by omega, ?_, rfl⟩
          · omega
          · simp only [List.append_nil]
            exact h3 R (Blks.last _ _ (by simp <;> omega) (hR.comp g2 g5))
        · rw [decide_eq_false (by omega), oif_f]
          refine hag _ _ ?_ ⟨2 * bs, _, _, _, rfl, by omega, by omega, h3 Y (Blks.last _ _ (by omega) (h2.one (by omega))), rfl⟩
          omega
    · rw [decide_eq_false (by omega), oif_f]
      unfold j88_0
      exact Ok.some (b3.one (by omega))

def tmOk (x : Tm) : Bool := tkOk x.1 && pkOk x.2

def ordI : Int → List Tm → Bool
  | _, [] => true
  | a, x :: r => tmOk x && (decide (a ≤ x.1) && ordI x.1 r)

def tmsOk (l : List Tm) : Bool := ordI 0 l && decide (((l.length : Nat) : Int) ≤ 60)

theorem tkOk_in {n : Int} (h : tkOk n = true) : 0 ≤ n ∧ n ≤ 100000 := by unfold tkOk at h; simpa using h

theorem ordI_all : ∀ {l : List Tm} {a : Int}, ordI a l = true → ∀ x ∈ l, tmOk x = true
  | [], a, _, x, hx => by simp at hx
  | y :: r, a, h, x, hx => by
    simp only [ordI, Bool.and_eq_true] at h
    rcases List.mem_cons.1 hx with rfl | hx
    · exact h.1
    · exact ordI_all h.2.2 x hx

theorem tmOk_in {x : Tm} (h : tmOk x = true) : 0 ≤ x.1 ∧ x.1 ≤ 100000 ∧ pkOk x.2 = true := by
  unfold tmOk at h
  simp only [Bool.and_eq_true] at h
  have := tkOk_in h.1
  exact ⟨this.1, this.2, h.2⟩

theorem ord_range {β : Type} {l : List Tm} {fin : Bool → Option β} {no : Option β} : ∀ (r : List Tm) (i : Nat) (a : Int) (t : Bool), l.drop i = r → (i = 0 → a = 0) → (0 < i → ∃ y, l[i - 1]? = some y ∧ y.1 = a) →
    rangeR (fun x i t k => oif (!tmOk x) no (oif (decide ((i : Int) > 0)) (obind (l[i - 1]?) fun y => oif (decide (x.1 < y.1)) no (k t)) (k t))) fin r i t = oif (ordI a r) (fin t) no
  | [], i, a, t, _, _, _ => rfl
  | x :: r, i, a, t, hd, h0, h1 => by
    have hi : i < l.length := by
      rcases Nat.lt_or_ge i l.length with h | h
      · exact h
      · rw [List.drop_of_length_le h] at hd; simp at hd
    have hx : l[i]? = some x := by
      have := List.drop_eq_getElem_cons hi
      rw [hd] at this; injection this with e _; rw [List.getElem?_eq_getElem hi, ← e]
    have hd' : l.drop (i + 1) = r := by
      have := List.drop_eq_getElem_cons hi
      rw [hd] at this; injection this with _ e; exact e.symm
    have ih := ord_range (fin := fin) (no := no) r (i + 1) x.1 t hd' (by omega) (fun _ => ⟨x, by simpa using hx, rfl⟩)
    simp only [rangeR, ordI]
    cases hp : tmOk x with
    | false => rfl
    | true =>
      simp only [Bool.not_true, oif_f, Bool.true_and]
      by_cases hi0 : i = 0
      · subst hi0
        obtain rfl := h0 rfl
        have := tmOk_in hp
        rw [decide_eq_true (show (0 : Int) ≤ x.1 by omega), Bool.true_and]
        simp only [Int.natCast_zero]
        rw [show decide ((0 : Int) > 0) = false from rfl, oif_f]
        exact ih
      · obtain ⟨y, e1, e2⟩ := h1 (by omega)
        rw [decide_eq_true (show ((i : Int) > 0) by omega), oif_t, e1, ob_s, e2]
        by_cases h : x.1 < a
        · rw [decide_eq_true h, oif_t, decide_eq_false (by omega)]; rfl
        · rw [decide_eq_false h, oif_f, decide_eq_true (by omega), Bool.true_and]; exact ih

theorem q_areTimed {d : Nat} {l : List Tm} (hl : l.length < 4194304) : g66 (d + 3) l = some (tmsOk l) := by
  rw [e66]
  refine (range_eq (fun (t : Bool) (i : Int) => (t, i)) l (fun x i t k => oif (!tmOk x) (some false) (oif (decide ((i : Int) > 0)) (obind (l[i - 1]?) fun y => oif (decide (x.1 < y.1)) (some false) (k t)) (k t))) (j66_0 (d + 2) l) ?_ ?_ (by rw [fuelN_eq]; exact hl) false).trans ?_
  · intro ag t i x hx
    have hi := (List.getElem?_eq_some_iff.1 hx).1
    simp only [l66_0, l66_0_b, ltl hx, nn, ofNat_toNat, hx, ob_s, oif_t]
    rw [q_isTicks, ob_s]
    unfold tmOk tkOk
    cases h1 : decide (0 ≤ x.1 ∧ x.1 ≤ 100000) with
    | false => simp only [Bool.not_false, oif_t, Bool.false_and]; unfold j66_1; rfl
    | true =>
      rw [Bool.not_true, oif_f, q_IsPacket, ob_s, Bool.true_and]
      cases h2 : pkOk x.2 with
      | false => simp only [Bool.not_false, oif_t]; unfold j66_1; rfl
      | true =>
        simp only [Bool.not_true, oif_f]
        unfold j66_1
        simp only [wr1 (show i < 9223372036854775807 by omega)]
        by_cases h0 : (i : Int) > 0
        · rw [decide_eq_true h0, oif_t, oif_t, wr (n := (i : Int) - 1) (by omega) (by omega), decide_eq_true (show (0 : Int) ≤ (i : Int) - 1 by omega), oif_t, show ((i : Int) - 1).toNat = i - 1 by omega]
        · rw [decide_eq_false h0]; rfl
  · intro ag t; simp only [l66_0, l66_0_b, ltn, oif_f]
  · rw [ord_range l 0 0 false (by simp) (fun _ => rfl) (fun h => absurd h (by omega))]
    unfold tmsOk j66_0
    cases ordI 0 l <;> rfl

theorem q_tfTimed {d : Nat} {l : List Tm} (hl : l.length < 4194304) : g67 (d + 4) l = some (tmsOk l) := by
  rw [e67]
  refine (range_eq (fun (t : Bool) (i : Int) => (t, i)) l (fun x i t k => oif (!tmOk x) (some false) (oif (decide ((i : Int) > 0)) (obind (l[i - 1]?) fun y => oif (decide (x.1 < y.1)) (some false) (k t)) (k t))) (j67_0 (d + 3) l) ?_ ?_ (by rw [fuelN_eq]; exact hl) false).trans ?_
  · intro ag t i x hx
    have hi := (List.getElem?_eq_some_iff.1 hx).1
    simp only [l67_0, l67_0_b, ltl hx, nn, ofNat_toNat, hx, ob_s, oif_t]
    rw [q_tfTick, ob_s]
    unfold tmOk
    cases h1 : tkOk x.1 with
    | false => simp only [Bool.not_false, oif_t, Bool.false_and]; unfold j67_1; rfl
    | true =>
      rw [Bool.not_true, oif_f, q_pkGood, ob_s, Bool.true_and]
      cases h2 : pkOk x.2 with
      | false => simp only [Bool.not_false, oif_t]; unfold j67_1; rfl
      | true =>
        simp only [Bool.not_true, oif_f]
        unfold j67_1
        simp only [wr1 (show i < 9223372036854775807 by omega)]
        by_cases h0 : (i : Int) > 0
        · rw [decide_eq_true h0, oif_t, oif_t, wr (n := (i : Int) - 1) (by omega) (by omega), decide_eq_true (show (0 : Int) ≤ (i : Int) - 1 by omega), oif_t, show ((i : Int) - 1).toNat = i - 1 by omega]
        · rw [decide_eq_false h0]; rfl
  · intro ag t; simp only [l67_0, l67_0_b, ltn, oif_f]
  · rw [ord_range l 0 0 false (by simp) (fun _ => rfl) (fun h => absurd h (by omega))]
    unfold tmsOk j67_0
    cases ordI 0 l <;> rfl

def tmS (x : Tm) : Int := x.2.2.2.2.2.2

def sumC (c : Tm → Bool) : List Tm → Int
  | [] => 0
  | x :: r => (if c x then tmS x else 0) + sumC c r

theorem tmS_in {x : Tm} (h : tmOk x = true) : 1 ≤ tmS x ∧ tmS x ≤ 1500 := by
  have := pkOk_in (tmOk_in h).2.2
  unfold tmS; omega

theorem sumC_in {c : Tm → Bool} : ∀ {l : List Tm}, (∀ x ∈ l, tmOk x = true) → 0 ≤ sumC c l ∧ sumC c l ≤ 1500 * (l.length : Int)
  | [], _ => by simp [sumC]
  | x :: r, h => by
    have := sumC_in (c := c) (l := r) fun y hy => h y (by simp [hy])
    have := tmS_in (h x (by simp))
    simp only [sumC, List.length_cons]
    split <;> omega

theorem sumC_mono {c c' : Tm → Bool} : ∀ {l : List Tm}, (∀ x ∈ l, tmOk x = true) → (∀ x ∈ l, c x = true → c' x = true) → sumC c l ≤ sumC c' l
  | [], _, _ => by simp [sumC]
  | x :: r, h, hc => by
    have := sumC_mono (l := r) (fun y hy => h y (by simp [hy])) fun y hy => hc y (by simp [hy])
    have := tmS_in (h x (by simp))
    have := hc x (by simp)
    simp only [sumC]
    cases h1 : c x with
    | false => simp only [Bool.false_eq_true, if_false]; split <;> omega
    | true => rw [this h1]; simp only [if_true]; omega

theorem sumC_drop {c : Tm → Bool} : ∀ {l : List Tm} (i : Nat), (∀ x ∈ l, tmOk x = true) → sumC c (l.drop i) ≤ sumC c l
  | [], i, _ => by simp [sumC]
  | x :: r, 0, _ => by simp
  | x :: r, i + 1, h => by
    have := sumC_drop (c := c) (l := r) i fun y hy => h y (by simp [hy])
    have := tmS_in (h x (by simp))
    simp only [sumC, List.drop_succ_cons]
    split <;> omega

theorem sumC_range {β : Type} {c : Tm → Bool} {fin : Int → Option β} : ∀ (l : List Tm) (i : Nat) (t : Int), (∀ x ∈ l, tmOk x = true) → 0 ≤ t → t + 1500 * (l.length : Int) ≤ 9000000000000000000 →
    rangeR (fun x _ t k => oif (c x) (k (IntKind.i64.wrap (t + tmS x))) (k t)) fin l i t = fin (t + sumC c l)
  | [], i, t, _, _, _ => by simp [rangeR, sumC]
  | x :: r, i, t, h, h0, h1 => by
    have hx := tmS_in (h x (by simp))
    simp only [List.length_cons] at h1
    have ih := fun t' a b => sumC_range (c := c) (fin := fin) r (i + 1) t' (fun y hy => h y (by simp [hy])) a b
    simp only [rangeR, sumC]
    cases c x with
    | true => rw [oif_t, wr (by omega) (by omega), ih (t + tmS x) (by omega) (by omega)]; simp only [if_true]; congr 1; omega
    | false => rw [oif_f, ih t (by omega) (by omega)]; simp

def buV (l : List Tm) (t : Int) : Int × Bool := if tmsOk l && tkOk t then (sumC (fun x => decide (x.1 ≤ t)) l, true) else (0, false)

theorem tmsOk_in {l : List Tm} (h : tmsOk l = true) : (∀ x ∈ l, tmOk x = true) ∧ l.length ≤ 60 := by
  simp only [tmsOk, Bool.and_eq_true, decide_eq_true_eq] at h
  exact ⟨ordI_all h.1, by omega⟩

theorem q_BytesUntil {d : Nat} {l : List Tm} {t : Int} (hl : l.length < 4194304) : g23 (d + 4) l t = some (buV l t) := by
  rw [e23, q_areTimed hl, ob_s]; unfold buV
  cases h : tmsOk l with
  | false => rfl
  | true =>
    obtain ⟨h1, h2⟩ := tmsOk_in h
    rw [Bool.not_true, oif_f, q_isTicks, ob_s]
    unfold j23_1 tkOk
    cases ht : decide (0 ≤ t ∧ t ≤ 100000) with
    | false => rfl
    | true =>
      simp only [Bool.not_true, oif_f, Bool.and_self, if_true]
      refine (range_eq (fun (t : Int) (i : Int) => (t, i)) l (fun x _ s k => oif (decide (x.1 ≤ t)) (k (IntKind.i64.wrap (s + tmS x))) (k s)) (j23_0 (d + 3)) ?_ ?_ (by rw [fuelN_eq]; exact hl) 0).trans ?_
      · intro ag s i x hx
        have hi := (List.getElem?_eq_some_iff.1 hx).1
        simp only [l23_0, l23_0_b, ltl hx, nn, ofNat_toNat, hx, ob_s, oif_t, wr1 (show i < 9223372036854775807 by omega)]; rfl
      · intro ag t; simp only [l23_0, l23_0_b, ltn, oif_f]
      · rw [sumC_range l 0 0 h1 (by omega) (by omega), Int.zero_add]; rfl

theorem q_sBytesUntil {d : Nat} {l : List Tm} {t : Int} (hl : l.length < 4194304) : g24 (d + 5) l t = some (buV l t) := by
  rw [e24, q_tfTimed hl, ob_s]; unfold buV
  cases h : tmsOk l with
  | false => rfl
  | true =>
    obtain ⟨h1, h2⟩ := tmsOk_in h
    rw [Bool.not_true, oif_f, q_tfTick, ob_s]
    unfold j24_1
    cases ht : tkOk t with
    | false => rfl
    | true =>
      simp only [Bool.not_true, oif_f, Bool.and_self, if_true]
      refine (range_eq (fun (t : Int) (i : Int) => (t, i)) l (fun x _ s k => oif (decide (x.1 ≤ t)) (k (IntKind.i64.wrap (s + tmS x))) (k s)) (j24_0 (d + 4)) ?_ ?_ (by rw [fuelN_eq]; exact hl) 0).trans ?_
      · intro ag s i x hx
        have hi := (List.getElem?_eq_some_iff.1 hx).1
        simp only [l24_0, l24_0_b, ltl hx, nn, ofNat_toNat, hx, ob_s, oif_t, wr1 (show i < 9223372036854775807 by omega)]; rfl
      · intro ag t; simp only [l24_0, l24_0_b, ltn, oif_f]
      · rw [sumC_range l 0 0 h1 (by omega) (by omega), Int.zero_add]; rfl

def inW (a w : Int) (y : Tm) : Bool := decide (y.1 < a + w)

def pkI (w : Int) : Int → List Tm → Int
  | m, [] => m
  | m, x :: r => pkI w (max m (sumC (inW x.1 w) (x :: r))) r

def pkV (l : List Tm) (w : Int) : Int × Bool := if tmsOk l && decide (1 ≤ w ∧ w ≤ 100000) then (pkI w 0 l, true) else (0, false)

theorem pk_range {β : Type} {w : Int} {l : List Tm} {fin : Int → Option β} : ∀ (r : List Tm) (i : Nat) (m : Int), l.drop i = r →
    rangeR (fun x i m k => k (max m (sumC (inW x.1 w) (l.drop i)))) fin r i m = fin (pkI w m r)
  | [], i, m, _ => rfl
  | x :: r, i, m, hd => by
    have hi : i < l.length := by
      rcases Nat.lt_or_ge i l.length with h | h
      · exact h
      · rw [List.drop_of_length_le h] at hd; simp at hd
    have hd' : l.drop (i + 1) = r := by
      have := List.drop_eq_getElem_cons hi
      rw [hd] at this; injection this with _ e; exact e.symm
    simp only [rangeR, pkI]
    rw [hd]
    exact pk_range r (i + 1) _ hd'

theorem q_PeakIn {d : Nat} {l : List Tm} {w : Int} (hl : l.length < 4194304) : g26 (d + 4) l w = some (pkV l w) := by
  rw [e26, q_areTimed hl, ob_s]; unfold pkV
  cases h : tmsOk l with
  | false => rfl
  | true =>
    obtain ⟨h1, h2⟩ := tmsOk_in h
    rw [Bool.not_true, oif_f]
    unfold j26_2
    by_cases hw : w < 1
    · rw [decide_eq_true hw, decide_eq_false (show ¬ (1 ≤ w ∧ w ≤ 100000) by omega)]; rfl
    rw [decide_eq_false hw, oif_f]
    by_cases hw2 : w > 100000
    · rw [decide_eq_true hw2, decide_eq_false (show ¬ (1 ≤ w ∧ w ≤ 100000) by omega)]; rfl
    rw [decide_eq_false hw2, decide_eq_true (show 1 ≤ w ∧ w ≤ 100000 by omega)]
    simp only [oif_f, Bool.and_self, if_true]
    refine (range_eq (fun (t : Int) (i : Int) => (t, i)) l (fun x i m k => k (max m (sumC (inW x.1 w) (l.drop i)))) (j26_0 (d + 3)) ?_ ?_ (by rw [fuelN_eq]; exact hl) 0).trans ?_
    · intro ag m i x hx
      have hi := (List.getElem?_eq_some_iff.1 hx).1
      have hxm := tmOk_in (h1 x (List.mem_iff_getElem?.2 ⟨i, hx⟩))
      have hdr : ∀ y ∈ l.drop i, tmOk y = true := fun y hy => h1 y (List.mem_of_mem_drop hy)
      simp only [l26_0, l26_0_b, ltl hx, nn, ofNat_toNat, oif_t, ble_t (show i ≤ l.length by omega)]
      refine (range_eq (fun (t : Int) (i : Int) => (t, i)) (l.drop i) (fun y _ s k => oif (inW x.1 w y) (k (IntKind.i64.wrap (s + tmS y))) (k s)) (fun s => j26_1 (d + 3) ag m (i : Int) s ((l.drop i).length : Int)) ?_ ?_ (by rw [fuelN_eq, List.length_drop]; omega) 0).trans ?_
      · intro ag2 s j y hy
        have hj := (List.getElem?_eq_some_iff.1 hy).1
        have hym := tmOk_in (hdr y (List.mem_iff_getElem?.2 ⟨j, hy⟩))
        rw [List.length_drop] at hj
        simp only [l26_1, l26_1_b, ofNat_toNat, ltl hy, nn, hy, hx, ob_s, oif_t, wr1 (show j < 9223372036854775807 by omega)]
        rw [wr (n := y.1 - x.1) (by omega) (by omega), show decide (y.1 - x.1 < w) = inW x.1 w y from decide_eq_decide.2 (by omega)]; rfl
      · intro ag2 s; simp only [l26_1, l26_1_b, ofNat_toNat, ltn, oif_f]
      · have hs := sumC_in (c := inW x.1 w) hdr
        rw [sumC_range _ 0 0 hdr (by omega) (by rw [List.length_drop]; omega), Int.zero_add]
        unfold j26_1
        rw [wr1 (by omega), show (if sumC (inW x.1 w) (l.drop i) > m then sumC (inW x.1 w) (l.drop i) else m) = max m (sumC (inW x.1 w) (l.drop i)) by rw [Int.max_def]; split <;> split <;> omega]
    · intro ag t; simp only [l26_0, l26_0_b, ltn, oif_f]
    · rw [pk_range l 0 0 (by simp)]; rfl

theorem q_sPeakIn {d : Nat} {l : List Tm} {w : Int} (hl : l.length < 4194304) : g27 (d + 5) l w = some (pkV l w) := by
  rw [e27, q_tfTimed hl, ob_s]; unfold pkV
  cases h : tmsOk l with
  | false => rfl
  | true =>
    obtain ⟨h1, h2⟩ := tmsOk_in h
    rw [Bool.not_true, oif_f, q_l1In, ob_s]
    unfold j27_2
    by_cases hw : 1 ≤ w ∧ w ≤ 100000
    case neg => rw [decide_eq_false hw]; rfl
    rw [decide_eq_true hw]
    simp only [Bool.not_true, oif_f, Bool.and_self, if_true]
    refine (range_eq (fun (t : Int) (i : Int) => (t, i)) l (fun x i m k => k (max m (sumC (inW x.1 w) (l.drop i)))) (j27_0 (d + 4)) ?_ ?_ (by rw [fuelN_eq]; exact hl) 0).trans ?_
    · intro ag m i x hx
      have hi := (List.getElem?_eq_some_iff.1 hx).1
      have hxm := tmOk_in (h1 x (List.mem_iff_getElem?.2 ⟨i, hx⟩))
      have hdr : ∀ y ∈ l.drop i, tmOk y = true := fun y hy => h1 y (List.mem_of_mem_drop hy)
      simp only [l27_0, l27_0_b, ltl hx, nn, ofNat_toNat, hx, ob_s, oif_t, ble_t (show i ≤ l.length by omega)]
      refine (range_eq (fun (t : Int) (i : Int) => (t, i)) (l.drop i) (fun y _ s k => oif (inW x.1 w y) (k (IntKind.i64.wrap (s + tmS y))) (k s)) (fun s => j27_1 (d + 4) ag m (i : Int) s ((l.drop i).length : Int)) ?_ ?_ (by rw [fuelN_eq, List.length_drop]; omega) 0).trans ?_
      · intro ag2 s j y hy
        have hj := (List.getElem?_eq_some_iff.1 hy).1
        rw [List.length_drop] at hj
        simp only [l27_1, l27_1_b, ofNat_toNat, ltl hy, nn, hy, ob_s, oif_t, wr1 (show j < 9223372036854775807 by omega)]
        rw [wr (n := x.1 + w) (by omega) (by omega)]; rfl
      · intro ag2 s; simp only [l27_1, l27_1_b, ofNat_toNat, ltn, oif_f]
      · have hs := sumC_in (c := inW x.1 w) hdr
        rw [sumC_range _ 0 0 hdr (by omega) (by rw [List.length_drop]; omega), Int.zero_add]
        unfold j27_1
        rw [wr1 (by omega), q_l1Most, ob_s]
    · intro ag t; simp only [l27_0, l27_0_b, ltn, oif_f]
    · rw [pk_range l 0 0 (by simp)]; rfl

theorem pkI_mono {w : Int} : ∀ {l : List Tm} {m n : Int}, (∀ x ∈ l, tmOk x = true) → m ≤ n → pkI w m l ≤ pkI (w + 1) n l
  | [], m, n, _, h => h
  | x :: r, m, n, h, hmn => by
    simp only [pkI]
    refine pkI_mono (fun y hy => h y (by simp [hy])) ?_
    have := sumC_mono (c := inW x.1 w) (c' := inW x.1 (w + 1)) h (fun y _ hy => by unfold inW at *; simp only [decide_eq_true_eq] at *; omega)
    omega

theorem pkI_le {w M : Int} : ∀ {l : List Tm} {m : Int}, (∀ x ∈ l, tmOk x = true) → sumC (fun x => decide (x.1 ≤ 100000)) l ≤ M → m ≤ M → pkI w m l ≤ M
  | [], m, _, _, h => h
  | x :: r, m, h, hs, hm => by
    simp only [pkI]
    have h1 := sumC_mono (c := inW x.1 w) (c' := fun x => decide (x.1 ≤ 100000)) h (fun y hy _ => decide_eq_true (tmOk_in (h y hy)).2.1)
    have h2 := sumC_drop (c := fun x => decide (x.1 ≤ 100000)) (l := x :: r) 1 h
    simp only [List.drop_succ_cons, List.drop_zero] at h2
    exact pkI_le (fun y hy => h y (by simp [hy])) (by omega) (by omega)

theorem q_qTimedM {d : Nat} {l : List Tm} (hl : l.length < 4194304) : g28 (d + 1) l l = some true := by
  rw [e28, bne_self_eq_false, oif_f]
  refine (range_eq (fun (t : Bool) (i : Int) => (t, i)) l (fun x i t k => k t) (j28_0 d) ?_ ?_ (by rw [fuelN_eq]; exact hl) false).trans ?_
  · intro ag t i x hx
    have hi := (List.getElem?_eq_some_iff.1 hx).1
    simp only [l28_0, l28_0_b, ltl hx, bltl hx, nn, ofNat_toNat, hx, ob_s, oif_t, beq_self_eq_true, Bool.and_self, Bool.not_true, oif_f]
    rw [wr1 (by omega)]
  · intro ag t; simp only [l28_0, l28_0_b, ltn, oif_f]
  · rw [rangeR_fold (f := fun _ _ t => t)]; rfl

theorem extAll : ExtAll Try.prog pvAnn := ExtAll.no (fun _ => rfl) (fun _ => rfl)

end Go.Proofs.Ytpjlbjkeekobnaa
