/-
  What the cursor's functions and the small ones give by value.
  Conditions: the cursor has not been moved 2^62 times.
  Comparing and adding up lists of numbers; ranges.
  Conditions: the lists are shorter than the fuel.
  Packets, in both packages: valid ones, flows, sizes; the draws.
  Conditions: none, but those of the cursor for the draws.
  Queues: valid ones, places of Ids, rooms, dropped heads, removed flows, delays; the draws.
  Conditions: the lists are shorter than the fuel.
  What is given for the library's function that deletes elements.
  Conditions: none.
-/
import Derived.Test.YtaggjheabeoohaaFnDropsRes
import Derived.Test.YtaggjheabeoohaaPKit2
set_option linter.all false
namespace Go.Proofs.Ytaggjheabeoohaa
open Go.Ev Go.Pv

theorem p_next {d m : Nat} {c : List Int × Int × Int} (hc : CurOk m c) (hm : m < 4611686018427387904) : Ok (g260 (d + 1) c) fun r => 0 ≤ r.1 ∧ r.1 < 256 ∧ CurOk (m + 1) r.2 := by
  obtain ⟨hb, h0, h1⟩ := hc
  obtain ⟨code, at', seed⟩ := c
  simp only at hb h0 h1
  have hw : IntKind.i64.wrap (at' + 1) = at' + 1 := wr (by omega) (by omega)
  rw [e260]
  have fin : ∀ n : Int, (at' < code.length → 0 ≤ n ∧ n < 256) → Ok (j260_0 d (code, at', seed) n) fun r => 0 ≤ r.1 ∧ r.1 < 256 ∧ CurOk (m + 1) r.2 := by
    intro n hn
    unfold j260_0
    simp only [hw]
    refine Ok.oif (fun h => ?_) (fun h => ?_)
    · simp only [decide_eq_true_eq] at h
      obtain ⟨a, b⟩ := hn (by omega)
      exact Ok.some ⟨a, b, hb, by simp only; omega, by simp only; omega⟩
    · exact Ok.some ⟨(seedByte _).1, (seedByte _).2, hb, by simp only; omega, by simp only; omega⟩
  refine Ok.oif (fun h => ?_) (fun h => ?_)
  · simp only [decide_eq_true_eq] at h
    refine Ok.oif (fun _ => ?_) (fun h2 => by simp only [decide_eq_false_iff_not] at h2; omega)
    have hlt : at'.toNat < code.length := by omega
    simp only
    rw [List.getElem?_eq_getElem hlt]
    have hx := hb _ (List.getElem_mem hlt)
    refine Ok.bind (Ok.some rfl) (fun a ha => ?_)
    subst ha
    exact fin _ (fun _ => by rw [wr (by omega) (by omega)]; exact hx)
  · simp only [decide_eq_false_iff_not] at h
    exact fin 0 (fun h' => absurd h' h)

theorem p_pick {d m : Nat} {c : List Int × Int × Int} {n : Int} (hc : CurOk m c) (hm : m + 1 < 4611686018427387904) : Ok (g124 (d + 2) c n) fun r => 0 ≤ r.1 ∧ (r.1 < n ∨ r.1 = 0) ∧ CurOk (m + 2) r.2 := by
  rw [e124]
  refine Ok.oif (fun h => ?_) (fun h => ?_)
  · exact Ok.some ⟨by simp, .inr rfl, hc.mono (by omega)⟩
  · simp only [decide_eq_false_iff_not] at h
    refine Ok.bind (p_next hc (by omega)) (fun r hr => ?_)
    obtain ⟨h1, h2, h3⟩ := hr
    have hn : (n == 0) = false := by simp; omega
    refine Ok.oif (fun h4 => ?_) (fun h4 => ?_)
    · refine Ok.bind (p_next h3 (by omega)) (fun q hq => ?_)
      obtain ⟨h5, h6, h7⟩ := hq
      rw [hn]
      rw [wr (n := r.1 * 256) (by omega) (by omega), wr (by omega) (by omega)]
      exact Ok.some ⟨Int.tmod_nonneg _ (by omega), .inl (Int.tmod_lt_of_pos _ (by omega)), h7.mono (by omega)⟩
    · rw [hn]
      exact Ok.some ⟨Int.tmod_nonneg _ (by omega), .inl (Int.tmod_lt_of_pos _ (by omega)), h3.mono (by omega)⟩

theorem p_among {d m : Nat} {c : List Int × Int × Int} {l : List Int} (hc : CurOk m c) (hm : m + 1 < 4611686018427387904) (hl : 0 < l.length) : Ok (g141 (d + 3) c l) fun r => r.1 ∈ l ∧ CurOk (m + 2) r.2 := by
  rw [e141]
  refine Ok.bind (p_pick hc hm) (fun r hr => ?_)
  obtain ⟨h1, h2, h3⟩ := hr
  refine Ok.oif (fun _ => ?_) (fun h => by simp only [decide_eq_false_iff_not] at h; omega)
  have hlt : r.1.toNat < l.length := by omega
  rw [List.getElem?_eq_getElem hlt]
  exact Ok.bind (Ok.some rfl) (fun a ha => by subst ha; exact Ok.some ⟨List.getElem_mem hlt, h3⟩)

theorem p_one {d m : Nat} {c : List Int × Int × Int} {n : Int} (hc : CurOk m c) (hm : m + 1 < 4611686018427387904) : Ok (g125 (d + 3) c n) fun r => CurOk (m + 2) r.2 := by
  rw [e125]
  exact Ok.bind (p_pick hc hm) (fun r hr => Ok.some hr.2.2)

theorem q_l1In {d : Nat} {x y z : Int} : g142 (d + 1) x y z = some (decide (y ≤ x ∧ x ≤ z)) := by
  rw [e142]; simp only [oif_ss]; congr 1; rw [Bool.eq_iff_iff]; simp

def szOk (s : Int) : Bool := decide (1 ≤ s ∧ s ≤ 1500)

theorem q_sameInts {d : Nat} {l : List Int} (hl : l.length < 4194304) : g73 (d + 1) l l = some true := by
  rw [e73, bne_self_eq_false, oif_f]
  refine (range_eq (fun (t : Bool) (i : Int) => (t, i)) l (fun x i t k => k t) (j73_0 d) ?_ ?_ (by rw [fuelN_eq]; exact hl) false).trans ?_
  · intro ag t i x hx; have hi := (List.getElem?_eq_some_iff.1 hx).1; simp only [l73_0, l73_0_b, ltl hx, bltl hx, nn, ofNat_toNat, hx, ob_s, oif_t]; rw [wr1 (by omega)]
    simp only [bne_self_eq_false, oif_f]
  · intro ag t; simp only [l73_0, l73_0_b, ltn, oif_f]
  · rw [rangeR_fold (f := fun _ _ t => t)]; rfl

theorem q_big {d : Nat} {x y : List Int} : ∃ b, g53 (d + 1) x y = some b := by
  rw [e53]; simp only [oif_ss]; exact ⟨_, rfl⟩

abbrev Pk := Int × Int × Int × Int × Int × Int

def wordOk (n : Int) : Bool := decide (0 ≤ n ∧ n ≤ 65535)

def pkOk (p : Pk) : Bool := decide (1 ≤ p.1 ∧ p.1 ≤ 100000 ∧ 0 ≤ p.2.1 ∧ p.2.1 ≤ 65535 ∧ 0 ≤ p.2.2.1 ∧ p.2.2.1 ≤ 65535 ∧ 0 ≤ p.2.2.2.1 ∧ p.2.2.2.1 ≤ 65535 ∧ 0 ≤ p.2.2.2.2.1 ∧ p.2.2.2.2.1 ≤ 65535 ∧ 1 ≤ p.2.2.2.2.2 ∧ p.2.2.2.2.2 ≤ 1500)

theorem pkOk_in {p : Pk} (h : pkOk p = true) : 1 ≤ p.1 ∧ p.1 ≤ 100000 ∧ 0 ≤ p.2.1 ∧ p.2.1 ≤ 65535 ∧ 0 ≤ p.2.2.1 ∧ p.2.2.1 ≤ 65535 ∧ 0 ≤ p.2.2.2.1 ∧ p.2.2.2.1 ≤ 65535 ∧ 0 ≤ p.2.2.2.2.1 ∧ p.2.2.2.2.1 ≤ 65535 ∧ 1 ≤ p.2.2.2.2.2 ∧ p.2.2.2.2.2 ≤ 1500 := by
  simpa [pkOk] using h

theorem q_IsPacket {d : Nat} {x : Pk} : g205 (d + 2) x = some (pkOk x) := by
  rw [e205, e287, ob_s]
  refine (range_eq (fun (t : Bool) (i : Int) => (t, i)) [x.2.1, x.2.2.1, x.2.2.2.1, x.2.2.2.2.1] (fun y _ t k => oif (wordOk y) (k t) (some false)) (j205_0 (d + 1) x) ?_ ?_ (by rw [fuelN_eq]; simp) false).trans ?_
  · intro ag t i y hy
    have hi : i < 4 := by have := (List.getElem?_eq_some_iff.1 hy).1; simpa using this
    have h4 : decide ((i : Int) < 4) = true := by simp; omega
    simp only [l205_0, l205_0_b, h4, nn, ofNat_toNat, oif_t]
    rw [hy, ob_s, wr1 (by omega)]
    unfold wordOk
    by_cases h1 : y < 0
    · rw [decide_eq_true h1, oif_t, decide_eq_false (by omega), oif_f]
    · rw [decide_eq_false h1, oif_f]
      by_cases h2 : y > 65535
      · rw [decide_eq_true h2, oif_t, decide_eq_false (by omega), oif_f]
      · rw [decide_eq_false h2, oif_f, decide_eq_true (by omega), oif_t]
  · intro ag t; rfl
  · rw [rangeR_all (p := wordOk)]
    unfold j205_0
    simp only [oif_ss]
    congr 1
    rw [Bool.eq_iff_iff]
    simp only [List.all_cons, List.all_nil, Bool.and_true, wordOk, pkOk]
    simp
    omega

theorem q_pkWord {d : Nat} {n : Int} : g289 (d + 2) n = some (wordOk n) := by
  rw [e289, q_l1In, ob_s]; rfl

theorem q_pkGood {d : Nat} {x : Pk} : g208 (d + 3) x = some (pkOk x) := by
  rw [e208]
  simp only [q_l1In, q_pkWord, ob_s, oif_ss]
  congr 1
  rw [Bool.eq_iff_iff]
  simp [wordOk, pkOk]
  omega

/-- Valid packets, in order, from an Id on. -/
def incI : Int → List Pk → Bool
  | _, [] => true
  | a, p :: r => pkOk p && (decide (a < p.1) && incI p.1 r)

def pksOk (l : List Pk) : Bool := incI 0 l && decide (((l.length : Nat) : Int) ≤ 60)

theorem incI_all : ∀ {l : List Pk} {a : Int}, incI a l = true → ∀ p ∈ l, pkOk p = true
  | [], _, _, p, hp => by simp at hp
  | q :: r, a, h, p, hp => by
    simp only [incI, Bool.and_eq_true] at h
    rcases List.mem_cons.1 hp with rfl | hp
    · exact h.1
    · exact incI_all h.2.2 p hp

theorem pksOk_in {l : List Pk} (h : pksOk l = true) : (∀ p ∈ l, pkOk p = true) ∧ l.length ≤ 60 := by
  simp only [pksOk, Bool.and_eq_true, decide_eq_true_eq] at h
  exact ⟨incI_all h.1, by omega⟩

def lastI : Int → List Pk → Int
  | a, [] => a
  | _, p :: r => lastI p.1 r

theorem inc_spec {β : Type} {fin : Bool × Int → Option β} {no : Option β} : ∀ (l : List Pk) (i : Nat) (t : Bool × Int),
    rangeR (fun x _ t k => oif (!pkOk x) no (oif (decide (x.1 ≤ t.2)) no (k (t.1, x.1)))) fin l i t = oif (incI t.2 l) (fin (t.1, lastI t.2 l)) no
  | [], i, t => rfl
  | x :: r, i, t => by
    simp only [rangeR, incI]
    cases hx : pkOk x with
    | false => rfl
    | true =>
      simp only [Bool.not_true, oif_f, Bool.true_and]
      by_cases h : x.1 ≤ t.2
      · rw [decide_eq_true h, oif_t, decide_eq_false (by omega)]; rfl
      · rw [decide_eq_false h, oif_f, decide_eq_true (by omega), Bool.true_and, inc_spec r (i + 1) (t.1, x.1)]; rfl

theorem inc_impl {β : Type} {l : List Pk} {fin : Bool → Option β} {no : Option β} : ∀ (r : List Pk) (i : Nat) (a : Int) (t : Bool), l.drop i = r → (i = 0 → a = 0) → (0 < i → ∃ y, l[i - 1]? = some y ∧ y.1 = a) →
    rangeR (fun x i t k => oif (!pkOk x) no (oif (decide ((i : Int) > 0)) (obind (l[i - 1]?) fun y => oif (decide (x.1 ≤ y.1)) no (k t)) (k t))) fin r i t = oif (incI a r) (fin t) no
  | [], i, a, t, _, _, _ => rfl
  | x :: r, i, a, t, hd, h0, h1 => by
    have hi : i < l.length := by
      rcases Nat.lt_or_ge i l.length with h | h
      · exact h
      · rw [List.drop_of_length_le h] at hd; simp at hd
    have hx : l[i]? = some x := by
      have := List.drop_eq_getElem_cons hi
      rw [hd] at this; injection this with e _; rw [List.getElem?_eq_getElem hi, ← e]
    have hd' : l.drop (i + 1) = r := by
      have := List.drop_eq_getElem_cons hi
      rw [hd] at this; injection this with _ e; exact e.symm
    have ih := inc_impl (fin := fin) (no := no) r (i + 1) x.1 t hd' (by omega) (fun _ => ⟨x, by simpa using hx, rfl⟩)
    simp only [rangeR, incI]
    cases hp : pkOk x with
    | false => rfl
    | true =>
      simp only [Bool.not_true, oif_f, Bool.true_and]
      by_cases hi0 : i = 0
      · subst hi0
        obtain rfl := h0 rfl
        have := pkOk_in hp
        rw [decide_eq_true (show (0 : Int) < x.1 by omega), Bool.true_and]
        simp only [Int.natCast_zero]
        rw [show decide ((0 : Int) > 0) = false from rfl, oif_f]
        exact ih
      · obtain ⟨y, e1, e2⟩ := h1 (by omega)
        rw [decide_eq_true (show ((i : Int) > 0) by omega), oif_t, e1, ob_s, e2]
        by_cases h : x.1 ≤ a
        · rw [decide_eq_true h, oif_t, decide_eq_false (by omega)]; rfl
        · rw [decide_eq_false h, oif_f, decide_eq_true (by omega), Bool.true_and]; exact ih

theorem sum_range {α β : Type} {f : α → Int} {fin : Int → Option β} : ∀ (l : List α) (i : Nat) (t : Int), (∀ x ∈ l, 0 ≤ f x ∧ f x ≤ 1000000) → 0 ≤ t → t + 1000000 * (l.length : Int) ≤ 9000000000000000000 →
    rangeR (fun x _ t k => k (IntKind.i64.wrap (t + f x))) fin l i t = fin (t + (l.map f).sum)
  | [], i, t, _, _, _ => by simp [rangeR]
  | x :: r, i, t, h, h0, h1 => by
    have hx := h x (by simp)
    simp only [List.length_cons] at h1
    simp only [rangeR]
    rw [wr (n := t + f x) (by omega) (by omega), sum_range r (i + 1) (t + f x) (fun y hy => h y (by simp [hy])) (by omega) (by omega)]
    simp only [List.map_cons, List.sum_cons]; congr 1; omega

def pkSz (p : Pk) : Int := p.2.2.2.2.2

def szs (l : List Pk) : Int := (l.map pkSz).sum

theorem szs_in {l : List Pk} (h : pksOk l = true) : ∀ x ∈ l, 0 ≤ pkSz x ∧ pkSz x ≤ 1000000 := fun x hx => by
  have := pkOk_in ((pksOk_in h).1 x hx); unfold pkSz; omega

theorem q_sumSizes {d : Nat} {l : List Pk} (h : pksOk l = true) : g226 (d + 1) l = some (szs l) := by
  have h1 := (pksOk_in h).2
  rw [e226]
  refine (range_eq (fun (t : Int) (i : Int) => (t, i)) l (fun x _ t k => k (IntKind.i64.wrap (t + pkSz x))) (j226_0 d) ?_ ?_ (by rw [fuelN_eq]; omega) 0).trans ?_
  · intro ag t i x hx; have hi := (List.getElem?_eq_some_iff.1 hx).1; simp only [l226_0, l226_0_b, ltl hx, bltl hx, nn, ofNat_toNat, hx, ob_s, oif_t]; rw [wr1 (by omega)]
    rfl
  · intro ag t; simp only [l226_0, l226_0_b, ltn, oif_f]
  · rw [sum_range l 0 0 (szs_in h) (by omega) (by omega)]
    unfold j226_0 szs; simp

theorem q_pkSum {d : Nat} {l : List Pk} (h : pksOk l = true) : g211 (d + 1) l = some (szs l) := by
  have h1 := (pksOk_in h).2
  rw [e211]
  refine (range_eq (fun (t : Int) (i : Int) => (t, i)) l (fun x _ t k => k (IntKind.i64.wrap (t + pkSz x))) (j211_0 d) ?_ ?_ (by rw [fuelN_eq]; omega) 0).trans ?_
  · intro ag t i x hx; have hi := (List.getElem?_eq_some_iff.1 hx).1; simp only [l211_0, l211_0_b, ltl hx, bltl hx, nn, ofNat_toNat, hx, ob_s, oif_t]; rw [wr1 (by omega)]
    rfl
  · intro ag t; simp only [l211_0, l211_0_b, ltn, oif_f]
  · rw [sum_range l 0 0 (szs_in h) (by omega) (by omega)]
    unfold j211_0 szs; simp

theorem szs_le : ∀ l : List Pk, (∀ p ∈ l, pkOk p = true) → szs l ≤ 1500 * (l.length : Int)
  | [], _ => by simp [szs]
  | p :: r, h => by
    have h1 := pkOk_in (h p (by simp))
    have h2 := szs_le r (fun q hq => h q (by simp [hq]))
    have h3 : pkSz p ≤ 1500 := h1.2.2.2.2.2.2.2.2.2.2.2
    simp only [szs, List.map_cons, List.sum_cons, List.length_cons] at h2 ⊢
    omega

def tsV (l : List Pk) : Int × Bool := if pksOk l then (szs l, true) else (0, false)

def flOk (k : Int) : Bool := decide (1 ≤ k ∧ k ≤ 64)

def fl1 (a n : Int) : Int := (31 * a + n + 7) % 1000003

def fl3 (p : Pk) : Int := fl1 (fl1 (fl1 40503 p.2.1) p.2.2.1) p.2.2.2.1

def flV (p : Pk) (k : Int) : Int := fl3 p % k

theorem fl1_in (a n : Int) : 0 ≤ fl1 a n ∧ fl1 a n < 1000003 := ⟨Int.emod_nonneg _ (by omega), Int.emod_lt_of_pos _ (by omega)⟩

theorem fl1_raw {a n : Int} (h0 : 0 ≤ a) (h1 : a < 1000003) (h2 : 0 ≤ n) (h3 : n ≤ 65535) : (IntKind.i64.wrap ((IntKind.i64.wrap ((IntKind.i64.wrap ((31 : Int) * a)) + n)) + 7)).tmod 1000003 = fl1 a n := by
  rw [wr (n := 31 * a) (by omega) (by omega), wr (n := 31 * a + n) (by omega) (by omega), wr (by omega) (by omega), Int.tmod_eq_emod_of_nonneg (by omega)]; rfl

theorem flV_in {p : Pk} {k : Int} (h : flOk k = true) : 0 ≤ flV p k ∧ flV p k < k := by
  simp only [flOk, decide_eq_true_eq] at h
  exact ⟨Int.emod_nonneg _ (by omega), Int.emod_lt_of_pos _ (by omega)⟩

def foV (p : Pk) (k : Int) : Int × Bool := if pkOk p && flOk k then (flV p k, true) else (0, false)

/-- The sizes flow by flow. -/
def fsL (k : Int) : List Int → List Pk → List Int
  | t, [] => t
  | t, p :: r => fsL k (t.set (flV p k).toNat (t.getD (flV p k).toNat 0 + pkSz p)) r

theorem fs_range {β : Type} {k : Int} {G : Pk → Option Int} {fin : List Int → Option β} (hk : flOk k = true) (hG : ∀ p, pkOk p = true → G p = some (flV p k)) :
    ∀ (l : List Pk) (i : Nat) (t : List Int) (B : Int), t.length = k.toNat → (∀ e ∈ t, 0 ≤ e ∧ e ≤ B) → (∀ p ∈ l, pkOk p = true) → B + 1500 * (l.length : Int) ≤ 1000000000 →
    rangeR (fun x _ t kk => obind (G x) fun r8 => oif (decide (0 ≤ (r8 : Int))) (oif (Nat.blt ((r8 : Int).toNat) t.length) (obind (t[(r8 : Int).toNat]?) fun n9 => oif (decide (0 ≤ (r8 : Int))) (oif (Nat.blt ((r8 : Int).toNat) t.length) (obind (t[(r8 : Int).toNat]?) fun n10 => kk (t.set ((r8 : Int).toNat) (IntKind.i64.wrap (n9 + x.2.2.2.2.2)))) none) none) none) none) fin l i t = fin (fsL k t l)
  | [], i, t, B, _, _, _, _ => rfl
  | x :: r, i, t, B, hl, ht, hx, hB => by
    have hxp := hx x (by simp)
    obtain ⟨f1, f2⟩ := flV_in (p := x) hk
    have hlt : (flV x k).toNat < t.length := by omega
    have hg : t[(flV x k).toNat]? = some (t.getD (flV x k).toNat 0) := by rw [List.getElem?_eq_getElem hlt]; simp [List.getD, List.getElem?_eq_getElem hlt]
    have he := ht _ (List.mem_of_getElem? hg)
    have hp := pkOk_in hxp
    simp only [List.length_cons] at hB
    simp only [rangeR, hG x hxp, ob_s, decide_eq_true f1, oif_t, blt_of hlt, hg]
    rw [wr (by omega) (by omega)]
    have ih := fs_range (fin := fin) hk hG r (i + 1) (t.set (flV x k).toNat (t.getD (flV x k).toNat 0 + pkSz x)) (B + 1500) (by simpa using hl) (fun e he' => by
      rcases List.mem_or_eq_of_mem_set he' with h | h
      · have := ht e h; omega
      · rw [h]; unfold pkSz; omega) (fun p hp => hx p (by simp [hp])) (by omega)
    exact ih

theorem fsL_len {k : Int} : ∀ {l : List Pk} {t : List Int}, (fsL k t l).length = t.length
  | [], _ => rfl
  | x :: r, t => by simp only [fsL]; rw [fsL_len]; simp

theorem fsL_sum {k : Int} (hk : flOk k = true) : ∀ {l : List Pk} {t : List Int}, t.length = k.toNat → (fsL k t l).sum = t.sum + szs l
  | [], t, _ => by simp [fsL, szs]
  | x :: r, t, hl => by
    obtain ⟨f1, f2⟩ := flV_in (p := x) hk
    simp only [fsL]
    rw [fsL_sum hk (by simpa using hl), sum_set (by omega)]
    simp only [szs, List.map_cons, List.sum_cons]; omega

theorem fsL_nonneg {k : Int} : ∀ {l : List Pk} {t : List Int}, (∀ p ∈ l, pkOk p = true) → (∀ e ∈ t, 0 ≤ e) → ∀ e ∈ fsL k t l, 0 ≤ e
  | [], t, _, ht => ht
  | x :: r, t, hx, ht => by
    have hp := pkOk_in (hx x (by simp))
    simp only [fsL]
    refine fsL_nonneg (fun p hp => hx p (by simp [hp])) (fun e he => ?_)
    rcases List.mem_or_eq_of_mem_set he with h | h
    · exact ht e h
    · rw [h]
      have : 0 ≤ t.getD (flV x k).toNat 0 := by
        unfold List.getD
        cases hg : t[(flV x k).toNat]? with
        | none => simp
        | some v => simpa using ht v (List.mem_of_getElem? hg)
      unfold pkSz; omega

def fsV (l : List Pk) (k : Int) : List Int × Bool := if pksOk l && flOk k then (fsL k (List.replicate k.toNat 0) l, true) else ([], false)

def mkE (a m v : Int) : Int := IntKind.i64.wrap ((BitVec.ofInt IntKind.i64.bits (IntKind.i64.wrap ((BitVec.ofInt IntKind.i64.bits a &&& ~~~BitVec.ofInt IntKind.i64.bits m).toNat : Int)) ||| BitVec.ofInt IntKind.i64.bits (IntKind.i64.wrap ((BitVec.ofInt IntKind.i64.bits v &&& BitVec.ofInt IntKind.i64.bits m).toNat : Int))).toNat : Int)

def mkV (x : Pk) (m v : Int) : Pk × Bool := if pkOk x && (wordOk m && wordOk v) then ((x.1, x.2.1, x.2.2.1, x.2.2.2.1, mkE x.2.2.2.2.1 m v, x.2.2.2.2.2), true) else ((0, 0, 0, 0, 0, 0), false)

theorem bv_word {n : Int} (h0 : 0 ≤ n) (h1 : n ≤ 65535) : ((BitVec.ofInt 64 n).toNat : Int) = n := by
  rw [BitVec.toNat_ofInt]
  have : n % ((2 ^ 64 : Nat) : Int) = n := Int.emod_eq_of_lt h0 (by omega)
  rw [this]; omega

theorem bv_back (x : BitVec 64) : BitVec.ofInt 64 (x.toNat : Int) = x := by
  apply BitVec.eq_of_toNat_eq
  rw [BitVec.toNat_ofInt]
  have h := x.isLt
  have : ((x.toNat : Int)) % ((2 ^ 64 : Nat) : Int) = (x.toNat : Int) := Int.emod_eq_of_lt (by omega) (by omega)
  rw [this]; simp

theorem bv_and_le (x y : BitVec 64) : (x &&& y).toNat ≤ x.toNat := by rw [BitVec.toNat_and]; exact Nat.and_le_left

theorem mkE_laws {a m v : Int} (ha : wordOk a = true) (hm : wordOk m = true) (hv : wordOk v = true) :
    IntKind.i64.wrap ((BitVec.ofInt IntKind.i64.bits (mkE a m v) &&& BitVec.ofInt IntKind.i64.bits m).toNat : Int) = IntKind.i64.wrap ((BitVec.ofInt IntKind.i64.bits v &&& BitVec.ofInt IntKind.i64.bits m).toNat : Int) ∧
    IntKind.i64.wrap ((BitVec.ofInt IntKind.i64.bits (mkE a m v) &&& ~~~BitVec.ofInt IntKind.i64.bits m).toNat : Int) = IntKind.i64.wrap ((BitVec.ofInt IntKind.i64.bits a &&& ~~~BitVec.ofInt IntKind.i64.bits m).toNat : Int) := by
  simp only [wordOk, decide_eq_true_eq] at ha hm hv
  have e64 : IntKind.i64.bits = 64 := rfl
  unfold mkE
  rw [e64]
  have a1 := bv_word ha.1 ha.2
  have v1 := bv_word hv.1 hv.2
  generalize BitVec.ofInt 64 a = A at *
  generalize BitVec.ofInt 64 v = V at *
  generalize BitVec.ofInt 64 m = M at *
  have l1 := bv_and_le A (~~~M)
  have l2 := bv_and_le V M
  rw [wr (n := ((A &&& ~~~M).toNat : Int)) (by omega) (by omega), wr (n := ((V &&& M).toNat : Int)) (by omega) (by omega), bv_back, bv_back]
  have hA : A.toNat < 2 ^ 16 := by omega
  have hV : V.toNat < 2 ^ 16 := by omega
  have l3 : ((A &&& ~~~M) ||| (V &&& M)).toNat < 2 ^ 16 := by
    rw [BitVec.toNat_or]; exact Nat.or_lt_two_pow (by omega) (by omega)
  rw [wr (n := (((A &&& ~~~M) ||| (V &&& M)).toNat : Int)) (by omega) (by omega), bv_back]
  have i1 : ((A &&& ~~~M) ||| (V &&& M)) &&& M = V &&& M := by
    apply BitVec.eq_of_getLsbD_eq; intro i hi
    simp only [BitVec.getLsbD_and, BitVec.getLsbD_or, BitVec.getLsbD_not, hi, decide_true, Bool.true_and]
    cases A.getLsbD i <;> cases M.getLsbD i <;> cases V.getLsbD i <;> rfl
  have i2 : ((A &&& ~~~M) ||| (V &&& M)) &&& ~~~M = A &&& ~~~M := by
    apply BitVec.eq_of_getLsbD_eq; intro i hi
    simp only [BitVec.getLsbD_and, BitVec.getLsbD_or, BitVec.getLsbD_not, hi, decide_true, Bool.true_and]
    cases A.getLsbD i <;> cases M.getLsbD i <;> cases V.getLsbD i <;> rfl
  rw [i1, i2]
  exact ⟨by rw [wr (by omega) (by omega)], by rw [wr (by omega) (by omega)]⟩

theorem p_packet {d m : Nat} {c : List Int × Int × Int} (hc : CurOk m c) (hm : m + 40 < 4611686018427387904) : Ok (g266 (d + 4) c) fun r => CurOk (m + 16) r.2 := by
  rw [e266]
  (repeat' (first | (with_reducible refine Ok.some ?_; exact CurOk.mono (by assumption) (by omega)) | (with_reducible refine Ok.oif (fun _ => ?_) (fun _ => ?_)) | (with_reducible refine Ok.bind (p_pick (by assumption) (by omega)) (fun r hr => ?_); obtain ⟨_, _, _⟩ := hr) | (with_reducible refine Ok.bind (p_among (by assumption) (by omega) (by simp)) (fun r hr => ?_); obtain ⟨_, _⟩ := hr) | (with_reducible refine Ok.bind (p_one (by assumption) (by omega)) (fun r hr => ?_))))

theorem p_anyPacket {d m : Nat} {c : List Int × Int × Int} (hc : CurOk m c) (hm : m + 40 < 4611686018427387904) : Ok (g267 (d + 5) c) fun r => CurOk (m + 20) r.2 := by
  rw [e267]
  refine Ok.bind (p_packet hc (by omega)) (fun r hr => ?_)
  refine Ok.bind (p_pick hr (by omega)) (fun q hq => ?_)
  obtain ⟨h1, h2, h3⟩ := hq
  have fin : ∀ {a b c' e f : Int} {l : List Int} {r2 : Pk × List Int × Int × Int}, CurOk (m + 20) (l, e, f) → Ok (j267_0 (d + 4) r2 a b c' l e f) fun r => CurOk (m + 20) r.2 := fun h => by
    unfold j267_0; exact Ok.some h
  refine Ok.oif (fun _ => ?_) (fun _ => ?_)
  · refine Ok.bind (p_among h3 (by omega) (by simp)) (fun u hu => Ok.some (hu.2.mono (by omega)))
  refine Ok.oif (fun _ => ?_) (fun _ => ?_)
  · refine Ok.bind (p_among h3 (by omega) (by simp)) (fun u hu => Ok.some (hu.2.mono (by omega)))
  refine Ok.oif (fun _ => ?_) (fun _ => ?_)
  · refine Ok.bind (p_among h3 (by omega) (by simp)) (fun u hu => Ok.some (hu.2.mono (by omega)))
  refine Ok.oif (fun _ => ?_) (fun _ => ?_)
  · refine Ok.bind (p_among h3 (by omega) (by simp)) (fun u hu => fin (hu.2.mono (by omega)))
  refine Ok.oif (fun _ => ?_) (fun _ => ?_)
  · refine Ok.bind (p_among h3 (by omega) (by simp)) (fun u hu => fin (hu.2.mono (by omega)))
  refine Ok.oif (fun _ => ?_) (fun _ => ?_)
  · refine Ok.bind (p_among h3 (by omega) (by simp)) (fun u hu => fin (hu.2.mono (by omega)))
  · exact fin (h3.mono (by omega))

abbrev Qu := Int × Int × List Pk × Int × Int

theorem bleT {a b : Nat} (h : a ≤ b) : Nat.ble a b = true := by rw [Nat.ble_eq]; exact h

def allOkP (l : List Pk) : Prop := ∀ p ∈ l, pkOk p = true

theorem szsQ {l : List Pk} (h : allOkP l) : ∀ x ∈ l, 0 ≤ pkSz x ∧ pkSz x ≤ 1000000 := fun x hx => by
  have := pkOk_in (h x hx); unfold pkSz; omega

theorem szs_nonneg : ∀ {l : List Pk}, allOkP l → 0 ≤ szs l
  | [], _ => by simp [szs]
  | p :: r, h => by
    have h1 := pkOk_in (h p (by simp))
    have h2 := szs_nonneg (l := r) (fun q hq => h q (by simp [hq]))
    have h3 : 0 ≤ pkSz p := by unfold pkSz; omega
    simp only [szs, List.map_cons, List.sum_cons] at h2 ⊢
    omega

theorem szs_app (l r : List Pk) : szs (l ++ r) = szs l + szs r := by simp [szs, List.sum_append]

theorem szs_cons (p : Pk) (r : List Pk) : szs (p :: r) = pkSz p + szs r := by simp [szs]

theorem q_sumSizesQ {d : Nat} {l : List Pk} (h : allOkP l) (hl : l.length ≤ 1000) : g226 (d + 1) l = some (szs l) := by
  rw [e226]
  refine (range_eq (fun (t : Int) (i : Int) => (t, i)) l (fun x _ t k => k (IntKind.i64.wrap (t + pkSz x))) (j226_0 d) ?_ ?_ (by rw [fuelN_eq]; omega) 0).trans ?_
  · intro ag t i x hx; have hi := (List.getElem?_eq_some_iff.1 hx).1; simp only [l226_0, l226_0_b, ltl hx, bltl hx, nn, ofNat_toNat, hx, ob_s, oif_t]; rw [wr1 (by omega)]
    rfl
  · intro ag t; simp only [l226_0, l226_0_b, ltn, oif_f]
  · rw [sum_range l 0 0 (szsQ h) (by omega) (by omega)]
    unfold j226_0 szs; simp

theorem q_pkSumQ {d : Nat} {l : List Pk} (h : allOkP l) (hl : l.length ≤ 1000) : g211 (d + 1) l = some (szs l) := by
  rw [e211]
  refine (range_eq (fun (t : Int) (i : Int) => (t, i)) l (fun x _ t k => k (IntKind.i64.wrap (t + pkSz x))) (j211_0 d) ?_ ?_ (by rw [fuelN_eq]; omega) 0).trans ?_
  · intro ag t i x hx; have hi := (List.getElem?_eq_some_iff.1 hx).1; simp only [l211_0, l211_0_b, ltl hx, bltl hx, nn, ofNat_toNat, hx, ob_s, oif_t]; rw [wr1 (by omega)]
    rfl
  · intro ag t; simp only [l211_0, l211_0_b, ltn, oif_f]
  · rw [sum_range l 0 0 (szsQ h) (by omega) (by omega)]
    unfold j211_0 szs; simp

theorem p_pkSum {d : Nat} {l : List Pk} (hl : l.length ≤ 1000) : Ok (g211 (d + 1) l) fun _ => True := by
  rw [e211]
  refine iter_ok (fun j s => ∃ i : Nat, s.2 = (i : Int) ∧ i + j = l.length) ?_ _ l.length _ (by rw [fuelN_eq]; omega) ⟨0, rfl, by omega⟩
  rintro j ⟨t, _⟩ ag ⟨i, rfl, h1⟩ hag
  simp only [l211_0, l211_0_b]
  rcases Nat.lt_or_ge i l.length with hi | hi
  · rw [decide_eq_true (show (i : Int) < ((l.length : Nat) : Int) by omega), oif_t]
    simp only [nn, ofNat_toNat, oif_t]
    rw [List.getElem?_eq_getElem hi, ob_s, wr1 (by omega)]
    exact hag (j - 1) _ (by omega) ⟨i + 1, rfl, by omega⟩
  · have : i = l.length := by omega
    subst this
    rw [ltn, oif_f]
    exact Ok.some trivial

def hasV (l : List Pk) (id : Int) : Bool := l.any fun p => p.1 == id

theorem any_range {β : Type} {id : Int} {yes : Nat → Option β} {fin : Int → Option β} (hy : ∀ i j, yes i = yes j) : ∀ (l : List Pk) (i : Nat) (t : Int),
    rangeR (fun (x : Pk) i (t : Int) k => oif (x.1 == id) (yes i) (k t)) fin l i t = if hasV l id then yes 0 else fin t
  | [], i, t => by simp [rangeR, hasV]
  | x :: r, i, t => by
    simp only [rangeR]
    cases h : x.1 == id with
    | true => simp only [oif_t, hasV, List.any_cons, h, Bool.true_or, if_true]; exact hy i 0
    | false => simp only [oif_f, hasV, List.any_cons, h, Bool.false_or]; exact any_range hy r (i + 1) t

theorem q_hasId {d : Nat} {l : List Pk} {id : Int} (hl : l.length < 4194304) : g282 (d + 4) l id = some (hasV l id) := by
  rw [e282]
  refine (range_eq (fun (t : Int) (i : Int) => (t, i)) l (fun (x : Pk) i (t : Int) k => oif (x.1 == id) (some true) (k t)) (fun _ => some false) ?_ ?_ (by rw [fuelN_eq]; exact hl) 0).trans ?_
  · intro ag t i x hx
    have hi := (List.getElem?_eq_some_iff.1 hx).1
    simp only [l282i336i353_0, l282i336i353_0_b, ltl hx, nn, ofNat_toNat, hx, ob_s, oif_t]
    rw [wr1 (by omega)]
    first | done | rfl | simp
  · intro ag t; simp only [l282i336i353_0, l282i336i353_0_b, ltn, oif_f]; rfl
  · rw [any_range (fun _ _ => rfl)]; cases hasV l id <;> rfl

/-- The place of an Id. -/
def atI : Nat → List Pk → Int → Int
  | _, [], _ => -1
  | i, p :: r, id => if p.1 == id then (i : Int) else atI (i + 1) r id

def atV (l : List Pk) (id : Int) : Int := atI 0 l id

theorem at_range {id : Int} : ∀ (l : List Pk) (i : Nat) (t : Int),
    rangeR (fun (x : Pk) i (t : Int) k => oif (x.1 == id) (some ((i : Nat) : Int)) (k t)) (fun _ => some (-1)) l i t = some (atI i l id)
  | [], i, t => by simp [rangeR, atI]
  | x :: r, i, t => by
    simp only [rangeR, atI]
    cases h : x.1 == id with
    | true => simp only [oif_t, if_true]
    | false => simp only [oif_f, Bool.false_eq_true, if_false]; exact at_range r (i + 1) t

theorem q_quAt {d : Nat} {l : List Pk} {id : Int} (hl : l.length < 4194304) : g210 (d + 1) l id = some (atV l id) := by
  rw [e210]
  refine (range_eq (fun (t : Int) (i : Int) => (t, i)) l (fun (x : Pk) i (t : Int) k => oif (x.1 == id) (some ((i : Nat) : Int)) (k t)) (fun _ => some (-1)) ?_ ?_ (by rw [fuelN_eq]; exact hl) 0).trans ?_
  · intro ag t i x hx
    have hi := (List.getElem?_eq_some_iff.1 hx).1
    simp only [l210_0, l210_0_b, ltl hx, nn, ofNat_toNat, hx, ob_s, oif_t]
    rw [wr1 (by omega)]
  · intro ag t; simp only [l210_0, l210_0_b, ltn, oif_f]; rfl
  · exact at_range l 0 0

theorem atI_has : ∀ {l : List Pk} {i : Nat} {id : Int}, (hasV l id = false → atI i l id = -1) ∧ (hasV l id = true → ∃ (k : Nat) (p : Pk), atI i l id = ((i + k : Nat) : Int) ∧ l[k]? = some p ∧ p.1 = id ∧ hasV (l.take k) id = false)
  | [], i, id => ⟨fun _ => rfl, fun h => by simp [hasV] at h⟩
  | x :: r, i, id => by
    obtain ⟨h1, h2⟩ := atI_has (l := r) (i := i + 1) (id := id)
    simp only [atI, hasV, List.any_cons] at h1 h2 ⊢
    cases h : x.1 == id with
    | true =>
      refine ⟨fun h => by simp at h, fun _ => ⟨0, x, by simp, rfl, by simpa using h, by simp⟩⟩
    | false =>
      simp only [Bool.false_or, Bool.false_eq_true, if_false]
      refine ⟨h1, fun hh => ?_⟩
      obtain ⟨k, p, g1, g2, g3, g4⟩ := h2 hh
      exact ⟨k + 1, p, by rw [g1]; congr 1; omega, by simpa using g2, g3, by simp only [List.take_succ_cons, List.any_cons, h, Bool.false_or]; exact g4⟩

theorem atV_neg {l : List Pk} {id : Int} : decide (atV l id < 0) = !hasV l id := by
  obtain ⟨h1, h2⟩ := atI_has (l := l) (i := 0) (id := id)
  cases h : hasV l id with
  | false => unfold atV; rw [h1 h]; rfl
  | true =>
    obtain ⟨k, p, g1, _⟩ := h2 h
    unfold atV; rw [g1]; simp <;> omega

theorem atV_self {l : List Pk} {i : Nat} {x : Pk} (hx : l[i]? = some x) : (atV l x.1 != (i : Int)) = hasV (l.take i) x.1 := by
  have hi := (List.getElem?_eq_some_iff.1 hx).1
  have hh : hasV l x.1 = true := by
    unfold hasV; rw [List.any_eq_true]
    exact ⟨x, by obtain ⟨_, rfl⟩ := List.getElem?_eq_some_iff.1 hx; exact List.getElem_mem _, by simp⟩
  obtain ⟨k, p, g1, g2, g3, g4⟩ := (atI_has (l := l) (i := 0) (id := x.1)).2 hh
  unfold atV
  rw [g1, Nat.zero_add]
  rcases Nat.lt_trichotomy k i with h | h | h
  · have : hasV (l.take i) x.1 = true := by
      unfold hasV; rw [List.any_eq_true]
      refine ⟨p, ?_, by simp [g3]⟩
      have : (l.take i)[k]? = some p := by rw [List.getElem?_take_of_lt h]; exact g2
      obtain ⟨_, rfl⟩ := List.getElem?_eq_some_iff.1 this; exact List.getElem_mem _
    rw [this]; simp; omega
  · subst h; rw [g4]; exact bne_self_eq_false _
  · exfalso
    have : hasV (l.take k) x.1 = true := by
      unfold hasV; rw [List.any_eq_true]
      refine ⟨x, ?_, by simp⟩
      have : (l.take k)[i]? = some x := by rw [List.getElem?_take_of_lt h]; exact hx
      obtain ⟨_, rfl⟩ := List.getElem?_eq_some_iff.1 this; exact List.getElem_mem _
    rw [g4] at this; simp at this

/-- Valid packets with different Ids. -/
def okI (l : List Pk) (x : Pk) (i : Nat) : Bool := pkOk x && !hasV (l.take i) x.1

def allI {α : Type} (p : α → Nat → Bool) : List α → Nat → Bool
  | [], _ => true
  | x :: r, i => p x i && allI p r (i + 1)

def apV (l : List Pk) : Bool := allI (okI l) l 0

theorem rangeR_allI {α τ β : Type} {p : α → Nat → Bool} {no : Option β} {fin : τ → Option β} : ∀ (l : List α) (i : Nat) (t : τ),
    rangeR (fun x i t k => oif (p x i) (k t) no) fin l i t = oif (allI p l i) (fin t) no
  | [], i, t => rfl
  | x :: r, i, t => by
    simp only [rangeR, allI]
    cases p x i with
    | true => simp only [oif_t, Bool.true_and]; exact rangeR_allI r (i + 1) t
    | false => rfl

theorem ap_suf (l : List Pk) : ∀ (r pre : List Pk), l = pre ++ r → (allI (okI l) r pre.length = true ↔ (∀ x ∈ r, pkOk x = true) ∧ (∀ x ∈ r, ∀ y ∈ pre, y.1 ≠ x.1) ∧ (r.map fun p => p.1).Nodup)
  | [], pre, _ => by simp [allI]
  | x :: r, pre, h => by
    have ih := ap_suf l r (pre ++ [x]) (by rw [h]; simp)
    simp only [List.length_append, List.length_cons, List.length_nil, Nat.zero_add] at ih
    have ht : l.take pre.length = pre := by rw [h]; simp
    simp only [allI, Bool.and_eq_true, ih, okI, ht, Bool.not_eq_true', List.map_cons, List.nodup_cons, List.mem_cons, forall_eq_or_imp, List.mem_append, List.mem_singleton]
    have hh : hasV pre x.1 = false ↔ ∀ y ∈ pre, y.1 ≠ x.1 := by
      unfold hasV; rw [List.any_eq_false]; simp
    rw [hh]
    constructor
    · rintro ⟨⟨a, b⟩, c, e, f⟩
      refine ⟨⟨a, c⟩, ⟨b, fun z hz y hy => e z hz y (.inl hy)⟩, fun hm => ?_, f⟩
      obtain ⟨z, hz, hzx⟩ := List.mem_map.1 hm
      exact e z hz x (.inr (.inl rfl)) hzx.symm
    · rintro ⟨⟨a, c⟩, ⟨b, e⟩, g, f⟩
      refine ⟨⟨a, b⟩, c, fun z hz y hy => ?_, f⟩
      rcases hy with hy | hy | hy
      · exact e z hz y hy
      · subst hy; exact fun he => g (List.mem_map.2 ⟨z, hz, he.symm⟩)
      · simp at hy

theorem ap_iff (l : List Pk) : apV l = true ↔ allOkP l ∧ (l.map fun p => p.1).Nodup := by
  have := ap_suf l l [] rfl
  simp only [List.length_nil, List.not_mem_nil, false_imp_iff, implies_true, true_and] at this
  exact this

theorem q_apartIds {d : Nat} {l : List Pk} (hl : l.length < 4194304) : g286 (d + 5) l = some (apV l) := by
  rw [e286]
  refine (range_eq (fun (t : Bool) (i : Int) => (t, i)) l (fun x i t k => oif (okI l x i) (k t) (some false)) (fun _ => some true) ?_ ?_ (by rw [fuelN_eq]; exact hl) false).trans ?_
  · intro ag t i x hx
    have hi := (List.getElem?_eq_some_iff.1 hx).1
    simp only [l286_0, l286_0_b, ltl hx, nn, ofNat_toNat, hx, ob_s, oif_t, q_IsPacket]
    rw [wr1 (by omega), bleT (show i ≤ l.length by omega), oif_t, q_hasId (by simp; omega), ob_s]
    unfold okI
    cases pkOk x <;> cases hasV (l.take i) x.1 <;> rfl
  · intro ag t; simp only [l286_0, l286_0_b, ltn, oif_f]; rfl
  · rw [rangeR_allI]; unfold apV; cases allI (okI l) l 0 <;> rfl

def cnt (n : Int) : Bool := decide (0 ≤ n ∧ n ≤ 1000000)

theorem q_isCount {d : Nat} {n : Int} : g284 (d + 1) n = some (cnt n) := by
  rw [e284]; simp only [oif_ss]; congr 1; rw [Bool.eq_iff_iff]; simp [cnt]

theorem q_quCount {d : Nat} {n : Int} : g288 (d + 2) n = some (cnt n) := by
  rw [e288, q_l1In, ob_s]; rfl

def limOk (q : Qu) : Bool := decide (1 ≤ q.1 ∧ q.1 ≤ 60 ∧ 1 ≤ q.2.1 ∧ q.2.1 ≤ 90000 ∧ ((q.2.2.1.length : Nat) : Int) ≤ q.1)

def cntsOk (q : Qu) : Bool := cnt q.2.2.2.1 && cnt q.2.2.2.2

def goodV (q : Qu) : Bool := limOk q && (cntsOk q && (apV q.2.2.1 && decide (szs q.2.2.1 ≤ q.2.1)))

theorem limOk_in {q : Qu} (h : limOk q = true) : 1 ≤ q.1 ∧ q.1 ≤ 60 ∧ 1 ≤ q.2.1 ∧ q.2.1 ≤ 90000 ∧ ((q.2.2.1.length : Nat) : Int) ≤ q.1 := by simpa [limOk] using h

theorem good_in {q : Qu} (h : goodV q = true) : (1 ≤ q.1 ∧ q.1 ≤ 60 ∧ 1 ≤ q.2.1 ∧ q.2.1 ≤ 90000 ∧ ((q.2.2.1.length : Nat) : Int) ≤ q.1) ∧ (0 ≤ q.2.2.2.1 ∧ q.2.2.2.1 ≤ 1000000) ∧ (0 ≤ q.2.2.2.2 ∧ q.2.2.2.2 ≤ 1000000) ∧ allOkP q.2.2.1 ∧ (q.2.2.1.map fun p => p.1).Nodup ∧ szs q.2.2.1 ≤ q.2.1 := by
  unfold goodV cntsOk cnt at h
  simp only [Bool.and_eq_true, decide_eq_true_eq, ap_iff] at h
  obtain ⟨h1, ⟨h2, h3⟩, ⟨h4, h5⟩, h6⟩ := h
  exact ⟨limOk_in h1, h2, h3, h4, h5, h6⟩

theorem good_mk {q : Qu} (h1 : 1 ≤ q.1 ∧ q.1 ≤ 60 ∧ 1 ≤ q.2.1 ∧ q.2.1 ≤ 90000 ∧ ((q.2.2.1.length : Nat) : Int) ≤ q.1) (h4 : allOkP q.2.2.1) (h5 : (q.2.2.1.map fun p => p.1).Nodup) (h6 : szs q.2.2.1 ≤ q.2.1) : goodV q = cntsOk q := by
  unfold goodV limOk
  rw [decide_eq_true h1, (ap_iff _).2 ⟨h4, h5⟩, decide_eq_true h6]; simp

theorem q_IsQueue {d : Nat} {q : Qu} (hl : q.2.2.1.length < 4194304) : g204 (d + 6) q = some (goodV q) := by
  rw [e204]
  have no : j204_0 (d + 5) q true = some false := rfl
  have yes : limOk q = true → j204_0 (d + 5) q false = some (apV q.2.2.1 && decide (szs q.2.2.1 ≤ q.2.1)) := by
    intro h
    obtain ⟨h1, h2, h3, h4, h5⟩ := limOk_in h
    unfold j204_0
    rw [oif_f, q_apartIds hl, ob_s]
    cases ha : apV q.2.2.1 with
    | false => rfl
    | true => rw [oif_t, q_sumSizesQ ((ap_iff _).1 ha).1 (by omega), ob_s]; rfl
  rw [no]
  simp only [q_isCount, ob_s, oif_ite, decide_eq_true_eq]
  unfold goodV cntsOk
  by_cases h : limOk q = true
  · have h' := limOk_in h
    rw [if_neg (by omega), if_neg (by omega), if_neg (by omega), if_neg (by omega), if_neg (by omega), h]
    cases h1 : cnt q.2.2.2.1 with
    | false => rfl
    | true =>
      simp only [Bool.not_true, Bool.false_eq_true, if_false]
      cases h2 : cnt q.2.2.2.2 with
      | false => rw [Bool.not_false, no]; rfl
      | true => rw [Bool.not_true, yes h]; rfl
  · have hf : limOk q = false := by simpa using h
    rw [hf]
    unfold limOk at hf
    simp only [decide_eq_false_iff_not] at hf
    by_cases a1 : q.1 < 1
    · rw [if_pos a1]; rfl
    · by_cases a2 : q.1 > 60
      · rw [if_neg a1, if_pos a2]; rfl
      · by_cases a3 : q.2.1 < 1
        · rw [if_neg a1, if_neg a2, if_pos a3]; rfl
        · by_cases a4 : q.2.1 > 90000
          · rw [if_neg a1, if_neg a2, if_neg a3, if_pos a4]; rfl
          · rw [if_neg a1, if_neg a2, if_neg a3, if_neg a4, if_pos (by omega)]; rfl

theorem q_quGood {d : Nat} {q : Qu} (hl : q.2.2.1.length < 4194304) : g207 (d + 4) q = some (goodV q) := by
  rw [e207]
  refine (range_eq (fun (t : Bool) (i : Int) => (t, i)) q.2.2.1 (fun x i t k => oif (okI q.2.2.1 x i) (k t) (some false)) (j207_0 (d + 3) q) ?_ ?_ (by rw [fuelN_eq]; exact hl) false).trans ?_
  · intro ag t i x hx
    have hi := (List.getElem?_eq_some_iff.1 hx).1
    simp only [l207_0, l207_0_b, ltl hx, nn, ofNat_toNat, hx, ob_s, oif_t, q_pkGood, q_quAt hl, atV_self hx]
    rw [wr1 (by omega)]
    unfold okI
    cases pkOk x <;> cases hasV (q.2.2.1.take i) x.1 <;> rfl
  · intro ag t; simp only [l207_0, l207_0_b, ltn, oif_f]
  · rw [rangeR_allI]
    show oif (apV q.2.2.1) _ _ = _
    unfold goodV cntsOk
    cases ha : apV q.2.2.1 with
    | false => rw [oif_f]; cases limOk q <;> cases cnt q.2.2.2.1 <;> cases cnt q.2.2.2.2 <;> rfl
    | true =>
      rw [oif_t]
      unfold j207_0
      rw [q_l1In, ob_s, q_l1In, ob_s]
      by_cases h : limOk q = true
      · have h' := limOk_in h
        rw [decide_eq_true (show 1 ≤ q.1 ∧ q.1 ≤ 60 by omega), oif_t, decide_eq_true (show 1 ≤ q.2.1 ∧ q.2.1 ≤ 90000 by omega), oif_t, decide_eq_true (show ((q.2.2.1.length : Nat) : Int) ≤ q.1 by omega), oif_t, e285, q_pkSumQ ((ap_iff _).1 ha).1 (by omega), ob_s, ob_s, q_quCount, ob_s, q_quCount, ob_s, h]
        cases decide (szs q.2.2.1 ≤ q.2.1) <;> cases cnt q.2.2.2.1 <;> cases cnt q.2.2.2.2 <;> rfl
      · have hf : limOk q = false := by simpa using h
        rw [hf]
        unfold limOk at hf
        simp only [decide_eq_false_iff_not] at hf
        by_cases a1 : 1 ≤ q.1 ∧ q.1 ≤ 60
        · rw [decide_eq_true a1, oif_t]
          by_cases a2 : 1 ≤ q.2.1 ∧ q.2.1 ≤ 90000
          · rw [decide_eq_true a2, oif_t, decide_eq_false (by omega), oif_f]; rfl
          · rw [decide_eq_false a2, oif_f]; rfl
        · rw [decide_eq_false a1, oif_f]; rfl

def canV (q : Qu) (p : Pk) : Bool := goodV q && (pkOk p && !hasV q.2.2.1 p.1)

theorem q_canPut {d : Nat} {q : Qu} {p : Pk} (hl : q.2.2.1.length < 4194304) : g190 (d + 7) q p = some (canV q p) := by
  rw [e190, q_IsQueue hl, ob_s, q_IsPacket, ob_s, q_hasId hl, ob_s]
  unfold canV
  cases goodV q <;> cases pkOk p <;> rfl

theorem q_quAsked {d : Nat} {q : Qu} {p : Pk} (hl : q.2.2.1.length < 4194304) : g195 (d + 5) q p = some (canV q p) := by
  rw [e195, q_quGood hl, ob_s, q_pkGood, ob_s, q_quAt hl, ob_s, atV_neg]
  unfold canV
  cases goodV q <;> cases pkOk p <;> rfl

def roomV (lim b : Int) (l : List Pk) (s : Int) : Bool := decide (((l.length : Nat) : Int) < lim ∧ szs l + s ≤ b)

theorem q_hasRoom {d : Nat} {q : Qu} {p : Pk} (h : allOkP q.2.2.1) (hl : q.2.2.1.length ≤ 100) (hp : pkOk p = true) : g192 (d + 2) q p = some (roomV q.1 q.2.1 q.2.2.1 (pkSz p)) := by
  have h1 := szs_le q.2.2.1 h
  have h0 := szs_nonneg h
  have hp' := pkOk_in hp
  rw [e192, q_sumSizesQ h (by omega), ob_s, wr (n := szs q.2.2.1 + p.2.2.2.2.2) (by omega) (by omega)]
  unfold roomV pkSz
  by_cases a : ((q.2.2.1.length : Nat) : Int) < q.1
  · rw [decide_eq_true a, oif_t]; congr 1; simp [a]
  · rw [decide_eq_false a, oif_f, decide_eq_false (fun h => a h.1)]

theorem q_quRoom {d : Nat} {q : Qu} {p : Pk} (h : allOkP q.2.2.1) (hl : q.2.2.1.length ≤ 100) (hp : pkOk p = true) : g197 (d + 3) q p = some (roomV q.1 q.2.1 q.2.2.1 (pkSz p)) := by
  have h1 := szs_le q.2.2.1 h
  have h0 := szs_nonneg h
  have hp' := pkOk_in hp
  rw [e197, e285, q_pkSumQ h (by omega), ob_s, ob_s, wr (n := szs q.2.2.1 + p.2.2.2.2.2) (by omega) (by omega)]
  unfold roomV pkSz
  by_cases a : ((q.2.2.1.length : Nat) : Int) < q.1
  · rw [decide_eq_true a, oif_t]; congr 1; simp [a]
  · rw [decide_eq_false a, oif_f, decide_eq_false (fun h => a h.1)]

theorem q_quWith {d : Nat} {q : Qu} {l : List Pk} {a b : Int} (hl : l.length ≤ 1000) (ha : 0 ≤ q.2.2.2.1 + a ∧ q.2.2.2.1 + a ≤ 100000000) (hb : 0 ≤ q.2.2.2.2 + b ∧ q.2.2.2.2 + b ≤ 100000000) : g196 (d + 1) q l a b = some (q.1, q.2.1, l, q.2.2.2.1 + a, q.2.2.2.2 + b) := by
  rw [e196, room (by simp; omega), oif_t, wr (n := q.2.2.2.1 + a) (by omega) (by omega), wr (n := q.2.2.2.2 + b) (by omega) (by omega)]; rfl

theorem q_ifQueue {d : Nat} {q : Qu} : g194 (d + 2) q = some (cntsOk q) := by
  rw [e194, q_isCount, ob_s, q_isCount, ob_s]
  unfold cntsOk; cases cnt q.2.2.2.1 <;> rfl

def zeroQ : Qu := (0, 0, [], 0, 0)

theorem q_quIf {d : Nat} {q : Qu} (hl : q.2.2.1.length < 4194304) : g200 (d + 5) q = some (if goodV q then (q, true) else (zeroQ, false)) := by
  rw [e200, q_quGood hl, ob_s]; cases goodV q <;> rfl

theorem q_copyQueue {d : Nat} {q : Qu} (hl : q.2.2.1.length ≤ 1000) : g191 (d + 2) q = some q := by
  rw [e191, e283]
  have : nilB q.2.2.1.length (some ([] : List Pk)) (oif (Nat.ble ((([] : List Pk).length + q.2.2.1.length) * 48) roomMax) (some (([] : List Pk) ++ q.2.2.1)) none) = some q.2.2.1 := by
    rw [room (by simp; omega), oif_t, List.nil_append]
    cases h : q.2.2.1 with
    | nil => simp [nilB, both]
    | cons x r => rfl
  rw [this, ob_s]

def idL (l : List Pk) : List Int := l.map fun p => p.1

theorem idL_len (l : List Pk) : (idL l).length = l.length := by simp [idL]

theorem ids_range {w : Nat} {fin : List Int → Option (List Int)} : ∀ (l : List Pk) (i : Nat) (t : List Int), (t.length + l.length) * 8 ≤ 100000000 →
    rangeR (fun (x : Pk) _ (t : List Int) k => oif (Nat.ble ((t.length + [x.1].length) * 8) roomMax) (k (t ++ [x.1])) none) fin l i t = fin (t ++ idL l)
  | [], i, t, _ => by simp [rangeR, idL]
  | x :: r, i, t, h => by
    simp only [List.length_cons] at h
    simp only [rangeR]
    rw [room (by simp; omega), oif_t, ids_range (w := w) r (i + 1) _ (by simp; omega)]
    simp [idL]

theorem q_quIds {d : Nat} {l : List Pk} (hl : l.length ≤ 1000) : g198 (d + 1) l = some (idL l) := by
  rw [e198]
  refine (range_eq (fun (t : List Int) (i : Int) => (t, i)) l (fun (x : Pk) _ (t : List Int) k => oif (Nat.ble ((t.length + [x.1].length) * 8) roomMax) (k (t ++ [x.1])) none) (j198_0 d) ?_ ?_ (by rw [fuelN_eq]; omega) []).trans ?_
  · intro ag t i x hx; have hi := (List.getElem?_eq_some_iff.1 hx).1; simp only [l198_0, l198_0_b, ltl hx, bltl hx, nn, ofNat_toNat, hx, ob_s, oif_t]; rw [wr1 (by omega)]
  · intro ag t; simp only [l198_0, l198_0_b, ltn, oif_f]
  · rw [ids_range (w := 0) _ _ _ (by simp; omega)]; rfl

theorem q_idsOf {d : Nat} {l : List Pk} (hl : l.length ≤ 1000) : g213 (d + 1) l = some (idL l) := by
  rw [e213]
  refine (range_eq (fun (t : List Int) (i : Int) => (t, i)) l (fun (x : Pk) _ (t : List Int) k => oif (Nat.ble ((t.length + [x.1].length) * 8) roomMax) (k (t ++ [x.1])) none) (j213_0 d) ?_ ?_ (by rw [fuelN_eq]; omega) []).trans ?_
  · intro ag t i x hx; have hi := (List.getElem?_eq_some_iff.1 hx).1; simp only [l213_0, l213_0_b, ltl hx, bltl hx, nn, ofNat_toNat, hx, ob_s, oif_t]; rw [wr1 (by omega)]
  · intro ag t; simp only [l213_0, l213_0_b, ltn, oif_f]
  · rw [ids_range (w := 0) _ _ _ (by simp; omega)]; rfl

/-- How many heads have to go. -/
def dropN (lim b s : Int) : List Pk → Nat
  | [] => 0
  | x :: r => if roomV lim b (x :: r) s then 0 else dropN lim b s r + 1

theorem dropN_le (lim b s : Int) : ∀ l : List Pk, dropN lim b s l ≤ l.length
  | [] => Nat.le_refl _
  | x :: r => by
    have := dropN_le lim b s r
    unfold dropN; split <;> simp; omega

theorem dropN_room {lim b s : Int} (h1 : 1 ≤ lim) (h2 : s ≤ b) : ∀ l : List Pk, roomV lim b (l.drop (dropN lim b s l)) s = true
  | [] => by simp [dropN, roomV, szs]; omega
  | x :: r => by
    have := dropN_room h1 h2 r
    unfold dropN
    split
    · rename_i h; simpa using h
    · simpa using this

theorem dropN_not {lim b s : Int} : ∀ (l : List Pk) (k : Nat), k < dropN lim b s l → roomV lim b (l.drop k) s = false
  | [], k, h => by simp [dropN] at h
  | x :: r, k, h => by
    unfold dropN at h
    split at h
    · omega
    · rename_i hr
      cases k with
      | zero => simpa using hr
      | succ k => simpa using dropN_not r k (by omega)

def pdV (q : Qu) (p : Pk) : Qu × List Int × Bool :=
  if canV q p then
    if decide (pkSz p > q.2.1) then
      if cntsOk (q.1, q.2.1, q.2.2.1, q.2.2.2.1, q.2.2.2.2 + 1) then ((q.1, q.2.1, q.2.2.1, q.2.2.2.1, q.2.2.2.2 + 1), [p.1], true) else (zeroQ, [], false)
    else
      let n := dropN q.1 q.2.1 (pkSz p) q.2.2.1
      if cntsOk (q.1, q.2.1, q.2.2.1.drop n ++ [p], q.2.2.2.1, q.2.2.2.2 + n) then ((q.1, q.2.1, q.2.2.1.drop n ++ [p], q.2.2.2.1, q.2.2.2.2 + n), idL (q.2.2.1.take n), true) else (zeroQ, [], false)
  else (zeroQ, [], false)

theorem can_in {q : Qu} {p : Pk} (h : canV q p = true) : goodV q = true ∧ pkOk p = true ∧ hasV q.2.2.1 p.1 = false := by
  unfold canV at h; simpa [and_assoc] using h

theorem idL_step {l : List Pk} {k : Nat} {x : Pk} (hx : l[k]? = some x) : idL (l.take k) ++ [x.1] = idL (l.take (k + 1)) := by
  rw [List.take_succ, hx]; simp [idL]

theorem all_drop {l : List Pk} (h : allOkP l) (k : Nat) : allOkP (l.drop k) := fun p hp => h p (List.mem_of_mem_drop hp)

theorem q_PutDropHead {d : Nat} {q : Qu} {p : Pk} (hl : q.2.2.1.length ≤ 100) : g71 (d + 8) q p = some (pdV q p) := by
  rw [e71, q_canPut (by omega), ob_s]
  unfold pdV
  cases hc : canV q p with
  | false => rfl
  | true =>
    obtain ⟨hg, hp, hh⟩ := can_in hc
    obtain ⟨h1, h2, h3, h4, h5, h6⟩ := good_in hg
    rw [Bool.not_true, oif_f, if_pos rfl, q_copyQueue (by omega), ob_s]
    show oif (decide (pkSz p > q.2.1)) _ _ = _
    cases hs : decide (pkSz p > q.2.1) with
    | true =>
      rw [oif_t, if_pos rfl, room (by simp), oif_t, q_ifQueue, ob_s, wr (n := q.2.2.2.2 + 1) (by omega) (by omega)]
      cases cntsOk (q.1, q.2.1, q.2.2.1, q.2.2.2.1, q.2.2.2.2 + 1) <;> rfl
    | false =>
      simp only [decide_eq_false_iff_not] at hs
      rw [oif_f, if_neg (by decide)]
      have hn := dropN_le q.1 q.2.1 (pkSz p) q.2.2.1
      have hnr := dropN_room (lim := q.1) (b := q.2.1) (s := pkSz p) (by omega) (by omega) q.2.2.1
      have hnn := dropN_not (lim := q.1) (b := q.2.1) (s := pkSz p) q.2.2.1
      generalize dropN q.1 q.2.1 (pkSz p) q.2.2.1 = n at hn hnr hnn ⊢
      refine Ok.val (iter_ok (fun j s => ∃ k : Nat, k + j = n ∧ s = (idL (q.2.2.1.take k), (q.1, q.2.1, q.2.2.1.drop k, q.2.2.2.1, q.2.2.2.2 + (k : Int)))) ?_ _ n _ (by rw [fuelN_eq]; omega) ⟨0, by omega, by simp [idL]⟩)
      rintro j _ ag ⟨k, hk, rfl⟩ hag
      simp only [l71_0, l71_0_b]
      rw [q_hasRoom (all_drop h4 k) (by simp; omega) hp, ob_s]
      simp only
      rcases Nat.lt_or_ge k n with hlt | hge
      · rw [hnn k hlt, Bool.not_false, oif_t]
        have hkl : k < q.2.2.1.length := by omega
        have hg0 : (q.2.2.1.drop k)[0]? = some q.2.2.1[k] := by rw [List.getElem?_drop, Nat.add_zero, List.getElem?_eq_getElem hkl]
        rw [blt_of (show 0 < (q.2.2.1.drop k).length by simp; omega), oif_t, hg0, ob_s, room (by simp [idL]; omega), oif_t]
        rw [e193, decide_eq_true (show (0 : Int) ≤ 0 by omega), decide_eq_true (show (0 : Int) < 1 by omega), decide_eq_true (show (1 : Int) ≤ (((q.2.2.1.drop k).length : Nat) : Int) by simp; omega), bleT (show (q.2.2.1.drop k).length ≤ 9223372036854775807 by simp; omega)]
        simp only [Bool.and_self, oif_t, ob_s]
        rw [wr (n := q.2.2.2.2 + (k : Int) + 1) (by omega) (by omega), idL_step (List.getElem?_eq_getElem hkl)]
        refine hag (j - 1) _ (by omega) ⟨k + 1, by omega, ?_⟩
        have e1 : (q.2.2.1.drop k).take (0 : Int).toNat ++ (q.2.2.1.drop k).drop (1 : Int).toNat = q.2.2.1.drop (k + 1) := by
          rw [show (0 : Int).toNat = 0 from rfl, show (1 : Int).toNat = 1 from rfl, List.take_zero, List.nil_append, List.drop_drop]
        rw [e1, show q.2.2.2.2 + (k : Int) + 1 = q.2.2.2.2 + ((k + 1 : Nat) : Int) by omega]
      · have : k = n := by omega
        subst this
        rw [hnr, Bool.not_true, oif_f]
        unfold j71_0
        rw [room (by simp; omega), oif_t, q_ifQueue, ob_s]
        cases hcn : cntsOk (q.1, q.2.1, q.2.2.1.drop k ++ [p], q.2.2.2.1, q.2.2.2.2 + (k : Int)) with
        | true => exact Ok.some rfl
        | false => exact Ok.some rfl

theorem nodup_put {l : List Pk} {p : Pk} (h : (l.map fun p => p.1).Nodup) (hh : hasV l p.1 = false) (k : Nat) : ((l.drop k ++ [p]).map fun p => p.1).Nodup := by
  rw [List.map_append, List.nodup_append]
  refine ⟨?_, by simp, ?_⟩
  · rw [List.map_drop]; exact h.sublist (List.drop_sublist _ _)
  · intro a ha b hb e
    simp at hb; subst hb; subst e
    obtain ⟨y, hy, hye⟩ := List.mem_map.1 ha
    unfold hasV at hh
    rw [List.any_eq_false] at hh
    exact hh y (List.mem_of_mem_drop hy) (by simp [hye])

theorem good_put {q : Qu} {p : Pk} {s e : Int} (hg : goodV q = true) (hp : pkOk p = true) (hh : hasV q.2.2.1 p.1 = false) {k : Nat} (hr : roomV q.1 q.2.1 (q.2.2.1.drop k) (pkSz p) = true) : goodV (q.1, q.2.1, q.2.2.1.drop k ++ [p], s, e) = cntsOk (q.1, q.2.1, q.2.2.1.drop k ++ [p], s, e) := by
  obtain ⟨h1, h2, h3, h4, h5, h6⟩ := good_in hg
  unfold roomV at hr
  simp only [decide_eq_true_eq] at hr
  refine good_mk ⟨h1.1, h1.2.1, h1.2.2.1, h1.2.2.2.1, ?_⟩ ?_ (nodup_put h5 hh k) ?_
  · simp only [List.length_append, List.length_singleton]; omega
  · intro x hx
    rcases List.mem_append.1 hx with hx | hx
    · exact h4 x (List.mem_of_mem_drop hx)
    · simp at hx; subst hx; exact hp
  · show szs (q.2.2.1.drop k ++ [p]) ≤ q.2.1
    rw [szs_app, szs_cons]
    have : szs [] = 0 := rfl
    omega

theorem q_quPut {d : Nat} {q : Qu} {p : Pk} (h : allOkP q.2.2.1) (hl : q.2.2.1.length ≤ 100) (hp : pkOk p = true) (ha : 0 ≤ q.2.2.2.1 ∧ q.2.2.2.1 ≤ 10000000) (hb : 0 ≤ q.2.2.2.2 ∧ q.2.2.2.2 ≤ 10000000) (hr : roomV q.1 q.2.1 q.2.2.1 (pkSz p) = true) : g199 (d + 4) q p = some ((q.1, q.2.1, q.2.2.1 ++ [p], q.2.2.2.1, q.2.2.2.2), true) := by
  rw [e199, q_quRoom h hl hp, ob_s, hr, Bool.not_true, oif_f, q_quWith (by omega) (by omega) (by omega), ob_s]
  rw [room (by simp; omega), oif_t, Int.add_zero, Int.add_zero]

theorem q_sPutDropHead {d : Nat} {q : Qu} {p : Pk} (hl : q.2.2.1.length ≤ 100) : g72 (d + 6) q p = some (pdV q p) := by
  rw [e72, q_quAsked (by omega), ob_s]
  unfold pdV
  cases hc : canV q p with
  | false => rfl
  | true =>
    obtain ⟨hg, hp, hh⟩ := can_in hc
    obtain ⟨h1, h2, h3, h4, h5, h6⟩ := good_in hg
    rw [Bool.not_true, oif_f, if_pos rfl, q_quWith (by omega) (by omega) (by omega), ob_s]
    show oif (decide (pkSz p ≤ q.2.1)) _ _ = _
    have fin : ∀ (ids : List Int) (l : List Pk) (s e : Int), l.length ≤ 1000 → goodV (q.1, q.2.1, l, s, e) = cntsOk (q.1, q.2.1, l, s, e) → j72_0 (d + 5) ids q.1 q.2.1 s e l = some (if cntsOk (q.1, q.2.1, l, s, e) then ((q.1, q.2.1, l, s, e), ids, true) else (zeroQ, [], false)) := by
      intro ids l s e hl' hgc
      unfold j72_0
      rw [q_quIf (by simp only; omega), ob_s, hgc]
      cases cntsOk (q.1, q.2.1, l, s, e) <;> rfl
    by_cases hs : pkSz p ≤ q.2.1
    · rw [decide_eq_true hs, oif_t, show decide (pkSz p > q.2.1) = false by simp; omega, if_neg (by decide)]
      have hn := dropN_le q.1 q.2.1 (pkSz p) q.2.2.1
      have hnr := dropN_room (lim := q.1) (b := q.2.1) (s := pkSz p) (by omega) (by omega) q.2.2.1
      have hnn := dropN_not (lim := q.1) (b := q.2.1) (s := pkSz p) q.2.2.1
      generalize dropN q.1 q.2.1 (pkSz p) q.2.2.1 = n at hn hnr hnn ⊢
      refine Ok.val (iter_ok (fun j s => ∃ k : Nat, k + j = n ∧ s = (k : Int)) ?_ _ n _ (by rw [fuelN_eq]; omega) ⟨0, by omega, rfl⟩)
      rintro j _ ag ⟨k, hk, rfl⟩ hag
      simp only [l72_0, l72_0_b]
      simp only [nn, ofNat_toNat, oif_t]
      rw [bleT (show k ≤ q.2.2.1.length by omega), oif_t, q_quWith (by simp; omega) (by omega) (by omega), ob_s, q_quRoom (q := (q.1, q.2.1, q.2.2.1.drop k, q.2.2.2.1 + 0, q.2.2.2.2 + 0)) (all_drop h4 k) (by simp; omega) hp, ob_s]
      simp only
      rcases Nat.lt_or_ge k n with hlt | hge
      · rw [hnn k hlt, Bool.not_false, oif_t, wr1 (by omega)]
        exact hag (j - 1) _ (by omega) ⟨k + 1, by omega, rfl⟩
      · have : k = n := by omega
        subst this
        rw [hnr, Bool.not_true, oif_f]
        unfold j72_1
        simp only [nn, ofNat_toNat, oif_t]
        rw [bleT (show k ≤ q.2.2.1.length by omega), oif_t, q_quIds (by simp; omega), ob_s, oif_t, q_quWith (by simp; omega) (by omega) (by omega), ob_s]
        rw [q_quPut (q := (q.1, q.2.1, q.2.2.1.drop k, q.2.2.2.1 + 0, q.2.2.2.2 + (k : Int))) (all_drop h4 k) (by simp; omega) hp (by simp only; omega) (by simp only; omega) hnr, ob_s]
        simp only [Int.add_zero]
        rw [fin _ _ _ _ (by simp; omega) (good_put hg hp hh hnr)]
        exact Ok.some rfl
    · rw [decide_eq_false hs, oif_f, show decide (pkSz p > q.2.1) = true by simp; omega, if_pos rfl]
      simp only [Int.add_zero]
      exact fin _ _ _ _ (by omega) (good_mk h1 h4 h5 h6)

def sfV (x f : Pk) : Bool := (x.2.1 == f.2.1) && ((x.2.2.1 == f.2.2.1) && (x.2.2.2.1 == f.2.2.2.1))

theorem q_sameFlow {d : Nat} {x f : Pk} : g206 (d + 1) x f = some (sfV x f) := by
  rw [e206]; unfold sfV
  cases x.2.1 == f.2.1 <;> cases x.2.2.1 == f.2.2.1 <;> rfl

theorem q_SameFlow {d : Nat} {x f : Pk} (hx : pkOk x = true) (hf : pkOk f = true) : g78 (d + 3) x f = some (sfV x f, true) := by
  rw [e78, q_IsPacket, ob_s, hx, Bool.not_true, oif_f, q_IsPacket, ob_s, hf, Bool.not_true, oif_f, q_sameFlow, ob_s]

theorem q_sSameFlow {d : Nat} {x f : Pk} (hx : pkOk x = true) (hf : pkOk f = true) : g209 (d + 4) x f = some (sfV x f, true) := by
  rw [e209, q_pkGood, ob_s, hx, Bool.not_true, oif_f, q_pkGood, ob_s, hf, Bool.not_true]
  unfold j209_0 sfV
  cases x.2.1 == f.2.1 <;> cases x.2.2.1 == f.2.2.1 <;> rfl

def keepL (f : Pk) (l : List Pk) : List Pk := l.filter fun x => !sfV x f

def goneL (f : Pk) (l : List Pk) : List Pk := l.filter fun x => sfV x f

theorem parts_len (f : Pk) : ∀ l : List Pk, (keepL f l).length + (goneL f l).length = l.length
  | [] => rfl
  | x :: r => by
    have := parts_len f r
    unfold keepL goneL at this ⊢
    cases h : sfV x f <;> simp [List.filter_cons, h] <;> omega

theorem rf_range {fin : List Pk × List Int → Option (Qu × List Int × Bool)} {f : Pk} : ∀ (l : List Pk) (i : Nat) (a : List Pk) (b : List Int), a.length + l.length ≤ 1000 → b.length + l.length ≤ 1000 →
    rangeR (fun (x : Pk) _ (t : List Pk × List Int) k => oif (sfV x f) (oif (Nat.ble ((t.2.length + [x.1].length) * 8) roomMax) (k (t.1, t.2 ++ [x.1])) none) (oif (Nat.ble ((t.1.length + [x].length) * 48) roomMax) (k (t.1 ++ [x], t.2)) none)) fin l i (a, b) = fin (a ++ keepL f l, b ++ idL (goneL f l))
  | [], i, a, b, _, _ => by simp [rangeR, keepL, goneL, idL]
  | x :: r, i, a, b, h1, h2 => by
    simp only [List.length_cons] at h1 h2
    simp only [rangeR]
    cases h : sfV x f with
    | true =>
      rw [oif_t, room (by simp; omega), oif_t, rf_range r (i + 1) _ _ (by omega) (by simp; omega)]
      simp [keepL, goneL, List.filter_cons, h, idL]
    | false =>
      rw [oif_f, room (by simp; omega), oif_t, rf_range r (i + 1) _ _ (by simp; omega) (by omega)]
      simp [keepL, goneL, List.filter_cons, h, idL]

theorem rs_range {fin : List Pk × List Pk → Option (Qu × List Int × Bool)} {f : Pk} {G : Pk → Option (Bool × Bool)} : ∀ (l : List Pk) (i : Nat) (a b : List Pk), (∀ x ∈ l, G x = some (sfV x f, true)) → a.length + l.length ≤ 1000 → b.length + l.length ≤ 1000 →
    rangeR (fun (x : Pk) _ (t : List Pk × List Pk) k => obind (G x) fun r => oif r.1 (oif (Nat.ble ((t.2.length + [x].length) * 48) roomMax) (k (t.1, t.2 ++ [x])) none) (oif (Nat.ble ((t.1.length + [x].length) * 48) roomMax) (k (t.1 ++ [x], t.2)) none)) fin l i (a, b) = fin (a ++ keepL f l, b ++ goneL f l)
  | [], i, a, b, _, _, _ => by simp [rangeR, keepL, goneL]
  | x :: r, i, a, b, hG, h1, h2 => by
    simp only [List.length_cons] at h1 h2
    simp only [rangeR]
    rw [hG x (by simp), ob_s]
    have hG' : ∀ y ∈ r, G y = some (sfV y f, true) := fun y hy => hG y (by simp [hy])
    cases h : sfV x f with
    | true =>
      simp only [oif_t]
      rw [room (by simp; omega), oif_t, rs_range r (i + 1) _ _ hG' (by omega) (by simp; omega)]
      simp [keepL, goneL, List.filter_cons, h]
    | false =>
      simp only [oif_f]
      rw [room (by simp; omega), oif_t, rs_range r (i + 1) _ _ hG' (by simp; omega) (by omega)]
      simp [keepL, goneL, List.filter_cons, h]

def rfQ (q : Qu) (f : Pk) : Qu := (q.1, q.2.1, keepL f q.2.2.1, q.2.2.2.1, q.2.2.2.2 + ((goneL f q.2.2.1).length : Int))

def rfV (q : Qu) (f : Pk) : Qu × List Int × Bool :=
  if goodV q && pkOk f then if cntsOk (rfQ q f) then (rfQ q f, idL (goneL f q.2.2.1), true) else (zeroQ, [], false) else (zeroQ, [], false)

theorem q_RemoveFlow {d : Nat} {q : Qu} {f : Pk} (hl : q.2.2.1.length ≤ 100) : g76 (d + 7) q f = some (rfV q f) := by
  rw [e76, q_IsQueue (by omega), ob_s, q_IsPacket, ob_s]
  unfold rfV
  cases hg : goodV q with
  | false => rfl
  | true =>
    cases hf : pkOk f with
    | false => rfl
    | true =>
      obtain ⟨h1, h2, h3, h4, h5, h6⟩ := good_in hg
      have hpl := parts_len f q.2.2.1
      simp only [Bool.not_true, oif_f, Bool.and_self, if_true]
      unfold j76_1
      rw [oif_f]
      refine (range_eq (fun (t : List Pk × List Int) (i : Int) => (t.1, t.2, i)) q.2.2.1 (fun (x : Pk) _ (t : List Pk × List Int) k => oif (sfV x f) (oif (Nat.ble ((t.2.length + [x.1].length) * 8) roomMax) (k (t.1, t.2 ++ [x.1])) none) (oif (Nat.ble ((t.1.length + [x].length) * 48) roomMax) (k (t.1 ++ [x], t.2)) none)) (fun t => j76_0 (d + 6) q t.1 t.2) ?_ ?_ (by rw [fuelN_eq]; omega) ([], [])).trans ?_
      · intro ag t i x hx
        have hi := (List.getElem?_eq_some_iff.1 hx).1
        simp only [l76_0, l76_0_b, ltl hx, nn, ofNat_toNat, hx, ob_s, oif_t, q_sameFlow]
        rw [wr1 (by omega)]
      · intro ag t; simp only [l76_0, l76_0_b, ltn, oif_f]
      · rw [rf_range _ _ _ _ (by simp; omega) (by simp; omega)]
        unfold j76_0
        simp only [List.nil_append, idL_len]
        rw [wr (n := q.2.2.2.2 + (((goneL f q.2.2.1).length : Nat) : Int)) (by omega) (by omega), q_ifQueue, ob_s]
        show (oif (!cntsOk (rfQ q f)) _ _ : Option (Qu × List Int × Bool)) = _
        cases cntsOk (rfQ q f) <;> rfl

theorem good_keep {q : Qu} {f : Pk} {s e : Int} (hg : goodV q = true) : goodV (q.1, q.2.1, keepL f q.2.2.1, s, e) = cntsOk (q.1, q.2.1, keepL f q.2.2.1, s, e) := by
  obtain ⟨h1, h2, h3, h4, h5, h6⟩ := good_in hg
  have hpl := parts_len f q.2.2.1
  refine good_mk ⟨h1.1, h1.2.1, h1.2.2.1, h1.2.2.2.1, by simp only; omega⟩ (fun x hx => h4 x (List.mem_filter.1 hx).1) ?_ ?_
  · exact h5.sublist ((List.filter_sublist).map _)
  · have : ∀ l : List Pk, allOkP l → szs (keepL f l) ≤ szs l := by
      intro l
      induction l with
      | nil => intro _; exact Int.le_refl _
      | cons x r ih =>
        intro hh
        have i1 := ih (fun y hy => hh y (by simp [hy]))
        have i2 := (szsQ hh x (by simp)).1
        unfold keepL at i1 ⊢
        rw [szs_cons, List.filter_cons]
        split
        · rw [szs_cons]; omega
        · omega
    have := this _ h4
    simp only; omega

theorem q_sRemoveFlow {d : Nat} {q : Qu} {f : Pk} (hl : q.2.2.1.length ≤ 100) : g77 (d + 6) q f = some (rfV q f) := by
  rw [e77, q_quGood (by omega), ob_s, q_pkGood, ob_s]
  unfold rfV
  cases hg : goodV q with
  | false => rfl
  | true =>
    cases hf : pkOk f with
    | false => rfl
    | true =>
      obtain ⟨h1, h2, h3, h4, h5, h6⟩ := good_in hg
      have hpl := parts_len f q.2.2.1
      simp only [Bool.not_true, oif_f, Bool.and_self, if_true]
      unfold j77_1
      rw [oif_f]
      refine (range_eq (fun (t : List Pk × List Pk) (i : Int) => (t.1, t.2, i)) q.2.2.1 (fun (x : Pk) _ (t : List Pk × List Pk) k => obind (g209 (d + 5) x f) fun r => oif r.1 (oif (Nat.ble ((t.2.length + [x].length) * 48) roomMax) (k (t.1, t.2 ++ [x])) none) (oif (Nat.ble ((t.1.length + [x].length) * 48) roomMax) (k (t.1 ++ [x], t.2)) none)) (fun t => j77_0 (d + 5) q t.1 t.2) ?_ ?_ (by rw [fuelN_eq]; omega) ([], [])).trans ?_
      · intro ag t i x hx
        have hi := (List.getElem?_eq_some_iff.1 hx).1
        simp only [l77_0, l77_0_b, ltl hx, nn, ofNat_toNat, hx, ob_s, oif_t]
        rw [wr1 (by omega)]
      · intro ag t; simp only [l77_0, l77_0_b, ltn, oif_f]
      · rw [rs_range (f := f) _ _ _ _ (fun x hx => q_sSameFlow (h4 x hx) hf) (by simp; omega) (by simp; omega)]
        unfold j77_0
        simp only [List.nil_append]
        rw [q_quWith (by omega) (by omega) (by omega), ob_s, q_quIf (by simp only; omega), ob_s, good_keep hg, q_quIds (by omega), ob_s, Int.add_zero]
        show (oif (!(if cntsOk (rfQ q f) then (rfQ q f, true) else (zeroQ, false)).2) (some (zeroQ, [], false)) (some ((if cntsOk (rfQ q f) then (rfQ q f, true) else (zeroQ, false)).1, idL (goneL f q.2.2.1), true)) : Option (Qu × List Int × Bool)) = _
        cases cntsOk (rfQ q f) <;> rfl

/-- Ticks up to the packet with an Id. -/
def sumTo (id : Int) : List Pk → Int → Option Int
  | [], _ => none
  | x :: r, t => if x.1 == id then some (t + pkSz x) else sumTo id r (t + pkSz x)

def ratOk (r : Int) : Bool := decide (1 ≤ r ∧ r ≤ 100000)

def dlV (q : Qu) (id r : Int) : Int × Bool :=
  if goodV q && ratOk r then match sumTo id q.2.2.1 0 with
    | some n => ((n + r - 1) / r, true)
    | none => (0, false)
  else (0, false)

theorem sumTo_at {id : Int} : ∀ (l : List Pk) (t : Int), (hasV l id = false → sumTo id l t = none) ∧ (∀ k p, l[k]? = some p → p.1 = id → hasV (l.take k) id = false → sumTo id l t = some (t + szs (l.take (k + 1))))
  | [], t => ⟨fun _ => rfl, fun k p h => by simp at h⟩
  | x :: r, t => by
    obtain ⟨i1, i2⟩ := sumTo_at (id := id) r (t + pkSz x)
    refine ⟨fun h => ?_, fun k p hk hp hh => ?_⟩
    · simp only [hasV, List.any_cons, Bool.or_eq_false_iff] at h
      unfold sumTo; rw [h.1]; exact i1 h.2
    · cases k with
      | zero =>
        simp at hk; subst hk
        unfold sumTo
        rw [show (x.1 == id) = true by simp [hp], if_pos rfl]
        simp [szs]
      | succ k =>
        simp only [List.take_succ_cons, hasV, List.any_cons, Bool.or_eq_false_iff] at hh
        unfold sumTo
        rw [hh.1, if_neg (by decide), i2 k p (by simpa using hk) hp hh.2]
        rw [List.take_succ_cons, szs_cons]; congr 1; omega

theorem dl_range {id r : Int} {no : Option (Int × Bool)} (hr : ratOk r = true) : ∀ (l : List Pk) (i : Nat) (t : Int), allOkP l → 0 ≤ t → t + 1500 * (l.length : Int) ≤ 1000000000 →
    rangeR (fun (x : Pk) _ (t : Int) k => oif (x.1 == id) (oif ((r : Int) == 0) none (some ((IntKind.i64.wrap ((IntKind.i64.wrap ((IntKind.i64.wrap ((IntKind.i64.wrap (t + pkSz x)) + r)) - 1)).tdiv r)), true))) (k (IntKind.i64.wrap (t + pkSz x)))) (fun _ => no) l i t = match sumTo id l t with | some n => some ((n + r - 1) / r, true) | none => no
  | [], i, t, _, _, _ => rfl
  | x :: rr, i, t, ha, h0, h1 => by
    have hx := pkOk_in (ha x (by simp))
    have hs : 1 ≤ pkSz x ∧ pkSz x ≤ 1500 := by unfold pkSz; omega
    simp only [List.length_cons] at h1
    simp only [ratOk, decide_eq_true_eq] at hr
    simp only [rangeR]
    rw [wr (n := t + pkSz x) (by omega) (by omega)]
    unfold sumTo
    cases h : x.1 == id with
    | true =>
      rw [oif_t, show ((r : Int) == 0) = false by simp; omega, oif_f, if_pos rfl, wr (n := t + pkSz x + r) (by omega) (by omega), wr (n := t + pkSz x + r - 1) (by omega) (by omega), Int.tdiv_eq_ediv_of_nonneg (by omega)]
      have hd0 : 0 ≤ (t + pkSz x + r - 1) / r := Int.ediv_nonneg (by omega) (by omega)
      have hd1 : (t + pkSz x + r - 1) / r ≤ t + pkSz x + r - 1 := Int.ediv_le_self _ (by omega)
      rw [wr (by omega) (by omega)]
    | false =>
      rw [oif_f, if_neg (by decide)]
      exact dl_range (by simp [ratOk]; exact hr) rr (i + 1) _ (fun y hy => ha y (by simp [hy])) (by omega) (by omega)

theorem q_DelayOf {d : Nat} {q : Qu} {id r : Int} (hl : q.2.2.1.length ≤ 100) : g80 (d + 7) q id r = some (dlV q id r) := by
  rw [e80, q_IsQueue (by omega), ob_s]
  have no : j80_1 (d + 6) q id r true = some (0, false) := rfl
  unfold dlV
  cases hg : goodV q with
  | false => rfl
  | true =>
    rw [Bool.not_true, oif_f]
    obtain ⟨h1, h2, h3, h4, h5, h6⟩ := good_in hg
    have yes : ratOk r = true → j80_1 (d + 6) q id r false = some (match sumTo id q.2.2.1 0 with | some n => ((n + r - 1) / r, true) | none => (0, false)) := by
      intro hr
      unfold j80_1
      rw [oif_f]
      refine (range_eq (fun (t : Int) (i : Int) => ((0 : Int), false, t, i)) q.2.2.1 (fun (x : Pk) _ (t : Int) k => oif (x.1 == id) (oif ((r : Int) == 0) none (some ((IntKind.i64.wrap ((IntKind.i64.wrap ((IntKind.i64.wrap ((IntKind.i64.wrap (t + pkSz x)) + r)) - 1)).tdiv r)), true))) (k (IntKind.i64.wrap (t + pkSz x)))) (fun _ => some (0, false)) ?_ ?_ (by rw [fuelN_eq]; omega) 0).trans ?_
      · intro ag t i x hx
        have hi := (List.getElem?_eq_some_iff.1 hx).1
        simp only [l80_0, l80_0_b, ltl hx, nn, ofNat_toNat, hx, ob_s, oif_t]
        rw [wr1 (by omega)]; rfl
      · intro ag t; simp only [l80_0, l80_0_b, ltn, oif_f]; rfl
      · rw [dl_range hr _ _ _ h4 (Int.le_refl 0) (by omega)]
        cases sumTo id q.2.2.1 0 <;> rfl
    by_cases a1 : r < 1
    · rw [decide_eq_true a1, oif_t, no, show ratOk r = false by simp [ratOk]; omega]; rfl
    · rw [decide_eq_false a1, oif_f]
      by_cases a2 : r > 100000
      · rw [decide_eq_true a2, no, show ratOk r = false by simp [ratOk]; omega]; rfl
      · have hr : ratOk r = true := by simp [ratOk]; omega
        rw [decide_eq_false a2, yes hr, hr]; rfl

theorem q_sDelayOf {d : Nat} {q : Qu} {id r : Int} (hl : q.2.2.1.length ≤ 100) : g81 (d + 5) q id r = some (dlV q id r) := by
  rw [e81, q_quGood (by omega), ob_s]
  have no : j81_0 (d + 4) q id r true = some (0, false) := rfl
  unfold dlV
  cases hg : goodV q with
  | false => rfl
  | true =>
    rw [Bool.not_true, oif_f, q_quAt (by omega), ob_s, atV_neg]
    obtain ⟨h1, h2, h3, h4, h5, h6⟩ := good_in hg
    obtain ⟨g1, g2⟩ := atI_has (l := q.2.2.1) (i := 0) (id := id)
    obtain ⟨i1, i2⟩ := sumTo_at (id := id) q.2.2.1 0
    cases hh : hasV q.2.2.1 id with
    | false => rw [Bool.not_false, oif_t, no, i1 hh]; cases ratOk r <;> rfl
    | true =>
      rw [Bool.not_true, oif_f, q_l1In, ob_s]
      show j81_0 (d + 4) q id r (!ratOk r) = _
      cases hr : ratOk r with
      | false => rfl
      | true =>
        have hr' := hr
        simp only [ratOk, decide_eq_true_eq] at hr'
        obtain ⟨k, p, k1, k2, k3, k4⟩ := g2 hh
        have hk := (List.getElem?_eq_some_iff.1 k2).1
        rw [i2 k p k2 k3 k4]
        unfold j81_0
        rw [Bool.not_true, oif_f, q_quAt (by omega), ob_s]
        unfold atV
        rw [k1, Nat.zero_add, wr1 (by omega)]
        simp only [nn, ofNat_toNat, oif_t]
        have hta : allOkP (q.2.2.1.take (k + 1)) := fun p hp => h4 p (List.mem_of_mem_take hp)
        have hs0 := szs_nonneg hta
        have hs1 := szs_le _ hta
        rw [List.length_take] at hs1
        rw [bleT (show k + 1 ≤ q.2.2.1.length by omega), oif_t, q_pkSumQ hta (by simp; omega), ob_s, show ((r : Int) == 0) = false by simp; omega, oif_f]
        generalize szs (q.2.2.1.take (k + 1)) = n at hs0 hs1 ⊢
        rw [wr (n := n + r) (by omega) (by omega), wr (n := n + r - 1) (by omega) (by omega), Int.tdiv_eq_ediv_of_nonneg (by omega)]
        have hd0 : 0 ≤ (n + r - 1) / r := Int.ediv_nonneg (by omega) (by omega)
        have hd1 : (n + r - 1) / r ≤ n + r - 1 := Int.ediv_le_self _ (by omega)
        rw [wr (by omega) (by omega)]
        simp

def nqV (a b : Int) : Qu × Bool := if goodV (a, b, [], 0, 0) then ((a, b, [], 0, 0), true) else (zeroQ, false)

theorem q_NewQueue {d : Nat} {a b : Int} : g83 (d + 7) a b = some (nqV a b) := by
  rw [e83, q_IsQueue (by simp), ob_s]; unfold nqV; cases goodV (a, b, [], 0, 0) <;> rfl

theorem q_sNewQueue {d : Nat} {a b : Int} : g84 (d + 5) a b = some (nqV a b) := by
  rw [e84, q_quGood (by simp), ob_s]; unfold nqV; cases goodV (a, b, [], 0, 0) <;> rfl

def taV (q : Qu) : Qu × List Int × Bool :=
  if goodV q && decide (q.2.2.2.1 + (q.2.2.1.length : Int) ≤ 1000000) then ((q.1, q.2.1, [], q.2.2.2.1 + (q.2.2.1.length : Int), q.2.2.2.2), idL q.2.2.1, true) else (zeroQ, [], false)

theorem q_TakeAll {d : Nat} {q : Qu} (hl : q.2.2.1.length ≤ 100) : g86 (d + 7) q = some (taV q) := by
  rw [e86, q_IsQueue (by omega), ob_s]
  unfold taV
  cases hg : goodV q with
  | false => rfl
  | true =>
    obtain ⟨h1, h2, h3, h4, h5, h6⟩ := good_in hg
    rw [Bool.not_true, oif_f, wr (n := q.2.2.2.1 + ((q.2.2.1.length : Nat) : Int)) (by omega) (by omega)]
    by_cases a : q.2.2.2.1 + ((q.2.2.1.length : Nat) : Int) > 1000000
    · rw [decide_eq_true a, decide_eq_false (by omega)]; rfl
    · rw [decide_eq_false a, decide_eq_true (show q.2.2.2.1 + ((q.2.2.1.length : Nat) : Int) ≤ 1000000 by omega)]
      unfold j86_0
      rw [oif_f, q_idsOf (by omega), ob_s, wr (n := q.2.2.2.1 + ((q.2.2.1.length : Nat) : Int)) (by omega) (by omega)]; rfl

theorem q_sTakeAll {d : Nat} {q : Qu} (hl : q.2.2.1.length ≤ 100) : g87 (d + 6) q = some (taV q) := by
  rw [e87, q_quGood (by omega), ob_s]
  unfold taV
  cases hg : goodV q with
  | false => rfl
  | true =>
    obtain ⟨h1, h2, h3, h4, h5, h6⟩ := good_in hg
    have hgo : goodV (q.1, q.2.1, [], q.2.2.2.1 + ((q.2.2.1.length : Nat) : Int), q.2.2.2.2) = cntsOk (q.1, q.2.1, [], q.2.2.2.1 + ((q.2.2.1.length : Nat) : Int), q.2.2.2.2) := good_mk ⟨h1.1, h1.2.1, h1.2.2.1, h1.2.2.2.1, by simp; omega⟩ (fun p hp => by simp at hp) (by simp) (by show szs [] ≤ q.2.1; simp [szs]; omega)
    have hcn : cntsOk (q.1, q.2.1, [], q.2.2.2.1 + ((q.2.2.1.length : Nat) : Int), q.2.2.2.2) = decide (q.2.2.2.1 + ((q.2.2.1.length : Nat) : Int) ≤ 1000000) := by
      unfold cntsOk cnt
      simp only
      rw [decide_eq_true (show 0 ≤ q.2.2.2.2 ∧ q.2.2.2.2 ≤ 1000000 by omega), Bool.and_true]
      rw [Bool.eq_iff_iff]; simp; omega
    rw [Bool.not_true, oif_f, q_quWith (by simp) (by omega) (by omega), ob_s, q_quIf (by simp), ob_s, Int.add_zero, hgo, hcn, q_quIds (by omega), ob_s]
    cases decide (q.2.2.2.1 + ((q.2.2.1.length : Nat) : Int) ≤ 1000000) <;> rfl

theorem q_pSamePackets {d : Nat} {l : List Pk} (hl : l.length < 4194304) : g201 (d + 1) l l = some true := by
  rw [e201, bne_self_eq_false, oif_f]
  refine (range_eq (fun (t : Bool) (i : Int) => (t, i)) l (fun x i t k => k t) (j201_0 d) ?_ ?_ (by rw [fuelN_eq]; exact hl) false).trans ?_
  · intro ag t i x hx
    have hi := (List.getElem?_eq_some_iff.1 hx).1
    simp only [l201_0, l201_0_b, ltl hx, nn, ofNat_toNat, hx, ob_s, oif_t, beq_self_eq_true, Bool.and_self, Bool.not_true, oif_f]
    rw [wr1 (by omega)]
  · intro ag t; simp only [l201_0, l201_0_b, ltn, oif_f]
  · rw [rangeR_fold (f := fun _ _ t => t)]; rfl

theorem q_pSameQueue {d : Nat} {q : Qu} (hl : q.2.2.1.length < 4194304) : g74 (d + 2) q q = some true := by
  rw [e74]
  simp only [beq_self_eq_true, oif_t]
  rw [q_pSamePackets hl, ob_s]

theorem p_quPut {d : Nat} {q : Qu} {p : Pk} (hl : q.2.2.1.length ≤ 500) : Ok (g199 (d + 4) q p) fun r => r.1.2.2.1.length ≤ q.2.2.1.length + 1 := by
  have hw : ∀ a b, Ok (g196 (d + 3) q q.2.2.1 a b) fun r => r.2.2.1 = q.2.2.1 := by
    intro a b
    rw [e196, room (by simp; omega), oif_t]
    exact Ok.some rfl
  have hr : Ok (g197 (d + 3) q p) fun _ => True := by
    rw [e197]
    refine Ok.oif (fun _ => ?_) (fun _ => Ok.some trivial)
    rw [e285]
    obtain ⟨n, hn, _⟩ := p_pkSum (d := d) (l := q.2.2.1) (by omega)
    rw [hn, ob_s, ob_s]; exact Ok.some trivial
  rw [e199]
  refine Ok.bind hr fun b _ => ?_
  refine Ok.oif (fun _ => ?_) (fun _ => ?_)
  · exact Ok.bind (hw 0 1) fun r hr => Ok.some (by simp only; rw [hr]; omega)
  · refine Ok.bind (hw 0 0) fun r hr => ?_
    rw [hr, room (by simp; omega), oif_t]
    exact Ok.some (by simp)

theorem p_queue {d m : Nat} {c : List Int × Int × Int} (hc : CurOk m c) (hm : m + 4000 < 4611686018427387904) : Ok (g202 (d + 5) c) fun r => r.1.2.2.1.length ≤ 61 ∧ CurOk (m + 1000) r.2 := by
  rw [e202]
  refine Ok.bind (p_among hc (by omega) (by simp)) fun r1 hr1 => ?_
  refine Ok.bind (p_among hr1.2 (by omega) (by simp)) fun r2 hr2 => ?_
  refine Ok.bind (p_pick hr2.2 (by omega)) fun r3 hr3 => ?_
  refine Ok.bind (p_pick hr3.2.2 (by omega)) fun r4 hr4 => ?_
  refine Ok.bind (p_pick hr4.2.2 (by omega)) fun r5 hr5 => ?_
  obtain ⟨a1, a2, a3⟩ := hr5
  refine iter_ok (fun j s => s.1 ≤ (j : Int) ∧ j ≤ 7 ∧ s.2.2.2.2.1.length + j ≤ 7 ∧ CurOk (m + 400 - 30 * j) s.2.1) ?_ _ 7 _ (by rw [fuelN_eq]; omega) ⟨by simp only; omega, by omega, by simp, a3.mono (by omega)⟩
  rintro j ⟨n, c', q⟩ ag ⟨h1, h2, h3, h4⟩ hag
  simp only at h1 h3 h4
  simp only [l202_0, l202_0_b]
  refine Ok.oif (fun hn => ?_) (fun _ => ?_)
  · simp only [decide_eq_true_eq] at hn
    refine Ok.bind (p_packet h4 (by omega)) fun p hp => ?_
    refine Ok.bind (p_pick hp (by omega)) fun k hk => ?_
    rw [q_quAt (by omega), ob_s]
    have three : ∀ (b : Bool) (e1 e2 e3 e4 : Int) (l : List Pk), l.length ≤ q.2.2.1.length + 1 → Ok (j202_3 (d + 4) ag n p k (atV q.2.2.1 (IntKind.i64.wrap (1 + k.1))) b e1 e2 e3 e4 l) fun r => r.1.2.2.1.length ≤ 61 ∧ CurOk (m + 1000) r.2 := by
      intro b e1 e2 e3 e4 l hl
      unfold j202_3 j202_2
      rw [wr (n := n - 1) (by omega) (by omega)]
      exact hag (j - 1) _ (by omega) ⟨by simp only; omega, by omega, by simp only; omega, hk.2.2.mono (by omega)⟩
    refine Ok.oif (fun _ => ?_) (fun _ => three _ _ _ _ _ _ (by omega))
    refine Ok.bind (p_quPut (by omega)) fun r hr => ?_
    exact Ok.oif (fun _ => three _ _ _ _ _ _ hr) (fun _ => three _ _ _ _ _ _ (by omega))
  · unfold j202_1
    refine Ok.bind (p_pick (c := (c'.1, c'.2.1, c'.2.2)) h4 (by omega)) fun r6 hr6 => ?_
    obtain ⟨b1, b2, b3⟩ := hr6
    refine Ok.oif (fun _ => ?_) (fun _ => Ok.oif (fun _ => ?_) (fun _ => Ok.oif (fun _ => ?_) (fun _ => Ok.oif (fun _ => ?_) (fun _ => Ok.oif (fun _ => ?_) (fun _ => Ok.oif (fun _ => ?_) (fun _ => ?_))))))
    · exact Ok.bind (p_among b3 (by omega) (by simp)) fun u hu => Ok.some ⟨by simp only; omega, hu.2.mono (by omega)⟩
    · exact Ok.bind (p_among b3 (by omega) (by simp)) fun u hu => Ok.some ⟨by simp only; omega, hu.2.mono (by omega)⟩
    · exact Ok.bind (p_among b3 (by omega) (by simp)) fun u hu => Ok.some ⟨by simp only; omega, hu.2.mono (by omega)⟩
    · exact Ok.bind (p_among b3 (by omega) (by simp)) fun u hu => Ok.some ⟨by simp only; omega, hu.2.mono (by omega)⟩
    · refine Ok.bind (p_packet b3 (by omega)) fun u hu => ?_
      rw [room (by simp; omega), oif_t]
      exact Ok.some ⟨by simp; omega, hu.mono (by omega)⟩
    · refine Ok.bind (p_pick b3 (by omega)) fun u hu => ?_
      obtain ⟨u1, u2, u3⟩ := hu
      rw [wr (n := 59 + u.1) (by omega) (by omega)]
      refine iter_ok (fun j s => s.1 ≤ (j : Int) ∧ j ≤ 61 ∧ s.2.2.2.2.1.length + j ≤ 61 ∧ CurOk (m + 900 - 2 * j) s.2.1) ?_ _ 61 _ (by rw [fuelN_eq]; omega) ⟨by simp only; omega, by omega, by simp, u3.mono (by omega)⟩
      rintro j2 ⟨n2, c2, q2⟩ ag2 ⟨g1, g2, g3, g4⟩ hag2
      simp only at g1 g3 g4
      simp only [l202_1, l202_1_b]
      refine Ok.oif (fun hn => ?_) (fun _ => ?_)
      · simp only [decide_eq_true_eq] at hn
        refine Ok.bind (p_among g4 (by omega) (by simp)) fun v hv => ?_
        rw [room (by simp; omega), oif_t, wr (n := n2 - 1) (by omega) (by omega)]
        exact hag2 (j2 - 1) _ (by omega) ⟨by simp only; omega, by omega, by simp; omega, hv.2.mono (by omega)⟩
      · unfold j202_0
        exact Ok.some ⟨by simp only; omega, CurOk.mono (c := (c2.1, c2.2.1, c2.2.2)) g4 (by omega)⟩
    · exact Ok.some ⟨by simp only; omega, b3.mono (by omega)⟩

theorem p_comer {d m : Nat} {c : List Int × Int × Int} (hc : CurOk m c) (hm : m + 100 < 4611686018427387904) : Ok (g203 (d + 6) c) fun r => CurOk (m + 40) r.2 := by
  rw [e203]
  refine Ok.bind (p_one hc (by omega)) fun r hr => ?_
  refine Ok.oif (fun _ => ?_) (fun _ => ?_)
  · exact Ok.bind (p_anyPacket hr (by omega)) fun u hu => Ok.some (hu.mono (by omega))
  · refine Ok.bind (p_packet hr (by omega)) fun u hu => ?_
    exact Ok.bind (p_pick hu (by omega)) fun v hv => Ok.some (hv.2.2.mono (by omega))

theorem p_DrawPutDropHead {d : Nat} {x : List Int} (hx : Bytes x) : Ok (g70 (d + 8) x) fun r => r.1.2.2.1.length ≤ 61 := by
  rw [e70, e189]
  obtain ⟨r, h1, h2, h3⟩ := p_queue (d := d + 1) (CurOk.new hx) (by omega)
  obtain ⟨s, h4, _⟩ := p_comer (d := d) h3 (by omega)
  rw [h1, ob_s, h4, ob_s, ob_s]
  exact Ok.some h2

theorem p_DrawRemoveFlow {d : Nat} {x : List Int} (hx : Bytes x) : Ok (g75 (d + 7) x) fun r => r.1.2.2.1.length ≤ 61 := by
  rw [e75]
  refine Ok.bind (p_queue (d := d + 1) (CurOk.new hx) (by omega)) fun r hr => ?_
  refine Ok.bind (p_comer hr.2 (by omega)) fun s hs => ?_
  have fin : ∀ (b : Bool) (c : List Int × Int × Int), CurOk 1100 c → (b = true → 0 < r.1.2.2.1.length) → Ok (j75_0 (d + 6) r s b c.1 c.2.1 c.2.2) fun r => r.1.2.2.1.length ≤ 61 := by
    intro b c hc hb
    unfold j75_0
    refine Ok.oif (fun h => ?_) (fun _ => Ok.some hr.1)
    have := hb h
    refine Ok.bind (p_pick (c := (c.1, c.2.1, c.2.2)) hc (by omega)) fun u hu => ?_
    obtain ⟨u1, u2, u3⟩ := hu
    rw [decide_eq_true u1, oif_t, blt_of (show u.1.toNat < r.1.2.2.1.length by omega), oif_t, List.getElem?_eq_getElem (show u.1.toNat < r.1.2.2.1.length by omega), ob_s]
    exact Ok.some hr.1
  refine Ok.oif (fun h => ?_) (fun _ => fin false s.2 (hs.mono (by omega)) (fun h => by simp at h))
  simp only [decide_eq_true_eq] at h
  exact Ok.bind (p_one hs (by omega)) fun u hu => fin u.1 u.2 (hu.mono (by omega)) (fun _ => by omega)

theorem p_DrawDelayOf {d : Nat} {x : List Int} (hx : Bytes x) : Ok (g79 (d + 7) x) fun r => r.1.2.2.1.length ≤ 61 := by
  rw [e79]
  refine Ok.bind (p_queue (d := d + 1) (CurOk.new hx) (by omega)) fun r hr => ?_
  refine Ok.bind (p_pick hr.2 (by omega)) fun s hs => ?_
  have fin : ∀ (b : Bool) (c : List Int × Int × Int), CurOk 1100 c → (b = true → 0 < r.1.2.2.1.length) → Ok (j79_0 (d + 6) r s b c.1 c.2.1 c.2.2) fun r => r.1.2.2.1.length ≤ 61 := by
    intro b c hc hb
    unfold j79_0
    refine Ok.oif (fun h => ?_) (fun _ => ?_)
    · have := hb h
      refine Ok.bind (p_pick (c := (c.1, c.2.1, c.2.2)) hc (by omega)) fun u hu => ?_
      obtain ⟨u1, u2, u3⟩ := hu
      rw [decide_eq_true u1, oif_t, blt_of (show u.1.toNat < r.1.2.2.1.length by omega), oif_t, List.getElem?_eq_getElem (show u.1.toNat < r.1.2.2.1.length by omega), ob_s]
      exact Ok.bind (p_among u3 (by omega) (by simp)) fun v hv => Ok.some hr.1
    · exact Ok.bind (p_among (c := (c.1, c.2.1, c.2.2)) hc (by omega) (by simp)) fun v hv => Ok.some hr.1
  refine Ok.oif (fun h => ?_) (fun _ => fin false s.2 (hs.2.2.mono (by omega)) (fun h => by simp at h))
  simp only [decide_eq_true_eq] at h
  exact Ok.bind (p_one hs.2.2 (by omega)) fun u hu => fin (!u.1) u.2 (hu.mono (by omega)) (fun _ => by omega)

theorem p_DrawNewQueue {d : Nat} {x : List Int} (hx : Bytes x) : Ok (g82 (d + 4) x) fun _ => True := by
  rw [e82]
  refine Ok.bind (p_among (CurOk.new hx) (by omega) (by simp)) fun r hr => ?_
  exact Ok.bind (p_among hr.2 (by omega) (by simp)) fun s hs => Ok.some trivial

theorem p_DrawTakeAll {d : Nat} {x : List Int} (hx : Bytes x) : Ok (g85 (d + 7) x) fun r => r.2.2.1.length ≤ 61 := by
  rw [e85, e212]
  obtain ⟨r, h1, h2, h3⟩ := p_queue (d := d) (CurOk.new hx) (by omega)
  rw [h1, ob_s, ob_s]
  exact Ok.some h2

theorem ext_only {f : Nat} (h : f ≠ 193) : pvVext f = none ∧ pvExt f = none := by
  constructor
  · unfold pvVext; split <;> simp_all
  · unfold pvExt; split <;> simp_all

theorem extAll : ExtAll Try.prog pvAnn := by
  refine ⟨⟨fun f v h => ?_, fun f h => ?_, fun f h => ?_⟩, fun f e h => ?_⟩
  · by_cases hf : f = 193
    · subst hf
      have h' : pvVext 193 = some v := h
      have h2 : some (fun a => delV tyDel a) = some v := h'
      injection h2 with h2
      subst h2
      exact ⟨_, rfl, del_ok⟩
    · have : pvVext f = some v := h
      rw [(ext_only hf).1] at this; simp at this
  · by_cases hf : f = 193
    · subst hf
      have h2 : some (fun a => delV tyDel a) = none := h
      simp at h2
    · exact (ext_only hf).2
  · by_cases hf : f = 193
    · subst hf
      have h2 : false = true := h
      simp at h2
    · exact (ext_only hf).1
  · by_cases hf : f = 193
    · subst hf
      have h2 : some (delX 6 zsDel) = some e := h
      injection h2 with h2
      subst h2
      exact del_ext
    · have h2 : pvExt f = some e := h
      rw [(ext_only hf).2] at h2; simp at h2

end Go.Proofs.Ytaggjheabeoohaa
