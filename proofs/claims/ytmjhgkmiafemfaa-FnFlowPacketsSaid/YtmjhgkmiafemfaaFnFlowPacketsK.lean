/-
  What the cursor's functions and the small ones give by value.
  Conditions: the cursor has not been moved 2^62 times.
  Comparing and adding up lists of numbers; ranges.
  Conditions: the lists are shorter than the fuel.
  Packets, in both packages: valid ones, flows, sizes; the draws.
  Conditions: none, but those of the cursor for the draws.
  Flows and their packets at ticks, in both packages.
  Conditions: none, but those of the cursor for the draws.
-/
import Derived.Test.YtmjhgkmiafemfaaFnFlowPacketsRes
import Derived.Test.YtmjhgkmiafemfaaPKit2
set_option linter.all false
namespace Go.Proofs.Ytmjhgkmiafemfaa
open Go.Ev Go.Pv

theorem p_next {d m : Nat} {c : List Int × Int × Int} (hc : CurOk m c) (hm : m < 4611686018427387904) : Ok (g289 (d + 1) c) fun r => 0 ≤ r.1 ∧ r.1 < 256 ∧ CurOk (m + 1) r.2 := by
  obtain ⟨hb, h0, h1⟩ := hc
  obtain ⟨code, at', seed⟩ := c
  simp only at hb h0 h1
  have hw : IntKind.i64.wrap (at' + 1) = at' + 1 := wr (by omega) (by omega)
  rw [e289]
  have fin : ∀ n : Int, (at' < code.length → 0 ≤ n ∧ n < 256) → Ok (j289_0 d (code, at', seed) n) fun r => 0 ≤ r.1 ∧ r.1 < 256 ∧ CurOk (m + 1) r.2 := by
    intro n hn
    unfold j289_0
    simp only [hw]
    refine Ok.oif (fun h => ?_) (fun h => ?_)
    · simp only [decide_eq_true_eq] at h
      obtain ⟨a, b⟩ := hn (by omega)
      exact Ok.some ⟨a, b, hb, by simp only; omega, by simp only; omega⟩
    · exact Ok.some ⟨(seedByte _).1, (seedByte _).2, hb, by simp only; omega, by simp only; omega⟩
  refine Ok.oif (fun h => ?_) (fun h => ?_)
  · simp only [decide_eq_true_eq] at h
    refine Ok.oif (fun _ => ?_) (fun h2 => by simp only [decide_eq_false_iff_not] at h2; omega)
    have hlt : at'.toNat < code.length := by omega
    simp only
    rw [List.getElem?_eq_getElem hlt]
    have hx := hb _ (List.getElem_mem hlt)
    refine Ok.bind (Ok.some rfl) (fun a ha => ?_)
    subst ha
    exact fin _ (fun _ => by rw [wr (by omega) (by omega)]; exact hx)
  · simp only [decide_eq_false_iff_not] at h
    exact fin 0 (fun h' => absurd h' h)

theorem p_pick {d m : Nat} {c : List Int × Int × Int} {n : Int} (hc : CurOk m c) (hm : m + 1 < 4611686018427387904) : Ok (g177 (d + 2) c n) fun r => 0 ≤ r.1 ∧ (r.1 < n ∨ r.1 = 0) ∧ CurOk (m + 2) r.2 := by
  rw [e177]
  refine Ok.oif (fun h => ?_) (fun h => ?_)
  · exact Ok.some ⟨by simp, .inr rfl, hc.mono (by omega)⟩
  · simp only [decide_eq_false_iff_not] at h
    refine Ok.bind (p_next hc (by omega)) (fun r hr => ?_)
    obtain ⟨h1, h2, h3⟩ := hr
    have hn : (n == 0) = false := by simp; omega
    refine Ok.oif (fun h4 => ?_) (fun h4 => ?_)
    · refine Ok.bind (p_next h3 (by omega)) (fun q hq => ?_)
      obtain ⟨h5, h6, h7⟩ := hq
      rw [hn]
      rw [wr (n := r.1 * 256) (by omega) (by omega), wr (by omega) (by omega)]
      exact Ok.some ⟨Int.tmod_nonneg _ (by omega), .inl (Int.tmod_lt_of_pos _ (by omega)), h7.mono (by omega)⟩
    · rw [hn]
      exact Ok.some ⟨Int.tmod_nonneg _ (by omega), .inl (Int.tmod_lt_of_pos _ (by omega)), h3.mono (by omega)⟩

theorem p_among {d m : Nat} {c : List Int × Int × Int} {l : List Int} (hc : CurOk m c) (hm : m + 1 < 4611686018427387904) (hl : 0 < l.length) : Ok (g158 (d + 3) c l) fun r => r.1 ∈ l ∧ CurOk (m + 2) r.2 := by
  rw [e158]
  refine Ok.bind (p_pick hc hm) (fun r hr => ?_)
  obtain ⟨h1, h2, h3⟩ := hr
  refine Ok.oif (fun _ => ?_) (fun h => by simp only [decide_eq_false_iff_not] at h; omega)
  have hlt : r.1.toNat < l.length := by omega
  rw [List.getElem?_eq_getElem hlt]
  exact Ok.bind (Ok.some rfl) (fun a ha => by subst ha; exact Ok.some ⟨List.getElem_mem hlt, h3⟩)

theorem q_l1In {d : Nat} {x y z : Int} : g179 (d + 1) x y z = some (decide (y ≤ x ∧ x ≤ z)) := by
  rw [e179]; simp only [oif_ss]; congr 1; rw [Bool.eq_iff_iff]; simp

theorem q_isTicks {d : Nat} {x : Int} : g172 (d + 1) x = some (decide (0 ≤ x ∧ x ≤ 100000)) := by
  rw [e172]; simp only [oif_ss]; congr 1; rw [Bool.eq_iff_iff]; simp

def szOk (s : Int) : Bool := decide (1 ≤ s ∧ s ≤ 1500)

theorem q_isSize {d : Nat} {x : Int} : g190 (d + 1) x = some (szOk x) := by
  rw [e190]; simp only [oif_ss]; congr 1; rw [Bool.eq_iff_iff]; simp [szOk]

theorem q_qInts {d : Nat} {l : List Int} (hl : l.length < 4194304) : g47 (d + 1) l l = some true := by
  rw [e47, bne_self_eq_false, oif_f]
  refine (range_eq (fun (t : Bool) (i : Int) => (t, i)) l (fun x i t k => k t) (j47_0 d) ?_ ?_ (by rw [fuelN_eq]; exact hl) false).trans ?_
  · intro ag t i x hx; have hi := (List.getElem?_eq_some_iff.1 hx).1; simp only [l47_0, l47_0_b, ltl hx, bltl hx, nn, ofNat_toNat, hx, ob_s, oif_t]; rw [wr1 (by omega)]
    simp only [bne_self_eq_false, oif_f]
  · intro ag t; simp only [l47_0, l47_0_b, ltn, oif_f]
  · rw [rangeR_fold (f := fun _ _ t => t)]; rfl

theorem q_l1All {d : Nat} {l : List Int} {a b : Int} (hl : l.length < 4194304) : g228 (d + 2) l a b = some (l.all fun x => decide (a ≤ x ∧ x ≤ b)) := by
  rw [e228]
  refine (range_eq (fun (t : Bool) (i : Int) => (t, i)) l (fun x _ t k => oif (decide (a ≤ x ∧ x ≤ b)) (k t) (some false)) (j228_0 (d + 1)) ?_ ?_ (by rw [fuelN_eq]; exact hl) false).trans ?_
  · intro ag t i x hx; have hi := (List.getElem?_eq_some_iff.1 hx).1; simp only [l228_0, l228_0_b, ltl hx, bltl hx, nn, ofNat_toNat, hx, ob_s, oif_t]; rw [wr1 (by omega)]
    rw [q_l1In, ob_s]; cases decide (a ≤ x ∧ x ≤ b) <;> rfl
  · intro ag t; simp only [l228_0, l228_0_b, ltn, oif_f]
  · rw [rangeR_all (p := fun x => decide (a ≤ x ∧ x ≤ b))]; cases l.all _ <;> rfl

abbrev Pk := Int × Int × Int × Int × Int × Int

def wordOk (n : Int) : Bool := decide (0 ≤ n ∧ n ≤ 65535)

def pkOk (p : Pk) : Bool := decide (1 ≤ p.1 ∧ p.1 ≤ 100000 ∧ 0 ≤ p.2.1 ∧ p.2.1 ≤ 65535 ∧ 0 ≤ p.2.2.1 ∧ p.2.2.1 ≤ 65535 ∧ 0 ≤ p.2.2.2.1 ∧ p.2.2.2.1 ≤ 65535 ∧ 0 ≤ p.2.2.2.2.1 ∧ p.2.2.2.2.1 ≤ 65535 ∧ 1 ≤ p.2.2.2.2.2 ∧ p.2.2.2.2.2 ≤ 1500)

theorem pkOk_in {p : Pk} (h : pkOk p = true) : 1 ≤ p.1 ∧ p.1 ≤ 100000 ∧ 0 ≤ p.2.1 ∧ p.2.1 ≤ 65535 ∧ 0 ≤ p.2.2.1 ∧ p.2.2.1 ≤ 65535 ∧ 0 ≤ p.2.2.2.1 ∧ p.2.2.2.1 ≤ 65535 ∧ 0 ≤ p.2.2.2.2.1 ∧ p.2.2.2.2.1 ≤ 65535 ∧ 1 ≤ p.2.2.2.2.2 ∧ p.2.2.2.2.2 ≤ 1500 := by
  simpa [pkOk] using h

theorem q_IsPacket {d : Nat} {x : Pk} : g50 (d + 2) x = some (pkOk x) := by
  rw [e50, e191, ob_s]
  refine (range_eq (fun (t : Bool) (i : Int) => (t, i)) [x.2.1, x.2.2.1, x.2.2.2.1, x.2.2.2.2.1] (fun y _ t k => oif (wordOk y) (k t) (some false)) (j50_0 (d + 1) x) ?_ ?_ (by rw [fuelN_eq]; simp) false).trans ?_
  · intro ag t i y hy
    have hi : i < 4 := by have := (List.getElem?_eq_some_iff.1 hy).1; simpa using this
    have h4 : decide ((i : Int) < 4) = true := by simp; omega
    simp only [l50_0, l50_0_b, h4, nn, ofNat_toNat, oif_t]
    rw [hy, ob_s, wr1 (by omega)]
    unfold wordOk
    by_cases h1 : y < 0
    · rw [decide_eq_true h1, oif_t, decide_eq_false (by omega), oif_f]
    · rw [decide_eq_false h1, oif_f]
      by_cases h2 : y > 65535
      · rw [decide_eq_true h2, oif_t, decide_eq_false (by omega), oif_f]
      · rw [decide_eq_false h2, oif_f, decide_eq_true (by omega), oif_t]
  · intro ag t; rfl
  · rw [rangeR_all (p := wordOk)]
    unfold j50_0
    simp only [oif_ss]
    congr 1
    rw [Bool.eq_iff_iff]
    simp only [List.all_cons, List.all_nil, Bool.and_true, wordOk, pkOk]
    simp
    omega

/-- Valid packets, in order, from an Id on. -/
def incI : Int → List Pk → Bool
  | _, [] => true
  | a, p :: r => pkOk p && (decide (a < p.1) && incI p.1 r)

def pksOk (l : List Pk) : Bool := incI 0 l && decide (((l.length : Nat) : Int) ≤ 60)

theorem incI_all : ∀ {l : List Pk} {a : Int}, incI a l = true → ∀ p ∈ l, pkOk p = true
  | [], _, _, p, hp => by simp at hp
  | q :: r, a, h, p, hp => by
    simp only [incI, Bool.and_eq_true] at h
    rcases List.mem_cons.1 hp with rfl | hp
    · exact h.1
    · exact incI_all h.2.2 p hp

theorem pksOk_in {l : List Pk} (h : pksOk l = true) : (∀ p ∈ l, pkOk p = true) ∧ l.length ≤ 60 := by
  simp only [pksOk, Bool.and_eq_true, decide_eq_true_eq] at h
  exact ⟨incI_all h.1, by omega⟩

def lastI : Int → List Pk → Int
  | a, [] => a
  | _, p :: r => lastI p.1 r

theorem inc_spec {β : Type} {fin : Bool × Int → Option β} {no : Option β} : ∀ (l : List Pk) (i : Nat) (t : Bool × Int),
    rangeR (fun x _ t k => oif (!pkOk x) no (oif (decide (x.1 ≤ t.2)) no (k (t.1, x.1)))) fin l i t = oif (incI t.2 l) (fin (t.1, lastI t.2 l)) no
  | [], i, t => rfl
  | x :: r, i, t => by
    simp only [rangeR, incI]
    cases hx : pkOk x with
    | false => rfl
    | true =>
      simp only [Bool.not_true, oif_f, Bool.true_and]
      by_cases h : x.1 ≤ t.2
      · rw [decide_eq_true h, oif_t, decide_eq_false (by omega)]; rfl
      · rw [decide_eq_false h, oif_f, decide_eq_true (by omega), Bool.true_and, inc_spec r (i + 1) (t.1, x.1)]; rfl

theorem inc_impl {β : Type} {l : List Pk} {fin : Bool → Option β} {no : Option β} : ∀ (r : List Pk) (i : Nat) (a : Int) (t : Bool), l.drop i = r → (i = 0 → a = 0) → (0 < i → ∃ y, l[i - 1]? = some y ∧ y.1 = a) →
    rangeR (fun x i t k => oif (!pkOk x) no (oif (decide ((i : Int) > 0)) (obind (l[i - 1]?) fun y => oif (decide (x.1 ≤ y.1)) no (k t)) (k t))) fin r i t = oif (incI a r) (fin t) no
  | [], i, a, t, _, _, _ => rfl
  | x :: r, i, a, t, hd, h0, h1 => by
    have hi : i < l.length := by
      rcases Nat.lt_or_ge i l.length with h | h
      · exact h
      · rw [List.drop_of_length_le h] at hd; simp at hd
    have hx : l[i]? = some x := by
      have := List.drop_eq_getElem_cons hi
      rw [hd] at this; injection this with e _; rw [List.getElem?_eq_getElem hi, ← e]
    have hd' : l.drop (i + 1) = r := by
      have := List.drop_eq_getElem_cons hi
      rw [hd] at this; injection this with _ e; exact e.symm
    have ih := inc_impl (fin := fin) (no := no) r (i + 1) x.1 t hd' (by omega) (fun _ => ⟨x, by simpa using hx, rfl⟩)
    simp only [rangeR, incI]
    cases hp : pkOk x with
    | false => rfl
    | true =>
      simp only [Bool.not_true, oif_f, Bool.true_and]
      by_cases hi0 : i = 0
      · subst hi0
        obtain rfl := h0 rfl
        have := pkOk_in hp
        rw [decide_eq_true (show (0 : Int) < x.1 by omega), Bool.true_and]
        simp only [Int.natCast_zero]
        rw [show decide ((0 : Int) > 0) = false from rfl, oif_f]
        exact ih
      · obtain ⟨y, e1, e2⟩ := h1 (by omega)
        rw [decide_eq_true (show ((i : Int) > 0) by omega), oif_t, e1, ob_s, e2]
        by_cases h : x.1 ≤ a
        · rw [decide_eq_true h, oif_t, decide_eq_false (by omega)]; rfl
        · rw [decide_eq_false h, oif_f, decide_eq_true (by omega), Bool.true_and]; exact ih

theorem sum_range {α β : Type} {f : α → Int} {fin : Int → Option β} : ∀ (l : List α) (i : Nat) (t : Int), (∀ x ∈ l, 0 ≤ f x ∧ f x ≤ 1000000) → 0 ≤ t → t + 1000000 * (l.length : Int) ≤ 9000000000000000000 →
    rangeR (fun x _ t k => k (IntKind.i64.wrap (t + f x))) fin l i t = fin (t + (l.map f).sum)
  | [], i, t, _, _, _ => by simp [rangeR]
  | x :: r, i, t, h, h0, h1 => by
    have hx := h x (by simp)
    simp only [List.length_cons] at h1
    simp only [rangeR]
    rw [wr (n := t + f x) (by omega) (by omega), sum_range r (i + 1) (t + f x) (fun y hy => h y (by simp [hy])) (by omega) (by omega)]
    simp only [List.map_cons, List.sum_cons]; congr 1; omega

def pkSz (p : Pk) : Int := p.2.2.2.2.2

def szs (l : List Pk) : Int := (l.map pkSz).sum

theorem szs_in {l : List Pk} (h : pksOk l = true) : ∀ x ∈ l, 0 ≤ pkSz x ∧ pkSz x ≤ 1000000 := fun x hx => by
  have := pkOk_in ((pksOk_in h).1 x hx); unfold pkSz; omega

theorem szs_le : ∀ l : List Pk, (∀ p ∈ l, pkOk p = true) → szs l ≤ 1500 * (l.length : Int)
  | [], _ => by simp [szs]
  | p :: r, h => by
    have h1 := pkOk_in (h p (by simp))
    have h2 := szs_le r (fun q hq => h q (by simp [hq]))
    have h3 : pkSz p ≤ 1500 := h1.2.2.2.2.2.2.2.2.2.2.2
    simp only [szs, List.map_cons, List.sum_cons, List.length_cons] at h2 ⊢
    omega

def tsV (l : List Pk) : Int × Bool := if pksOk l then (szs l, true) else (0, false)

def flOk (k : Int) : Bool := decide (1 ≤ k ∧ k ≤ 64)

def fl1 (a n : Int) : Int := (31 * a + n + 7) % 1000003

def fl3 (p : Pk) : Int := fl1 (fl1 (fl1 40503 p.2.1) p.2.2.1) p.2.2.2.1

def flV (p : Pk) (k : Int) : Int := fl3 p % k

theorem fl1_in (a n : Int) : 0 ≤ fl1 a n ∧ fl1 a n < 1000003 := ⟨Int.emod_nonneg _ (by omega), Int.emod_lt_of_pos _ (by omega)⟩

theorem fl1_raw {a n : Int} (h0 : 0 ≤ a) (h1 : a < 1000003) (h2 : 0 ≤ n) (h3 : n ≤ 65535) : (IntKind.i64.wrap ((IntKind.i64.wrap ((IntKind.i64.wrap ((31 : Int) * a)) + n)) + 7)).tmod 1000003 = fl1 a n := by
  rw [wr (n := 31 * a) (by omega) (by omega), wr (n := 31 * a + n) (by omega) (by omega), wr (by omega) (by omega), Int.tmod_eq_emod_of_nonneg (by omega)]; rfl

theorem flV_in {p : Pk} {k : Int} (h : flOk k = true) : 0 ≤ flV p k ∧ flV p k < k := by
  simp only [flOk, decide_eq_true_eq] at h
  exact ⟨Int.emod_nonneg _ (by omega), Int.emod_lt_of_pos _ (by omega)⟩

def foV (p : Pk) (k : Int) : Int × Bool := if pkOk p && flOk k then (flV p k, true) else (0, false)

/-- The sizes flow by flow. -/
def fsL (k : Int) : List Int → List Pk → List Int
  | t, [] => t
  | t, p :: r => fsL k (t.set (flV p k).toNat (t.getD (flV p k).toNat 0 + pkSz p)) r

theorem fs_range {β : Type} {k : Int} {G : Pk → Option Int} {fin : List Int → Option β} (hk : flOk k = true) (hG : ∀ p, pkOk p = true → G p = some (flV p k)) :
    ∀ (l : List Pk) (i : Nat) (t : List Int) (B : Int), t.length = k.toNat → (∀ e ∈ t, 0 ≤ e ∧ e ≤ B) → (∀ p ∈ l, pkOk p = true) → B + 1500 * (l.length : Int) ≤ 1000000000 →
    rangeR (fun x _ t kk => obind (G x) fun r8 => oif (decide (0 ≤ (r8 : Int))) (oif (Nat.blt ((r8 : Int).toNat) t.length) (obind (t[(r8 : Int).toNat]?) fun n9 => oif (decide (0 ≤ (r8 : Int))) (oif (Nat.blt ((r8 : Int).toNat) t.length) (obind (t[(r8 : Int).toNat]?) fun n10 => kk (t.set ((r8 : Int).toNat) (IntKind.i64.wrap (n9 + x.2.2.2.2.2)))) none) none) none) none) fin l i t = fin (fsL k t l)
  | [], i, t, B, _, _, _, _ => rfl
  | x :: r, i, t, B, hl, ht, hx, hB => by
    have hxp := hx x (by simp)
    obtain ⟨f1, f2⟩ := flV_in (p := x) hk
    have hlt : (flV x k).toNat < t.length := by omega
    have hg : t[(flV x k).toNat]? = some (t.getD (flV x k).toNat 0) := by rw [List.getElem?_eq_getElem hlt]; simp [List.getD, List.getElem?_eq_getElem hlt]
    have he := ht _ (List.mem_of_getElem? hg)
    have hp := pkOk_in hxp
    simp only [List.length_cons] at hB
    simp only [rangeR, hG x hxp, ob_s, decide_eq_true f1, oif_t, blt_of hlt, hg]
    rw [wr (by omega) (by omega)]
    have ih := fs_range (fin := fin) hk hG r (i + 1) (t.set (flV x k).toNat (t.getD (flV x k).toNat 0 + pkSz x)) (B + 1500) (by simpa using hl) (fun e he' => by
      rcases List.mem_or_eq_of_mem_set he' with h | h
      · have := ht e h; omega
      · rw [h]; unfold pkSz; omega) (fun p hp => hx p (by simp [hp])) (by omega)
    exact ih

theorem fsL_len {k : Int} : ∀ {l : List Pk} {t : List Int}, (fsL k t l).length = t.length
  | [], _ => rfl
  | x :: r, t => by simp only [fsL]; rw [fsL_len]; simp

theorem fsL_sum {k : Int} (hk : flOk k = true) : ∀ {l : List Pk} {t : List Int}, t.length = k.toNat → (fsL k t l).sum = t.sum + szs l
  | [], t, _ => by simp [fsL, szs]
  | x :: r, t, hl => by
    obtain ⟨f1, f2⟩ := flV_in (p := x) hk
    simp only [fsL]
    rw [fsL_sum hk (by simpa using hl), sum_set (by omega)]
    simp only [szs, List.map_cons, List.sum_cons]; omega

theorem fsL_nonneg {k : Int} : ∀ {l : List Pk} {t : List Int}, (∀ p ∈ l, pkOk p = true) → (∀ e ∈ t, 0 ≤ e) → ∀ e ∈ fsL k t l, 0 ≤ e
  | [], t, _, ht => ht
  | x :: r, t, hx, ht => by
    have hp := pkOk_in (hx x (by simp))
    simp only [fsL]
    refine fsL_nonneg (fun p hp => hx p (by simp [hp])) (fun e he => ?_)
    rcases List.mem_or_eq_of_mem_set he with h | h
    · exact ht e h
    · rw [h]
      have : 0 ≤ t.getD (flV x k).toNat 0 := by
        unfold List.getD
        cases hg : t[(flV x k).toNat]? with
        | none => simp
        | some v => simpa using ht v (List.mem_of_getElem? hg)
      unfold pkSz; omega

def fsV (l : List Pk) (k : Int) : List Int × Bool := if pksOk l && flOk k then (fsL k (List.replicate k.toNat 0) l, true) else ([], false)

def mkE (a m v : Int) : Int := IntKind.i64.wrap ((BitVec.ofInt IntKind.i64.bits (IntKind.i64.wrap ((BitVec.ofInt IntKind.i64.bits a &&& ~~~BitVec.ofInt IntKind.i64.bits m).toNat : Int)) ||| BitVec.ofInt IntKind.i64.bits (IntKind.i64.wrap ((BitVec.ofInt IntKind.i64.bits v &&& BitVec.ofInt IntKind.i64.bits m).toNat : Int))).toNat : Int)

def mkV (x : Pk) (m v : Int) : Pk × Bool := if pkOk x && (wordOk m && wordOk v) then ((x.1, x.2.1, x.2.2.1, x.2.2.2.1, mkE x.2.2.2.2.1 m v, x.2.2.2.2.2), true) else ((0, 0, 0, 0, 0, 0), false)

theorem bv_word {n : Int} (h0 : 0 ≤ n) (h1 : n ≤ 65535) : ((BitVec.ofInt 64 n).toNat : Int) = n := by
  rw [BitVec.toNat_ofInt]
  have : n % ((2 ^ 64 : Nat) : Int) = n := Int.emod_eq_of_lt h0 (by omega)
  rw [this]; omega

theorem bv_back (x : BitVec 64) : BitVec.ofInt 64 (x.toNat : Int) = x := by
  apply BitVec.eq_of_toNat_eq
  rw [BitVec.toNat_ofInt]
  have h := x.isLt
  have : ((x.toNat : Int)) % ((2 ^ 64 : Nat) : Int) = (x.toNat : Int) := Int.emod_eq_of_lt (by omega) (by omega)
  rw [this]; simp

theorem bv_and_le (x y : BitVec 64) : (x &&& y).toNat ≤ x.toNat := by rw [BitVec.toNat_and]; exact Nat.and_le_left

theorem mkE_laws {a m v : Int} (ha : wordOk a = true) (hm : wordOk m = true) (hv : wordOk v = true) :
    IntKind.i64.wrap ((BitVec.ofInt IntKind.i64.bits (mkE a m v) &&& BitVec.ofInt IntKind.i64.bits m).toNat : Int) = IntKind.i64.wrap ((BitVec.ofInt IntKind.i64.bits v &&& BitVec.ofInt IntKind.i64.bits m).toNat : Int) ∧
    IntKind.i64.wrap ((BitVec.ofInt IntKind.i64.bits (mkE a m v) &&& ~~~BitVec.ofInt IntKind.i64.bits m).toNat : Int) = IntKind.i64.wrap ((BitVec.ofInt IntKind.i64.bits a &&& ~~~BitVec.ofInt IntKind.i64.bits m).toNat : Int) := by
  simp only [wordOk, decide_eq_true_eq] at ha hm hv
  have e64 : IntKind.i64.bits = 64 := rfl
  unfold mkE
  rw [e64]
  have a1 := bv_word ha.1 ha.2
  have v1 := bv_word hv.1 hv.2
  generalize BitVec.ofInt 64 a = A at *
  generalize BitVec.ofInt 64 v = V at *
  generalize BitVec.ofInt 64 m = M at *
  have l1 := bv_and_le A (~~~M)
  have l2 := bv_and_le V M
  rw [wr (n := ((A &&& ~~~M).toNat : Int)) (by omega) (by omega), wr (n := ((V &&& M).toNat : Int)) (by omega) (by omega), bv_back, bv_back]
  have hA : A.toNat < 2 ^ 16 := by omega
  have hV : V.toNat < 2 ^ 16 := by omega
  have l3 : ((A &&& ~~~M) ||| (V &&& M)).toNat < 2 ^ 16 := by
    rw [BitVec.toNat_or]; exact Nat.or_lt_two_pow (by omega) (by omega)
  rw [wr (n := (((A &&& ~~~M) ||| (V &&& M)).toNat : Int)) (by omega) (by omega), bv_back]
  have i1 : ((A &&& ~~~M) ||| (V &&& M)) &&& M = V &&& M := by
    apply BitVec.eq_of_getLsbD_eq; intro i hi
    simp only [BitVec.getLsbD_and, BitVec.getLsbD_or, BitVec.getLsbD_not, hi, decide_true, Bool.true_and]
    cases A.getLsbD i <;> cases M.getLsbD i <;> cases V.getLsbD i <;> rfl
  have i2 : ((A &&& ~~~M) ||| (V &&& M)) &&& ~~~M = A &&& ~~~M := by
    apply BitVec.eq_of_getLsbD_eq; intro i hi
    simp only [BitVec.getLsbD_and, BitVec.getLsbD_or, BitVec.getLsbD_not, hi, decide_true, Bool.true_and]
    cases A.getLsbD i <;> cases M.getLsbD i <;> cases V.getLsbD i <;> rfl
  rw [i1, i2]
  exact ⟨by rw [wr (by omega) (by omega)], by rw [wr (by omega) (by omega)]⟩

abbrev Fl := Int × Int × Int × Int × Int × Int × Int × Int × Int
abbrev Tm := Int × Pk

def flowOk (f : Fl) : Bool := decide (0 ≤ f.1 ∧ f.1 ≤ 1000000000 ∧ 0 ≤ f.2.1 ∧ f.2.1 ≤ 65535 ∧ 0 ≤ f.2.2.1 ∧ f.2.2.1 ≤ 65535 ∧ 0 ≤ f.2.2.2.1 ∧ f.2.2.2.1 ≤ 65535 ∧ 0 ≤ f.2.2.2.2.1 ∧ f.2.2.2.2.1 ≤ 65535 ∧ 0 ≤ f.2.2.2.2.2.1 ∧ f.2.2.2.2.2.1 ≤ 10000 ∧ 1 ≤ f.2.2.2.2.2.2.1 ∧ f.2.2.2.2.2.2.1 ≤ 500 ∧ 1 ≤ f.2.2.2.2.2.2.2.1 ∧ f.2.2.2.2.2.2.2.1 ≤ 10 ∧ 1 ≤ f.2.2.2.2.2.2.2.2 ∧ f.2.2.2.2.2.2.2.2 ≤ 1500)

theorem flowOk_in {f : Fl} (h : flowOk f = true) : 0 ≤ f.1 ∧ f.1 ≤ 1000000000 ∧ 0 ≤ f.2.1 ∧ f.2.1 ≤ 65535 ∧ 0 ≤ f.2.2.1 ∧ f.2.2.1 ≤ 65535 ∧ 0 ≤ f.2.2.2.1 ∧ f.2.2.2.1 ≤ 65535 ∧ 0 ≤ f.2.2.2.2.1 ∧ f.2.2.2.2.1 ≤ 65535 ∧ 0 ≤ f.2.2.2.2.2.1 ∧ f.2.2.2.2.2.1 ≤ 10000 ∧ 1 ≤ f.2.2.2.2.2.2.1 ∧ f.2.2.2.2.2.2.1 ≤ 500 ∧ 1 ≤ f.2.2.2.2.2.2.2.1 ∧ f.2.2.2.2.2.2.2.1 ≤ 10 ∧ 1 ≤ f.2.2.2.2.2.2.2.2 ∧ f.2.2.2.2.2.2.2.2 ≤ 1500 := by
  simpa only [flowOk, decide_eq_true_eq] using h

/-- A loop whose states are numbered. -/
theorem count_from {σ β : Type} {F : (σ → Option β) → σ → Option β} {S : Nat → σ} {N : Nat} {fin : Option β} (h1 : ∀ ag k, k < N → F ag (S k) = ag (S (k + 1))) (h2 : ∀ ag, F ag (S N) = fin) :
    ∀ (fuel r k : Nat), k + r = N → r < fuel → iterP F fuel (S k) = fin
  | 0, r, k, _, h => by omega
  | fuel + 1, 0, k, h, _ => by
    simp only [iterP]
    have : k = N := by omega
    subst this; exact h2 _
  | fuel + 1, r + 1, k, h, hf => by
    simp only [iterP]
    rw [h1 _ _ (by omega)]
    exact count_from h1 h2 fuel r (k + 1) (by omega) (by omega)

theorem count_eq {σ β : Type} {F : (σ → Option β) → σ → Option β} (S : Nat → σ) (N : Nat) {fin : Option β} (h1 : ∀ ag k, k < N → F ag (S k) = ag (S (k + 1))) (h2 : ∀ ag, F ag (S N) = fin) {fuel : Nat} (hf : N < fuel) :
    iterP F fuel (S 0) = fin := count_from h1 h2 fuel N 0 (by omega) hf

theorem nilB_same {β : Type} {n : Nat} {a b : Option β} (h : n = 0 → a = b) : nilB n a b = b := by
  cases n with
  | zero => rw [h rfl]; simp [nilB, both]
  | succ n => rfl

theorem q_cloneInts {d : Nat} {l : List Int} (hl : l.length ≤ 1000000) : g186 (d + 1) l = some l := by
  rw [e186, nilB_same (fun h => ?_), room (by simp; omega), oif_t, List.nil_append]
  rw [List.length_eq_zero_iff.1 h]; rfl

theorem q_l1Own {d : Nat} {l : List Int} (hl : l.length ≤ 1000000) : g290 (d + 1) l = some l := by
  rw [e290, room (by simp; omega), oif_t, List.nil_append]

def mx0 (a n : Int) : Int := (31 * a + n + 7) % 1000003

def mx1 (a n : Int) : Int := (mx0 a n * (mx0 a n / 32 + 3)) % 1000003

def mxV (l : List Int) : Int := (l ++ [3, 1]).foldl mx1 (7919 + (l.length : Int))

theorem mx1_in (a n : Int) : 0 ≤ mx1 a n ∧ mx1 a n < 1000003 := ⟨Int.emod_nonneg _ (by omega), Int.emod_lt_of_pos _ (by omega)⟩

theorem mxf_in : ∀ {l : List Int} {a : Int}, 0 ≤ a → a < 1000003 → 0 ≤ l.foldl mx1 a ∧ l.foldl mx1 a < 1000003
  | [], a, h0, h1 => ⟨h0, h1⟩
  | x :: r, a, _, _ => mxf_in (l := r) (mx1_in a x).1 (mx1_in a x).2

theorem mxV_in {l : List Int} (hl : l.length ≤ 1000) : 0 ≤ mxV l ∧ mxV l < 1000003 := mxf_in (by omega) (by omega)

theorem mx1_raw {a n : Int} (h0 : 0 ≤ a) (h1 : a < 1000003) (h2 : 0 ≤ n) (h3 : n ≤ 1000000000) : (IntKind.i64.wrap (((IntKind.i64.wrap ((IntKind.i64.wrap ((IntKind.i64.wrap ((31 : Int) * a)) + n)) + 7)).tmod 1000003) * (IntKind.i64.wrap ((IntKind.i64.wrap (((IntKind.i64.wrap ((IntKind.i64.wrap ((IntKind.i64.wrap ((31 : Int) * a)) + n)) + 7)).tmod 1000003).tdiv 32)) + 3)))).tmod 1000003 = mx1 a n := by
  rw [wr (n := 31 * a) (by omega) (by omega), wr (n := 31 * a + n) (by omega) (by omega), wr (n := 31 * a + n + 7) (by omega) (by omega), Int.tmod_eq_emod_of_nonneg (a := 31 * a + n + 7) (by omega)]
  have eb : (31 * a + n + 7) % 1000003 = mx0 a n := rfl
  have b1 : 0 ≤ mx0 a n := Int.emod_nonneg _ (by omega)
  have b2 : mx0 a n < 1000003 := Int.emod_lt_of_pos _ (by omega)
  rw [eb, Int.tdiv_eq_ediv_of_nonneg b1, wr (n := mx0 a n / 32) (by omega) (by omega), wr (n := mx0 a n / 32 + 3) (by omega) (by omega)]
  have k1 : 0 ≤ mx0 a n * (mx0 a n / 32 + 3) := Int.mul_nonneg b1 (by omega)
  have k2 : mx0 a n * (mx0 a n / 32 + 3) ≤ 1000003 * (mx0 a n / 32 + 3) := Int.mul_le_mul_of_nonneg_right (by omega) (by omega)
  rw [wr (n := mx0 a n * (mx0 a n / 32 + 3)) (by omega) (by omega), Int.tmod_eq_emod_of_nonneg k1]; rfl

theorem mx_range {β : Type} {fin : Int → Option β} : ∀ (l : List Int) (i : Nat) (t : Int), 0 ≤ t → t < 1000003 → (∀ x ∈ l, 0 ≤ x ∧ x ≤ 1000000000) →
    rangeR (fun x _ t kk => kk ((IntKind.i64.wrap (((IntKind.i64.wrap ((IntKind.i64.wrap ((IntKind.i64.wrap ((31 : Int) * t)) + x)) + 7)).tmod 1000003) * (IntKind.i64.wrap ((IntKind.i64.wrap (((IntKind.i64.wrap ((IntKind.i64.wrap ((IntKind.i64.wrap ((31 : Int) * t)) + x)) + 7)).tmod 1000003).tdiv 32)) + 3)))).tmod 1000003)) fin l i t = fin (l.foldl mx1 t)
  | [], i, t, _, _, _ => rfl
  | x :: r, i, t, h0, h1, hl => by
    simp only [rangeR, List.foldl_cons]
    rw [mx1_raw h0 h1 (hl x (by simp)).1 (hl x (by simp)).2]
    exact mx_range r (i + 1) _ (mx1_in t x).1 (mx1_in t x).2 (fun y hy => hl y (by simp [hy]))

theorem mx_all {l : List Int} (h : ∀ x ∈ l, 0 ≤ x ∧ x ≤ 1000000000) : ∀ x ∈ l ++ [3, 1], 0 ≤ x ∧ x ≤ 1000000000 := fun x hx => by
  simp only [List.mem_append, List.mem_cons, List.not_mem_nil, or_false] at hx
  rcases hx with hx | rfl | rfl
  · exact h x hx
  · omega
  · omega

theorem q_mixOf {d : Nat} {l : List Int} (hl : l.length ≤ 1000) (h : ∀ x ∈ l, 0 ≤ x ∧ x ≤ 1000000000) : g185 (d + 2) l = some (mxV l) := by
  rw [e185, q_cloneInts (by omega), ob_s, room (by simp; omega), oif_t, wr (n := 7919 + ((l.length : Nat) : Int)) (by omega) (by omega)]
  refine (range_eq (fun (t : Int) (i : Int) => (t, i)) (l ++ [3, 1]) (fun x _ t kk => kk ((IntKind.i64.wrap (((IntKind.i64.wrap ((IntKind.i64.wrap ((IntKind.i64.wrap ((31 : Int) * t)) + x)) + 7)).tmod 1000003) * (IntKind.i64.wrap ((IntKind.i64.wrap (((IntKind.i64.wrap ((IntKind.i64.wrap ((IntKind.i64.wrap ((31 : Int) * t)) + x)) + 7)).tmod 1000003).tdiv 32)) + 3)))).tmod 1000003)) (j185_0 (d + 1)) ?_ ?_ (by rw [fuelN_eq]; simp; omega) _).trans ?_
  · have hlen : (l ++ [3, 1]).length = l.length + 2 := by simp
    intro ag t i x hx; have hi := (List.getElem?_eq_some_iff.1 hx).1; simp only [l185_0, l185_0_b, ltl hx, bltl hx, nn, ofNat_toNat, hx, ob_s, oif_t]; rw [wr1 (by omega)]
  · intro ag t; simp only [l185_0, l185_0_b, ltn, oif_f]
  · rw [mx_range _ _ _ (by omega) (by omega) (mx_all h)]; rfl

theorem q_tfMix {d : Nat} {l : List Int} (hl : l.length ≤ 1000) (h : ∀ x ∈ l, 0 ≤ x ∧ x ≤ 1000000000) : g189 (d + 2) l = some (mxV l) := by
  rw [e189, q_l1Own (by omega), ob_s, room (by simp; omega), oif_t, wr (n := 7919 + ((l.length : Nat) : Int)) (by omega) (by omega)]
  refine (range_eq (fun (t : Int) (i : Int) => (t, i)) (l ++ [3, 1]) (fun x _ t kk => kk ((IntKind.i64.wrap (((IntKind.i64.wrap ((IntKind.i64.wrap ((IntKind.i64.wrap ((31 : Int) * t)) + x)) + 7)).tmod 1000003) * (IntKind.i64.wrap ((IntKind.i64.wrap (((IntKind.i64.wrap ((IntKind.i64.wrap ((IntKind.i64.wrap ((31 : Int) * t)) + x)) + 7)).tmod 1000003).tdiv 32)) + 3)))).tmod 1000003)) (j189_0 (d + 1)) ?_ ?_ (by rw [fuelN_eq]; simp; omega) _).trans ?_
  · have hlen : (l ++ [3, 1]).length = l.length + 2 := by simp
    intro ag t i x hx; have hi := (List.getElem?_eq_some_iff.1 hx).1; simp only [l189_0, l189_0_b, ltl hx, bltl hx, nn, ofNat_toNat, hx, ob_s, oif_t]; rw [wr1 (by omega)]
  · intro ag t; simp only [l189_0, l189_0_b, ltn, oif_f]
  · rw [mx_range _ _ _ (by omega) (by omega) (mx_all h)]; rfl

theorem q_tfBelow {d : Nat} {l : List Int} {n : Int} (hl : l.length ≤ 900) (h : ∀ x ∈ l, 0 ≤ x ∧ x ≤ 1000000000) (h1 : 1 ≤ n) (h2 : n ≤ 1000000000) : g188 (d + 3) l n = some (mxV (l ++ [n]) % n) := by
  have m := mxV_in (l := l ++ [n]) (by simp; omega)
  rw [e188, q_l1Own (by omega), ob_s, room (by simp; omega), oif_t, q_tfMix (by simp; omega) (fun x hx => by
    simp only [List.mem_append, List.mem_cons, List.not_mem_nil, or_false] at hx
    rcases hx with hx | rfl
    · exact h x hx
    · omega), ob_s, show (n == 0) = false by simp; omega, oif_f, Int.tmod_eq_emod_of_nonneg m.1]

def keysOk (l : List Int) : Bool := l.all (fun x => decide (0 ≤ x ∧ x ≤ 1000000000)) && decide (((l.length : Nat) : Int) ≤ 8)

theorem keysOk_in {l : List Int} (h : keysOk l = true) : (∀ x ∈ l, 0 ≤ x ∧ x ≤ 1000000000) ∧ l.length ≤ 8 := by
  simp only [keysOk, Bool.and_eq_true, List.all_eq_true, decide_eq_true_eq] at h
  exact ⟨h.1, by omega⟩

theorem q_isKeyList {d : Nat} {l : List Int} (hl : l.length < 4194304) : g184 (d + 1) l = some (keysOk l) := by
  rw [e184]
  refine (range_eq (fun (t : Bool) (i : Int) => (t, i)) l (fun x _ t k => oif (decide (0 ≤ x ∧ x ≤ 1000000000)) (k t) (some false)) (j184_0 d l) ?_ ?_ (by rw [fuelN_eq]; exact hl) false).trans ?_
  · intro ag t i x hx; have hi := (List.getElem?_eq_some_iff.1 hx).1; simp only [l184_0, l184_0_b, ltl hx, bltl hx, nn, ofNat_toNat, hx, ob_s, oif_t]; rw [wr1 (by omega)]
    by_cases h1 : x < 0
    · rw [decide_eq_true h1, oif_t, decide_eq_false (by omega), oif_f]
    · rw [decide_eq_false h1, oif_f]
      by_cases h2 : x > 1000000000
      · rw [decide_eq_true h2, oif_t, decide_eq_false (by omega), oif_f]
      · rw [decide_eq_false h2, oif_f, decide_eq_true (by omega), oif_t]
  · intro ag t; simp only [l184_0, l184_0_b, ltn, oif_f]
  · rw [rangeR_all (p := fun x => decide (0 ≤ x ∧ x ≤ 1000000000))]
    unfold j184_0 keysOk
    cases l.all _ <;> rfl

theorem q_tfKeys {d : Nat} {l : List Int} (hl : l.length < 4194304) : g187 (d + 3) l = some (keysOk l) := by
  rw [e187, q_l1All hl, ob_s, oif_ss]; unfold keysOk; congr 1
  rw [Bool.and_comm]; cases decide (((l.length : Nat) : Int) ≤ 8) <;> simp

def moV (l : List Int) : Int × Bool := if keysOk l then (mxV l, true) else (0, false)

theorem q_MixOf {d : Nat} {l : List Int} (hl : l.length < 4194304) : g44 (d + 3) l = some (moV l) := by
  rw [e44, q_isKeyList hl, ob_s]; unfold moV
  cases h : keysOk l with
  | false => rfl
  | true => obtain ⟨h1, h2⟩ := keysOk_in h; rw [q_mixOf (by omega) h1]; rfl

theorem q_sMixOf {d : Nat} {l : List Int} (hl : l.length < 4194304) : g45 (d + 4) l = some (moV l) := by
  rw [e45, q_tfKeys hl, ob_s]; unfold moV
  cases h : keysOk l with
  | false => rfl
  | true => obtain ⟨h1, h2⟩ := keysOk_in h; rw [q_tfMix (by omega) h1]; rfl

def nfV (l : List Int) (n : Int) : Int × Bool := if keysOk l && decide (l.length ≤ 7 ∧ 1 ≤ n ∧ n ≤ 100000) then (mxV (l ++ [n]) % n, true) else (0, false)

theorem nfV_in {l : List Int} {n : Int} (h : (nfV l n).2 = true) : 0 ≤ (nfV l n).1 ∧ (nfV l n).1 < n := by
  unfold nfV at h ⊢
  cases hc : (keysOk l && decide (l.length ≤ 7 ∧ 1 ≤ n ∧ n ≤ 100000)) with
  | false => rw [hc] at h; simp at h
  | true =>
    simp only [Bool.and_eq_true, decide_eq_true_eq] at hc
    simp only [if_true]
    exact ⟨Int.emod_nonneg _ (by omega), Int.emod_lt_of_pos _ (by omega)⟩

theorem q_NumberFor {d : Nat} {l : List Int} {n : Int} (hl : l.length < 4194304) : g42 (d + 3) l n = some (nfV l n) := by
  rw [e42, q_isKeyList hl, ob_s]; unfold nfV j42_0
  cases h : keysOk l with
  | false => rfl
  | true =>
    obtain ⟨h1, h2⟩ := keysOk_in h
    simp only [Bool.not_true, oif_f, Bool.true_and]
    by_cases h3 : ((l.length : Nat) : Int) > 7
    · rw [decide_eq_true h3, oif_t, oif_t, decide_eq_false (by omega)]; rfl
    · rw [decide_eq_false h3, oif_f]
      by_cases h4 : n < 1
      · rw [decide_eq_true h4, oif_t, oif_t, decide_eq_false (by omega)]; rfl
      · rw [decide_eq_false h4, oif_f]
        by_cases h5 : n > 100000
        · rw [decide_eq_true h5, oif_t, decide_eq_false (by omega)]; rfl
        · have m := mxV_in (l := l ++ [n]) (by simp; omega)
          rw [decide_eq_false h5, oif_f, decide_eq_true (show l.length ≤ 7 ∧ 1 ≤ n ∧ n ≤ 100000 by omega), q_cloneInts (l := l) (by omega), ob_s, room (by simp; omega), oif_t, q_mixOf (by simp; omega) (fun x hx => by
            simp only [List.mem_append, List.mem_cons, List.not_mem_nil, or_false] at hx
            rcases hx with hx | rfl
            · exact h1 x hx
            · omega), ob_s, show (n == 0) = false by simp; omega, oif_f, Int.tmod_eq_emod_of_nonneg m.1]; rfl

theorem q_sNumberFor {d : Nat} {l : List Int} {n : Int} (hl : l.length < 4194304) : g43 (d + 4) l n = some (nfV l n) := by
  rw [e43, q_tfKeys hl, ob_s]; unfold nfV
  cases h : keysOk l with
  | false => rfl
  | true =>
    obtain ⟨h1, h2⟩ := keysOk_in h
    simp only [Bool.not_true, oif_f, Bool.true_and]
    by_cases h3 : ((l.length : Nat) : Int) > 7
    · rw [decide_eq_true h3, oif_t, decide_eq_false (by omega)]; rfl
    · rw [decide_eq_false h3, oif_f, q_l1In, ob_s]
      by_cases h4 : 1 ≤ n ∧ n ≤ 100000
      · rw [decide_eq_true h4, decide_eq_true (show l.length ≤ 7 ∧ 1 ≤ n ∧ n ≤ 100000 by omega), q_tfBelow (by omega) h1 (by omega) (by omega)]; rfl
      · rw [decide_eq_false h4, decide_eq_false (by omega)]; rfl

theorem q_IsFlow {d : Nat} {x : Fl} : g48 (d + 2) x = some (flowOk x) := by
  rw [e48]
  refine (range_eq (fun (t : Bool) (i : Int) => (t, i)) [x.2.1, x.2.2.1, x.2.2.2.1, x.2.2.2.2.1] (fun y _ t k => oif (wordOk y) (k t) (some false)) (j48_0 (d + 1) x) ?_ ?_ (by rw [fuelN_eq]; simp) false).trans ?_
  · intro ag t i y hy
    have hi : i < 4 := by have := (List.getElem?_eq_some_iff.1 hy).1; simpa using this
    have h4 : decide ((i : Int) < 4) = true := by simp; omega
    simp only [l48_0, l48_0_b, h4, nn, ofNat_toNat, oif_t]
    rw [hy, ob_s, wr1 (by omega)]
    unfold wordOk
    by_cases h1 : y < 0
    · rw [decide_eq_true h1, oif_t, decide_eq_false (by omega), oif_f]
    · rw [decide_eq_false h1, oif_f]
      by_cases h2 : y > 65535
      · rw [decide_eq_true h2, oif_t, decide_eq_false (by omega), oif_f]
      · rw [decide_eq_false h2, oif_f, decide_eq_true (by omega), oif_t]
  · intro ag t; rfl
  · rw [rangeR_all (p := wordOk)]
    unfold j48_0
    simp only [q_isSize, ob_s, oif_ss]
    congr 1
    rw [Bool.eq_iff_iff]
    simp only [List.all_cons, List.all_nil, Bool.and_true, wordOk, flowOk, szOk]
    simp
    omega

theorem q_tfGood {d : Nat} {x : Fl} : g174 (d + 3) x = some (flowOk x) := by
  rw [e174]
  simp only [q_l1In, q_l1All (show [x.2.1, x.2.2.1, x.2.2.2.1, x.2.2.2.2.1].length < 4194304 by simp), ob_s, oif_ss]
  congr 1
  rw [Bool.eq_iff_iff]
  simp [flowOk]
  omega

theorem q_sIsFlow {d : Nat} {x : Fl} : g49 (d + 4) x = some (flowOk x) := by rw [e49, q_tfGood, ob_s]

def gapV (f : Fl) (b : Int) : Int := 1 + mxV [f.1, b, 1, f.2.2.2.2.2.2.1] % f.2.2.2.2.2.2.1

theorem gapV_in {f : Fl} (h : flowOk f = true) (b : Int) : 1 ≤ gapV f b ∧ gapV f b ≤ f.2.2.2.2.2.2.1 ∧ f.2.2.2.2.2.2.1 ≤ 500 := by
  have hf := flowOk_in h
  have h1 := Int.emod_nonneg (mxV [f.1, b, 1, f.2.2.2.2.2.2.1]) (show f.2.2.2.2.2.2.1 ≠ 0 by omega)
  have h2 := Int.emod_lt_of_pos (mxV [f.1, b, 1, f.2.2.2.2.2.2.1]) (show 0 < f.2.2.2.2.2.2.1 by omega)
  unfold gapV; omega

theorem q_gapOf {d : Nat} {f : Fl} {b : Int} (h : flowOk f = true) (h0 : 0 ≤ b) (h1 : b ≤ 1000) : g181 (d + 3) f b = some (gapV f b) := by
  have hf := flowOk_in h
  have m := mxV_in (l := [f.1, b, 1, f.2.2.2.2.2.2.1]) (by simp)
  have g := gapV_in h b
  rw [e181, q_mixOf (by simp) (fun x hx => by
    simp only [List.mem_cons, List.not_mem_nil, or_false] at hx
    rcases hx with rfl | rfl | rfl | rfl <;> omega), ob_s, show (f.2.2.2.2.2.2.1 == 0) = false by simp; omega, oif_f, Int.tmod_eq_emod_of_nonneg m.1]
  unfold gapV at g ⊢
  rw [wr (by omega) (by omega)]

theorem q_tfGap {d : Nat} {f : Fl} {b : Int} (h : flowOk f = true) (h0 : 0 ≤ b) (h1 : b ≤ 1000) : g182 (d + 4) f b = some (gapV f b) := by
  have hf := flowOk_in h
  have g := gapV_in h b
  rw [e182, q_tfBelow (by simp) (fun x hx => by
    simp only [List.mem_cons, List.not_mem_nil, or_false] at hx
    rcases hx with rfl | rfl | rfl <;> omega) (by omega) (by omega), ob_s]
  unfold gapV at g ⊢
  simp only [List.cons_append, List.nil_append]
  rw [wr (by omega) (by omega)]

/-- The tick of a burst, and of a packet. -/
def tickA (f : Fl) : Nat → Int
  | 0 => f.2.2.2.2.2.1
  | k + 1 => tickA f k + gapV f ((k + 1 : Nat) : Int)

theorem tickA_in {f : Fl} (h : flowOk f = true) : ∀ k : Nat, 0 ≤ tickA f k ∧ tickA f k ≤ 10000 + 500 * (k : Int)
  | 0 => by have := flowOk_in h; simp only [tickA]; omega
  | k + 1 => by
    have := tickA_in h k
    have g := gapV_in h ((k + 1 : Nat) : Int)
    simp only [tickA]; omega

def burN (f : Fl) (n : Nat) : Nat := n / f.2.2.2.2.2.2.2.1.toNat

theorem burN_le {f : Fl} {n : Nat} : burN f n ≤ n := Nat.div_le_self ..

theorem burN_eq {f : Fl} (h : flowOk f = true) (n : Nat) : (n : Int).tdiv f.2.2.2.2.2.2.2.1 = (burN f n : Int) := by
  have hf := flowOk_in h
  obtain ⟨b, hb⟩ := Int.eq_ofNat_of_zero_le (show 0 ≤ f.2.2.2.2.2.2.2.1 by omega)
  unfold burN
  rw [hb, Int.toNat_natCast]; rfl

def ptS (f : Fl) (n : Int) : Int := 1 + mxV [f.1, n, 2, f.2.2.2.2.2.2.2.2] % f.2.2.2.2.2.2.2.2

def ptV (f : Fl) (n : Nat) : Tm := (tickA f (burN f n), ((n + 1 : Nat) : Int), f.2.1, f.2.2.1, f.2.2.2.1, f.2.2.2.2.1, ptS f n)

theorem ptS_in {f : Fl} (h : flowOk f = true) (n : Int) : 1 ≤ ptS f n ∧ ptS f n ≤ 1500 := by
  have hf := flowOk_in h
  have h1 := Int.emod_nonneg (mxV [f.1, n, 2, f.2.2.2.2.2.2.2.2]) (show f.2.2.2.2.2.2.2.2 ≠ 0 by omega)
  have h2 := Int.emod_lt_of_pos (mxV [f.1, n, 2, f.2.2.2.2.2.2.2.2]) (show 0 < f.2.2.2.2.2.2.2.2 by omega)
  unfold ptS; omega

theorem pt_ok {f : Fl} (h : flowOk f = true) {n : Nat} (hn : n < 60) : pkOk (ptV f n).2 = true := by
  have hf := flowOk_in h
  have hs := ptS_in h n
  unfold pkOk ptV
  rw [decide_eq_true_eq]
  refine ⟨?_, ?_, ?_, ?_, ?_, ?_, ?_, ?_, ?_, ?_, ?_, ?_⟩ <;> simp only <;> omega

theorem q_packetAt {d : Nat} {f : Fl} {n : Nat} (h : flowOk f = true) (hn : n ≤ 100) : g178 (d + 4) f n = some (ptV f n) := by
  have hf := flowOk_in h
  have hb : burN f n ≤ n := burN_le
  have hne : (f.2.2.2.2.2.2.2.1 == 0) = false := by simp; omega
  rw [e178]
  refine count_eq (F := l178_0 (d + 3) f n (j178_0 (d + 3) f n)) (fun k => (tickA f k, ((k + 1 : Nat) : Int))) (burN f n) ?_ ?_ (by rw [fuelN_eq]; omega)
  · intro ag k hk
    have ht := tickA_in h k
    have hg := gapV_in h ((k + 1 : Nat) : Int)
    simp only [l178_0, l178_0_b, hne, oif_f, burN_eq h]
    rw [wr (n := (burN f n : Int)) (by omega) (by omega), decide_eq_true (by omega), oif_t, q_gapOf h (by omega) (by omega), ob_s, wr (n := tickA f k + gapV f ((k + 1 : Nat) : Int)) (by omega) (by omega), wr1 (by omega)]
    rfl
  · intro ag
    simp only [l178_0, l178_0_b, hne, oif_f, burN_eq h]
    rw [wr (n := (burN f n : Int)) (by omega) (by omega), decide_eq_false (by omega), oif_f]
    have m := mxV_in (l := [f.1, (n : Int), 2, f.2.2.2.2.2.2.2.2]) (by simp)
    have hs := ptS_in h n
    unfold j178_0
    rw [q_mixOf (by simp) (fun x hx => by
      simp only [List.mem_cons, List.not_mem_nil, or_false] at hx
      rcases hx with rfl | rfl | rfl | rfl <;> omega), ob_s, show (f.2.2.2.2.2.2.2.2 == 0) = false by simp; omega, oif_f, Int.tmod_eq_emod_of_nonneg m.1]
    unfold ptV ptS at *
    rw [wr (n := 1 + mxV [f.1, (n : Int), 2, f.2.2.2.2.2.2.2.2] % f.2.2.2.2.2.2.2.2) (by omega) (by omega), wr1 (by omega)]

theorem q_tfPacket {d : Nat} {f : Fl} {n : Nat} (h : flowOk f = true) (hn : n ≤ 100) : g180 (d + 5) f n = some (ptV f n) := by
  have hf := flowOk_in h
  have hb : burN f n ≤ n := burN_le
  have hne : (f.2.2.2.2.2.2.2.1 == 0) = false := by simp; omega
  rw [e180]
  refine count_eq (F := l180_0 (d + 4) f n (j180_0 (d + 4) f n)) (fun k => (((k + 1 : Nat) : Int), (tickA f k, 0, 0, 0, 0, 0, 0))) (burN f n) ?_ ?_ (by rw [fuelN_eq]; omega)
  · intro ag k hk
    have ht := tickA_in h k
    have hg := gapV_in h ((k + 1 : Nat) : Int)
    simp only [l180_0, l180_0_b, hne, oif_f, burN_eq h]
    rw [wr (n := (burN f n : Int)) (by omega) (by omega), decide_eq_true (by omega), oif_t, q_tfGap h (by omega) (by omega), ob_s, wr (n := tickA f k + gapV f ((k + 1 : Nat) : Int)) (by omega) (by omega), wr1 (by omega)]
    rfl
  · intro ag
    simp only [l180_0, l180_0_b, hne, oif_f, burN_eq h]
    rw [wr (n := (burN f n : Int)) (by omega) (by omega), decide_eq_false (by omega), oif_f]
    have hs := ptS_in h n
    unfold j180_0
    rw [q_tfBelow (by simp) (fun x hx => by
      simp only [List.mem_cons, List.not_mem_nil, or_false] at hx
      rcases hx with rfl | rfl | rfl <;> omega) (by omega) (by omega), ob_s]
    unfold ptV ptS at *
    simp only [List.cons_append, List.nil_append]
    rw [wr (n := 1 + mxV [f.1, (n : Int), 2, f.2.2.2.2.2.2.2.2] % f.2.2.2.2.2.2.2.2) (by omega) (by omega), wr1 (by omega)]

def paV (f : Fl) (n : Int) : Tm × Bool := if flowOk f && decide (0 ≤ n ∧ n ≤ 59) then (ptV f n.toNat, true) else ((0, 0, 0, 0, 0, 0, 0), false)

theorem q_PacketAt {d : Nat} {f : Fl} {n : Int} : g33 (d + 5) f n = some (paV f n) := by
  rw [e33, q_IsFlow, ob_s]; unfold paV
  cases h : flowOk f with
  | false => rfl
  | true =>
    simp only [Bool.not_true, oif_f, Bool.true_and]
    by_cases h1 : n < 0
    · rw [decide_eq_true h1, oif_t, decide_eq_false (by omega)]; rfl
    · rw [decide_eq_false h1, oif_f]
      by_cases h2 : n ≥ 60
      · rw [decide_eq_true h2, oif_t, decide_eq_false (by omega)]; rfl
      · obtain ⟨m, rfl⟩ := Int.eq_ofNat_of_zero_le (show 0 ≤ n by omega)
        rw [decide_eq_false h2, oif_f, decide_eq_true (by omega), q_packetAt h (by omega)]; rfl

theorem q_sPacketAt {d : Nat} {f : Fl} {n : Int} : g34 (d + 6) f n = some (paV f n) := by
  rw [e34, q_tfGood, ob_s]; unfold paV
  cases h : flowOk f with
  | false => rfl
  | true =>
    simp only [Bool.not_true, oif_f, Bool.true_and]
    rw [q_l1In, ob_s]
    by_cases h1 : 0 ≤ n ∧ n ≤ 59
    · obtain ⟨m, rfl⟩ := Int.eq_ofNat_of_zero_le h1.1
      rw [decide_eq_true h1, q_tfPacket h (by omega)]; rfl
    · rw [decide_eq_false h1]; rfl

/-- The first number at which something holds, within bounds. -/
def untN (c : Nat → Bool) (k : Nat) : Nat → Nat
  | 0 => k
  | r + 1 => if c k then k else untN c (k + 1) r

theorem untN_in {c : Nat → Bool} : ∀ (r k : Nat), k ≤ untN c k r ∧ untN c k r ≤ k + r ∧ (∀ j, k ≤ j → j < untN c k r → c j = false) ∧ (untN c k r < k + r → c (untN c k r) = true)
  | 0, k => ⟨Nat.le_refl _, Nat.le_refl _, fun j h1 h2 => by simp only [untN] at h2; omega, fun h => by simp only [untN] at h; omega⟩
  | r + 1, k => by
    simp only [untN]
    cases hc : c k with
    | true => simp only [if_true]; exact ⟨by omega, by omega, fun j h1 h2 => by omega, fun _ => hc⟩
    | false =>
      simp only [Bool.false_eq_true, if_false]
      obtain ⟨h1, h2, h3, h4⟩ := untN_in (c := c) r (k + 1)
      refine ⟨by omega, by omega, fun j h5 h6 => ?_, fun h => h4 (by omega)⟩
      rcases Nat.eq_or_lt_of_le h5 with h7 | h7
      · rw [← h7]; exact hc
      · exact h3 j (by omega) h6

def ptL (f : Fl) (k : Nat) : List Tm := (List.range k).map (ptV f)

theorem ptL_len {f : Fl} {k : Nat} : (ptL f k).length = k := by simp [ptL]

theorem ptL_succ {f : Fl} {k : Nat} : ptL f (k + 1) = ptL f k ++ [ptV f k] := by simp [ptL, List.range_succ]

theorem ptL_get {f : Fl} {k i : Nat} (h : i < k) : (ptL f k)[i]? = some (ptV f i) := by simp [ptL, h]

def untK (f : Fl) (t : Int) : Nat := untN (fun k => decide ((ptV f k).1 > t)) 0 60

theorem q_flowUntil {d : Nat} {f : Fl} {t : Int} (h : flowOk f = true) : g173 (d + 5) f t = some (ptL f (untK f t)) := by
  obtain ⟨h1, h2, h3, h4⟩ := untN_in (c := fun k => decide ((ptV f k).1 > t)) 60 0
  rw [e173]
  refine count_eq (F := l173_0 (d + 4) f t (j173_0 (d + 4))) (fun k => (ptL f k, (k : Int))) (untK f t) ?_ ?_ (by rw [fuelN_eq]; unfold untK; omega)
  · intro ag k hk
    have hk2 := h3 k (by omega) hk
    simp only [l173_0, l173_0_b]
    unfold untK at hk
    rw [decide_eq_true (show (k : Int) < 60 by omega), oif_t, q_packetAt h (by omega), ob_s, hk2, oif_f, room (by rw [ptL_len]; simp; omega), oif_t, wr1 (by omega), ptL_succ]
  · intro ag
    simp only [l173_0, l173_0_b]
    by_cases h5 : untK f t < 60
    · have h6 := h4 (by unfold untK at h5; omega)
      change decide ((ptV f (untK f t)).1 > t) = true at h6
      rw [decide_eq_true (show (untK f t : Int) < 60 by omega), oif_t, q_packetAt h (by omega), ob_s, h6, oif_t]; rfl
    · rw [decide_eq_false (show ¬ (untK f t : Int) < 60 by omega), oif_f]; rfl

theorem q_tfUntil {d : Nat} {f : Fl} {t : Int} (h : flowOk f = true) : g176 (d + 6) f t = some (ptL f (untK f t)) := by
  obtain ⟨h1, h2, h3, h4⟩ := untN_in (c := fun k => decide ((ptV f k).1 > t)) 60 0
  rw [e176]
  refine count_eq (F := l176_0 (d + 5) f t (j176_0 (d + 5))) (fun k => (ptL f k, (k : Int))) (untK f t) ?_ ?_ (by rw [fuelN_eq]; unfold untK; omega)
  · intro ag k hk
    have hk2 := h3 k (by omega) hk
    simp only [l176_0, l176_0_b]
    unfold untK at hk
    rw [decide_eq_true (show (k : Int) < 60 by omega), oif_t, q_tfPacket h (by omega), ob_s, hk2, oif_f, room (by rw [ptL_len]; simp; omega), oif_t, wr1 (by omega), ptL_succ]
  · intro ag
    simp only [l176_0, l176_0_b]
    by_cases h5 : untK f t < 60
    · have h6 := h4 (by unfold untK at h5; omega)
      change decide ((ptV f (untK f t)).1 > t) = true at h6
      rw [decide_eq_true (show (untK f t : Int) < 60 by omega), oif_t, q_tfPacket h (by omega), ob_s, h6, oif_t]; rfl
    · rw [decide_eq_false (show ¬ (untK f t : Int) < 60 by omega), oif_f]; rfl

def tkOk (n : Int) : Bool := decide (0 ≤ n ∧ n ≤ 100000)

def fuV (f : Fl) (t : Int) : List Tm × Bool := if flowOk f && tkOk t then (ptL f (untK f t), true) else ([], false)

theorem q_tfTick {d : Nat} {n : Int} : g175 (d + 2) n = some (tkOk n) := by rw [e175, q_l1In, ob_s]; rfl

theorem q_FlowUntil {d : Nat} {f : Fl} {t : Int} : g30 (d + 6) f t = some (fuV f t) := by
  rw [e30, q_IsFlow, ob_s, q_isTicks, ob_s]; unfold fuV tkOk
  cases h : flowOk f with
  | false => rfl
  | true => cases h2 : decide (0 ≤ t ∧ t ≤ 100000) with
    | false => rfl
    | true => rw [q_flowUntil h]; rfl

theorem q_sFlowUntil {d : Nat} {f : Fl} {t : Int} : g31 (d + 7) f t = some (fuV f t) := by
  rw [e31, q_tfGood, ob_s, q_tfTick, ob_s]; unfold fuV
  cases h : flowOk f with
  | false => rfl
  | true => cases h2 : tkOk t with
    | false => rfl
    | true => rw [q_tfUntil h]; rfl

def gapL (f : Fl) (k : Nat) : List Int := (List.range k).map fun b => gapV f ((b + 1 : Nat) : Int)

theorem gapL_len {f : Fl} {k : Nat} : (gapL f k).length = k := by simp [gapL]

theorem gapL_succ {f : Fl} {k : Nat} : gapL f (k + 1) = gapL f k ++ [gapV f ((k + 1 : Nat) : Int)] := by simp [gapL, List.range_succ]

def goV (f : Fl) (n : Int) : List Int × Bool := if flowOk f && decide (0 ≤ n ∧ n ≤ 40) then (gapL f n.toNat, true) else ([], false)

theorem q_GapsOf {d : Nat} {f : Fl} {n : Int} : g36 (d + 4) f n = some (goV f n) := by
  rw [e36, q_IsFlow, ob_s]; unfold goV j36_1
  cases h : flowOk f with
  | false => rfl
  | true =>
    simp only [Bool.not_true, oif_f, Bool.true_and]
    by_cases h1 : n < 0
    · rw [decide_eq_true h1, oif_t, oif_t, decide_eq_false (by omega)]; rfl
    · rw [decide_eq_false h1, oif_f]
      by_cases h2 : n > 40
      · rw [decide_eq_true h2, oif_t, decide_eq_false (by omega)]; rfl
      · obtain ⟨m, rfl⟩ := Int.eq_ofNat_of_zero_le (show 0 ≤ n by omega)
        rw [decide_eq_false h2, oif_f, decide_eq_true (by omega)]
        refine count_eq (F := l36_0 (d + 3) f m (j36_0 (d + 3))) (fun k => (gapL f k, ((k + 1 : Nat) : Int))) m ?_ ?_ (by rw [fuelN_eq]; omega)
        · intro ag k hk
          simp only [l36_0, l36_0_b]
          rw [decide_eq_true (by omega), oif_t, q_gapOf h (by omega) (by omega), ob_s, room (by rw [gapL_len]; simp; omega), oif_t, wr1 (by omega), gapL_succ]
        · intro ag
          simp only [l36_0, l36_0_b]
          rw [decide_eq_false (by omega), oif_f]; rfl

theorem q_sGapsOf {d : Nat} {f : Fl} {n : Int} : g37 (d + 5) f n = some (goV f n) := by
  rw [e37, q_tfGood, ob_s]; unfold goV j37_1
  cases h : flowOk f with
  | false => rfl
  | true =>
    simp only [Bool.not_true, oif_f, Bool.true_and]
    rw [q_l1In, ob_s]
    by_cases h1 : 0 ≤ n ∧ n ≤ 40
    · obtain ⟨m, rfl⟩ := Int.eq_ofNat_of_zero_le h1.1
      rw [decide_eq_true h1, Bool.not_true, oif_f]
      refine count_eq (F := l37_0 (d + 4) f m (j37_0 (d + 4))) (fun k => (gapL f k, ((k + 1 : Nat) : Int))) m ?_ ?_ (by rw [fuelN_eq]; omega)
      · intro ag k hk
        simp only [l37_0, l37_0_b]
        rw [decide_eq_true (by omega), oif_t, q_tfGap h (by omega) (by omega), ob_s, room (by rw [gapL_len]; simp; omega), oif_t, wr1 (by omega), gapL_succ]
      · intro ag
        simp only [l37_0, l37_0_b]
        rw [decide_eq_false (by omega), oif_f]; rfl
    · rw [decide_eq_false h1]; rfl

def shF (f : Fl) (t : Int) : Fl := (f.1, f.2.1, f.2.2.1, f.2.2.2.1, f.2.2.2.2.1, f.2.2.2.2.2.1 + t, f.2.2.2.2.2.2)

def sfV (f : Fl) (t : Int) : Fl × Bool := if flowOk f && (tkOk t && decide (f.2.2.2.2.2.1 + t ≤ 10000)) then (shF f t, true) else ((0, 0, 0, 0, 0, 0, 0, 0, 0), false)

theorem shF_ok {f : Fl} {t : Int} (h : flowOk f = true) (ht : tkOk t = true) : flowOk (shF f t) = decide (f.2.2.2.2.2.1 + t ≤ 10000) := by
  have hf := flowOk_in h
  simp only [tkOk, decide_eq_true_eq] at ht
  rw [Bool.eq_iff_iff, decide_eq_true_eq]
  constructor
  · intro hh
    have h2 := flowOk_in hh
    simp only [shF] at h2; omega
  · intro hh
    unfold flowOk shF
    rw [decide_eq_true_eq]
    refine ⟨?_, ?_, ?_, ?_, ?_, ?_, ?_, ?_, ?_, ?_, ?_, ?_, ?_, ?_, ?_, ?_, ?_, ?_⟩ <;> simp only <;> omega

theorem q_ShiftFlow {d : Nat} {f : Fl} {t : Int} : g39 (d + 3) f t = some (sfV f t) := by
  rw [e39, q_IsFlow, ob_s, q_isTicks, ob_s]; unfold sfV j39_0
  cases h : flowOk f with
  | false => rfl
  | true =>
    have hf := flowOk_in h
    cases h2 : tkOk t with
    | false => unfold tkOk at h2; rw [h2]; rfl
    | true =>
      have h3 := shF_ok h h2
      have h2' := h2
      simp only [tkOk, decide_eq_true_eq] at h2'
      unfold tkOk at h2
      rw [h2]
      simp only [Bool.not_true, oif_f, Bool.true_and]
      rw [wr (n := f.2.2.2.2.2.1 + t) (by omega) (by omega)]
      change obind (g48 (d + 2) (shF f t)) _ = _
      rw [q_IsFlow, ob_s, h3]
      cases decide (f.2.2.2.2.2.1 + t ≤ 10000) <;> rfl

theorem q_sShiftFlow {d : Nat} {f : Fl} {t : Int} : g40 (d + 4) f t = some (sfV f t) := by
  rw [e40, q_tfGood, ob_s, q_tfTick, ob_s]; unfold sfV j40_0
  cases h : flowOk f with
  | false => rfl
  | true =>
    have hf := flowOk_in h
    cases h2 : tkOk t with
    | false => rfl
    | true =>
      simp only [tkOk, decide_eq_true_eq] at h2
      simp only [Bool.not_true, oif_f, Bool.true_and]
      rw [wr (n := f.2.2.2.2.2.1 + t) (by omega) (by omega)]
      by_cases h3 : f.2.2.2.2.2.1 + t > 10000
      · rw [decide_eq_true h3, decide_eq_false (show ¬ (f.2.2.2.2.2.1 + t ≤ 10000) by omega)]; rfl
      · rw [decide_eq_false h3, decide_eq_true (show f.2.2.2.2.2.1 + t ≤ 10000 by omega)]; rfl

theorem p_flow {d m : Nat} {c : List Int × Int × Int} (hc : CurOk m c) (hm : m + 40 < 4611686018427387904) : Ok (g170 (d + 4) c) fun r => CurOk (m + 24) r.2 := by
  rw [e170]; unfold j170_0
  (repeat' (first | (with_reducible refine Ok.some ?_; exact CurOk.mono (by assumption) (by omega)) | (with_reducible refine Ok.oif (fun _ => ?_) (fun _ => ?_)) | (with_reducible refine Ok.bind (p_pick (by assumption) (by omega)) (fun r hr => ?_); obtain ⟨_, _, _⟩ := hr) | (with_reducible refine Ok.bind (p_among (by assumption) (by omega) (by simp)) (fun r hr => ?_); obtain ⟨_, _⟩ := hr) | (with_reducible refine Ok.bind (p_one (by assumption) (by omega)) (fun r hr => ?_))))

theorem p_tick {d m : Nat} {c : List Int × Int × Int} (hc : CurOk m c) (hm : m + 40 < 4611686018427387904) : Ok (g171 (d + 4) c) fun r => CurOk (m + 8) r.2 := by
  rw [e171]
  (repeat' (first | (with_reducible refine Ok.some ?_; exact CurOk.mono (by assumption) (by omega)) | (with_reducible refine Ok.oif (fun _ => ?_) (fun _ => ?_)) | (with_reducible refine Ok.bind (p_pick (by assumption) (by omega)) (fun r hr => ?_); obtain ⟨_, _, _⟩ := hr) | (with_reducible refine Ok.bind (p_among (by assumption) (by omega) (by simp)) (fun r hr => ?_); obtain ⟨_, _⟩ := hr) | (with_reducible refine Ok.bind (p_one (by assumption) (by omega)) (fun r hr => ?_))))

theorem p_DrawFlowUntil {d : Nat} {x : List Int} (hx : Bytes x) : Ok (g29 (d + 5) x) fun _ => True := by
  rw [e29]
  refine Ok.bind (p_flow (CurOk.new hx) (by omega)) fun r hr => ?_
  exact Ok.bind (p_tick hr (by omega)) fun q hq => Ok.some trivial

theorem p_DrawPacketAt {d : Nat} {x : List Int} (hx : Bytes x) : Ok (g32 (d + 5) x) fun _ => True := by
  rw [e32]
  refine Ok.bind (p_flow (CurOk.new hx) (by omega)) fun r hr => ?_
  refine Ok.bind (p_pick hr (by omega)) fun q hq => ?_
  exact Ok.bind (p_among hq.2.2 (by omega) (by simp)) fun u hu => Ok.some trivial

theorem p_DrawGapsOf {d : Nat} {x : List Int} (hx : Bytes x) : Ok (g35 (d + 5) x) fun _ => True := by
  rw [e35]
  refine Ok.bind (p_flow (CurOk.new hx) (by omega)) fun r hr => ?_
  exact Ok.bind (p_among hr (by omega) (by simp)) fun u hu => Ok.some trivial

theorem p_DrawShiftFlow {d : Nat} {x : List Int} (hx : Bytes x) : Ok (g38 (d + 5) x) fun _ => True := by
  rw [e38]
  refine Ok.bind (p_flow (CurOk.new hx) (by omega)) fun r hr => ?_
  exact Ok.bind (p_among hr (by omega) (by simp)) fun u hu => Ok.some trivial

theorem p_DrawMixOf {d : Nat} {x : List Int} (hx : Bytes x) : Ok (g183 (d + 5) x) fun r => r.length ≤ 100 := by
  rw [e183]
  refine Ok.bind (p_pick (CurOk.new hx) (by omega)) fun r hr => ?_
  obtain ⟨a1, a2, a3⟩ := hr
  refine iter_ok (fun k s => s.2.1 ≤ (k : Int) ∧ s.1.length + k ≤ 20 ∧ CurOk (2 + 2 * s.1.length) s.2.2) ?_ _ 20 _ (by rw [fuelN_eq]; omega) ⟨by simp only; omega, by simp, by simpa using a3⟩
  rintro k ⟨l, n, x⟩ ag ⟨h1, h2, h3⟩ hag
  simp only at h1 h2 h3
  simp only [l183_0, l183_0_b]
  refine Ok.oif (fun h => ?_) (fun h => ?_)
  · simp at h
    refine Ok.bind (p_pick h3 (by omega)) fun u hu => ?_
    rw [room (by simp; omega), oif_t]
    exact hag (k - 1) _ (by omega) ⟨by simp only; rw [wr (by omega) (by omega)]; omega, by simp; omega, by simpa [Nat.mul_add, Nat.add_assoc] using hu.2.2⟩
  · unfold j183_1
    refine Ok.bind (p_pick h3 (by omega)) fun u hu => ?_
    refine Ok.oif (fun h => ?_) (fun h => ?_)
    · refine Ok.bind (p_among hu.2.2 (by omega) (by simp)) fun v hv => ?_
      rw [room (by simp; omega), oif_t]
      exact Ok.some (by simp; omega)
    · refine Ok.oif (fun h => ?_) (fun h => ?_)
      · refine Ok.bind (p_pick hu.2.2 (by omega)) fun v hv => ?_
        obtain ⟨v1, v2, v3⟩ := hv
        refine iter_ok (fun k s => s.length + k = 100) ?_ _ (100 - l.length) _ (by rw [fuelN_eq]; omega) (by omega)
        intro k s ag hs hag2
        simp only [l183_1, l183_1_b]
        rw [wr (n := 7 + v.1) (by omega) (by omega)]
        refine Ok.oif (fun h => ?_) (fun h => ?_)
        · simp only [decide_eq_true_eq] at h
          rw [room (by simp; omega), oif_t]
          exact hag2 (k - 1) _ (by omega) (by simp; omega)
        · unfold j183_0
          exact Ok.some (by omega)
      · exact Ok.some (by omega)

theorem p_DrawNumberFor {d : Nat} {x : List Int} (hx : Bytes x) : Ok (g41 (d + 6) x) fun r => r.1.length ≤ 100 := by
  rw [e41]
  refine Ok.bind (p_DrawMixOf hx) fun r hr => ?_
  exact Ok.bind (p_among (CurOk.new hx) (by omega) (by simp)) fun u hu => Ok.some hr

end Go.Proofs.Ytmjhgkmiafemfaa
