/-
  What the cursor's functions and the small ones give by value.
  Conditions: the cursor has not been moved 2^62 times.
  Comparing and adding up lists of numbers; ranges.
  Conditions: the lists are shorter than the fuel.
  Packets, in both packages: valid ones, flows, sizes; the draws.
  Conditions: none, but those of the cursor for the draws.
-/
import Derived.Test.YtmjhgkmiafemfaaFnFlowsRes
import Derived.Test.YtmjhgkmiafemfaaPKit2
set_option linter.all false
namespace Go.Proofs.Ytmjhgkmiafemfaa
open Go.Ev Go.Pv

theorem p_next {d m : Nat} {c : List Int × Int × Int} (hc : CurOk m c) (hm : m < 4611686018427387904) : Ok (g289 (d + 1) c) fun r => 0 ≤ r.1 ∧ r.1 < 256 ∧ CurOk (m + 1) r.2 := by
  obtain ⟨hb, h0, h1⟩ := hc
  obtain ⟨code, at', seed⟩ := c
  simp only at hb h0 h1
  have hw : IntKind.i64.wrap (at' + 1) = at' + 1 := wr (by omega) (by omega)
  rw [e289]
  have fin : ∀ n : Int, (at' < code.length → 0 ≤ n ∧ n < 256) → Ok (j289_0 d (code, at', seed) n) fun r => 0 ≤ r.1 ∧ r.1 < 256 ∧ CurOk (m + 1) r.2 := by
    intro n hn
    unfold j289_0
    simp only [hw]
    refine Ok.oif (fun h => ?_) (fun h => ?_)
    · simp only [decide_eq_true_eq] at h
      obtain ⟨a, b⟩ := hn (by omega)
      exact Ok.some ⟨a, b, hb, by simp only; omega, by simp only; omega⟩
    · exact Ok.some ⟨(seedByte _).1, (seedByte _).2, hb, by simp only; omega, by simp only; omega⟩
  refine Ok.oif (fun h => ?_) (fun h => ?_)
  · simp only [decide_eq_true_eq] at h
    refine Ok.oif (fun _ => ?_) (fun h2 => by simp only [decide_eq_false_iff_not] at h2; omega)
    have hlt : at'.toNat < code.length := by omega
    simp only
    rw [List.getElem?_eq_getElem hlt]
    have hx := hb _ (List.getElem_mem hlt)
    refine Ok.bind (Ok.some rfl) (fun a ha => ?_)
    subst ha
    exact fin _ (fun _ => by rw [wr (by omega) (by omega)]; exact hx)
  · simp only [decide_eq_false_iff_not] at h
    exact fin 0 (fun h' => absurd h' h)

theorem p_pick {d m : Nat} {c : List Int × Int × Int} {n : Int} (hc : CurOk m c) (hm : m + 1 < 4611686018427387904) : Ok (g177 (d + 2) c n) fun r => 0 ≤ r.1 ∧ (r.1 < n ∨ r.1 = 0) ∧ CurOk (m + 2) r.2 := by
  rw [e177]
  refine Ok.oif (fun h => ?_) (fun h => ?_)
  · exact Ok.some ⟨by simp, .inr rfl, hc.mono (by omega)⟩
  · simp only [decide_eq_false_iff_not] at h
    refine Ok.bind (p_next hc (by omega)) (fun r hr => ?_)
    obtain ⟨h1, h2, h3⟩ := hr
    have hn : (n == 0) = false := by simp; omega
    refine Ok.oif (fun h4 => ?_) (fun h4 => ?_)
    · refine Ok.bind (p_next h3 (by omega)) (fun q hq => ?_)
      obtain ⟨h5, h6, h7⟩ := hq
      rw [hn]
      rw [wr (n := r.1 * 256) (by omega) (by omega), wr (by omega) (by omega)]
      exact Ok.some ⟨Int.tmod_nonneg _ (by omega), .inl (Int.tmod_lt_of_pos _ (by omega)), h7.mono (by omega)⟩
    · rw [hn]
      exact Ok.some ⟨Int.tmod_nonneg _ (by omega), .inl (Int.tmod_lt_of_pos _ (by omega)), h3.mono (by omega)⟩

theorem p_among {d m : Nat} {c : List Int × Int × Int} {l : List Int} (hc : CurOk m c) (hm : m + 1 < 4611686018427387904) (hl : 0 < l.length) : Ok (g158 (d + 3) c l) fun r => r.1 ∈ l ∧ CurOk (m + 2) r.2 := by
  rw [e158]
  refine Ok.bind (p_pick hc hm) (fun r hr => ?_)
  obtain ⟨h1, h2, h3⟩ := hr
  refine Ok.oif (fun _ => ?_) (fun h => by simp only [decide_eq_false_iff_not] at h; omega)
  have hlt : r.1.toNat < l.length := by omega
  rw [List.getElem?_eq_getElem hlt]
  exact Ok.bind (Ok.some rfl) (fun a ha => by subst ha; exact Ok.some ⟨List.getElem_mem hlt, h3⟩)

theorem p_one {d m : Nat} {c : List Int × Int × Int} {n : Int} (hc : CurOk m c) (hm : m + 1 < 4611686018427387904) : Ok (g211 (d + 3) c n) fun r => CurOk (m + 2) r.2 := by
  rw [e211]
  exact Ok.bind (p_pick hc hm) (fun r hr => Ok.some hr.2.2)

theorem q_l1In {d : Nat} {x y z : Int} : g179 (d + 1) x y z = some (decide (y ≤ x ∧ x ≤ z)) := by
  rw [e179]; simp only [oif_ss]; congr 1; rw [Bool.eq_iff_iff]; simp

def szOk (s : Int) : Bool := decide (1 ≤ s ∧ s ≤ 1500)

theorem q_sameInts {d : Nat} {l : List Int} (hl : l.length < 4194304) : g16 (d + 1) l l = some true := by
  rw [e16, bne_self_eq_false, oif_f]
  refine (range_eq (fun (t : Bool) (i : Int) => (t, i)) l (fun x i t k => k t) (j16_0 d) ?_ ?_ (by rw [fuelN_eq]; exact hl) false).trans ?_
  · intro ag t i x hx; have hi := (List.getElem?_eq_some_iff.1 hx).1; simp only [l16_0, l16_0_b, ltl hx, bltl hx, nn, ofNat_toNat, hx, ob_s, oif_t]; rw [wr1 (by omega)]
    simp only [bne_self_eq_false, oif_f]
  · intro ag t; simp only [l16_0, l16_0_b, ltn, oif_f]
  · rw [rangeR_fold (f := fun _ _ t => t)]; rfl

theorem q_big {d : Nat} {x y : List Int} : ∃ b, g12 (d + 1) x y = some b := by
  rw [e12]; simp only [oif_ss]; exact ⟨_, rfl⟩

abbrev Pk := Int × Int × Int × Int × Int × Int

def wordOk (n : Int) : Bool := decide (0 ≤ n ∧ n ≤ 65535)

def pkOk (p : Pk) : Bool := decide (1 ≤ p.1 ∧ p.1 ≤ 100000 ∧ 0 ≤ p.2.1 ∧ p.2.1 ≤ 65535 ∧ 0 ≤ p.2.2.1 ∧ p.2.2.1 ≤ 65535 ∧ 0 ≤ p.2.2.2.1 ∧ p.2.2.2.1 ≤ 65535 ∧ 0 ≤ p.2.2.2.2.1 ∧ p.2.2.2.2.1 ≤ 65535 ∧ 1 ≤ p.2.2.2.2.2 ∧ p.2.2.2.2.2 ≤ 1500)

theorem pkOk_in {p : Pk} (h : pkOk p = true) : 1 ≤ p.1 ∧ p.1 ≤ 100000 ∧ 0 ≤ p.2.1 ∧ p.2.1 ≤ 65535 ∧ 0 ≤ p.2.2.1 ∧ p.2.2.1 ≤ 65535 ∧ 0 ≤ p.2.2.2.1 ∧ p.2.2.2.1 ≤ 65535 ∧ 0 ≤ p.2.2.2.2.1 ∧ p.2.2.2.2.1 ≤ 65535 ∧ 1 ≤ p.2.2.2.2.2 ∧ p.2.2.2.2.2 ≤ 1500 := by
  simpa [pkOk] using h

theorem q_IsPacket {d : Nat} {x : Pk} : g50 (d + 2) x = some (pkOk x) := by
  rw [e50, e191, ob_s]
  refine (range_eq (fun (t : Bool) (i : Int) => (t, i)) [x.2.1, x.2.2.1, x.2.2.2.1, x.2.2.2.2.1] (fun y _ t k => oif (wordOk y) (k t) (some false)) (j50_0 (d + 1) x) ?_ ?_ (by rw [fuelN_eq]; simp) false).trans ?_
  · intro ag t i y hy
    have hi : i < 4 := by have := (List.getElem?_eq_some_iff.1 hy).1; simpa using this
    have h4 : decide ((i : Int) < 4) = true := by simp; omega
    simp only [l50_0, l50_0_b, h4, nn, ofNat_toNat, oif_t]
    rw [hy, ob_s, wr1 (by omega)]
    unfold wordOk
    by_cases h1 : y < 0
    · rw [decide_eq_true h1, oif_t, decide_eq_false (by omega), oif_f]
    · rw [decide_eq_false h1, oif_f]
      by_cases h2 : y > 65535
      · rw [decide_eq_true h2, oif_t, decide_eq_false (by omega), oif_f]
      · rw [decide_eq_false h2, oif_f, decide_eq_true (by omega), oif_t]
  · intro ag t; rfl
  · rw [rangeR_all (p := wordOk)]
    unfold j50_0
    simp only [oif_ss]
    congr 1
    rw [Bool.eq_iff_iff]
    simp only [List.all_cons, List.all_nil, Bool.and_true, wordOk, pkOk]
    simp
    omega

theorem q_pkWord {d : Nat} {n : Int} : g167 (d + 2) n = some (wordOk n) := by
  rw [e167, q_l1In, ob_s]; rfl

theorem q_pkGood {d : Nat} {x : Pk} : g166 (d + 3) x = some (pkOk x) := by
  rw [e166]
  simp only [q_l1In, q_pkWord, ob_s, oif_ss]
  congr 1
  rw [Bool.eq_iff_iff]
  simp [wordOk, pkOk]
  omega

/-- Valid packets, in order, from an Id on. -/
def incI : Int → List Pk → Bool
  | _, [] => true
  | a, p :: r => pkOk p && (decide (a < p.1) && incI p.1 r)

def pksOk (l : List Pk) : Bool := incI 0 l && decide (((l.length : Nat) : Int) ≤ 60)

theorem incI_all : ∀ {l : List Pk} {a : Int}, incI a l = true → ∀ p ∈ l, pkOk p = true
  | [], _, _, p, hp => by simp at hp
  | q :: r, a, h, p, hp => by
    simp only [incI, Bool.and_eq_true] at h
    rcases List.mem_cons.1 hp with rfl | hp
    · exact h.1
    · exact incI_all h.2.2 p hp

theorem pksOk_in {l : List Pk} (h : pksOk l = true) : (∀ p ∈ l, pkOk p = true) ∧ l.length ≤ 60 := by
  simp only [pksOk, Bool.and_eq_true, decide_eq_true_eq] at h
  exact ⟨incI_all h.1, by omega⟩

def lastI : Int → List Pk → Int
  | a, [] => a
  | _, p :: r => lastI p.1 r

theorem inc_spec {β : Type} {fin : Bool × Int → Option β} {no : Option β} : ∀ (l : List Pk) (i : Nat) (t : Bool × Int),
    rangeR (fun x _ t k => oif (!pkOk x) no (oif (decide (x.1 ≤ t.2)) no (k (t.1, x.1)))) fin l i t = oif (incI t.2 l) (fin (t.1, lastI t.2 l)) no
  | [], i, t => rfl
  | x :: r, i, t => by
    simp only [rangeR, incI]
    cases hx : pkOk x with
    | false => rfl
    | true =>
      simp only [Bool.not_true, oif_f, Bool.true_and]
      by_cases h : x.1 ≤ t.2
      · rw [decide_eq_true h, oif_t, decide_eq_false (by omega)]; rfl
      · rw [decide_eq_false h, oif_f, decide_eq_true (by omega), Bool.true_and, inc_spec r (i + 1) (t.1, x.1)]; rfl

theorem inc_impl {β : Type} {l : List Pk} {fin : Bool → Option β} {no : Option β} : ∀ (r : List Pk) (i : Nat) (a : Int) (t : Bool), l.drop i = r → (i = 0 → a = 0) → (0 < i → ∃ y, l[i - 1]? = some y ∧ y.1 = a) →
    rangeR (fun x i t k => oif (!pkOk x) no (oif (decide ((i : Int) > 0)) (obind (l[i - 1]?) fun y => oif (decide (x.1 ≤ y.1)) no (k t)) (k t))) fin r i t = oif (incI a r) (fin t) no
  | [], i, a, t, _, _, _ => rfl
  | x :: r, i, a, t, hd, h0, h1 => by
    have hi : i < l.length := by
      rcases Nat.lt_or_ge i l.length with h | h
      · exact h
      · rw [List.drop_of_length_le h] at hd; simp at hd
    have hx : l[i]? = some x := by
      have := List.drop_eq_getElem_cons hi
      rw [hd] at this; injection this with e _; rw [List.getElem?_eq_getElem hi, ← e]
    have hd' : l.drop (i + 1) = r := by
      have := List.drop_eq_getElem_cons hi
      rw [hd] at this; injection this with _ e; exact e.symm
    have ih := inc_impl (fin := fin) (no := no) r (i + 1) x.1 t hd' (by omega) (fun _ => ⟨x, by simpa using hx, rfl⟩)
    simp only [rangeR, incI]
    cases hp : pkOk x with
    | false => rfl
    | true =>
      simp only [Bool.not_true, oif_f, Bool.true_and]
      by_cases hi0 : i = 0
      · subst hi0
        obtain rfl := h0 rfl
        have := pkOk_in hp
        rw [decide_eq_true (show (0 : Int) < x.1 by omega), Bool.true_and]
        simp only [Int.natCast_zero]
        rw [show decide ((0 : Int) > 0) = false from rfl, oif_f]
        exact ih
      · obtain ⟨y, e1, e2⟩ := h1 (by omega)
        rw [decide_eq_true (show ((i : Int) > 0) by omega), oif_t, e1, ob_s, e2]
        by_cases h : x.1 ≤ a
        · rw [decide_eq_true h, oif_t, decide_eq_false (by omega)]; rfl
        · rw [decide_eq_false h, oif_f, decide_eq_true (by omega), Bool.true_and]; exact ih

theorem q_ArePackets {d : Nat} {l : List Pk} (hl : l.length < 4194304) : g17 (d + 3) l = some (pksOk l) := by
  rw [e17]
  refine (range_eq (fun (t : Bool) (i : Int) => (t, i)) l (fun x i t k => oif (!pkOk x) (some false) (oif (decide ((i : Int) > 0)) (obind (l[i - 1]?) fun y => oif (decide (x.1 ≤ y.1)) (some false) (k t)) (k t))) (j17_0 (d + 2) l) ?_ ?_ (by rw [fuelN_eq]; exact hl) false).trans ?_
  · intro ag t i x hx; have hi := (List.getElem?_eq_some_iff.1 hx).1; simp only [l17_0, l17_0_b, ltl hx, bltl hx, nn, ofNat_toNat, hx, ob_s, oif_t]; rw [wr1 (by omega)]
    rw [q_IsPacket, ob_s]
    by_cases h0 : (i : Int) > 0
    · rw [decide_eq_true h0, wr (n := (i : Int) - 1) (by omega) (by omega), decide_eq_true (show (0 : Int) ≤ (i : Int) - 1 by omega), oif_t, oif_t, oif_t, show ((i : Int) - 1).toNat = i - 1 by omega]
    · rw [decide_eq_false h0]; rfl
  · intro ag t; simp only [l17_0, l17_0_b, ltn, oif_f]
  · rw [inc_impl l 0 0 false (by simp) (fun _ => rfl) (fun h => absurd h (by omega))]
    unfold pksOk j17_0
    cases incI 0 l <;> rfl

theorem q_pkList {d : Nat} {l : List Pk} (hl : l.length < 4194304) : g161 (d + 4) l = some (pksOk l) := by
  rw [e161]
  refine (range_eq (fun (t : Bool × Int) (i : Int) => (t.1, t.2, i)) l (fun x _ t k => oif (!pkOk x) (some false) (oif (decide (x.1 ≤ t.2)) (some false) (k (t.1, x.1)))) (fun t => j161_0 (d + 3) l t.1) ?_ ?_ (by rw [fuelN_eq]; exact hl) (false, 0)).trans ?_
  · intro ag t i x hx; have hi := (List.getElem?_eq_some_iff.1 hx).1; simp only [l161_0, l161_0_b, ltl hx, bltl hx, nn, ofNat_toNat, hx, ob_s, oif_t]; rw [wr1 (by omega)]
    rw [q_pkGood, ob_s]
  · intro ag t; simp only [l161_0, l161_0_b, ltn, oif_f]
  · rw [inc_spec l 0 (false, 0)]
    unfold pksOk j161_0
    cases incI 0 l <;> rfl

theorem q_sArePackets {d : Nat} {l : List Pk} (hl : l.length < 4194304) : g18 (d + 5) l = some (pksOk l) := by
  rw [e18, q_pkList hl, ob_s]

theorem sum_range {α β : Type} {f : α → Int} {fin : Int → Option β} : ∀ (l : List α) (i : Nat) (t : Int), (∀ x ∈ l, 0 ≤ f x ∧ f x ≤ 1000000) → 0 ≤ t → t + 1000000 * (l.length : Int) ≤ 9000000000000000000 →
    rangeR (fun x _ t k => k (IntKind.i64.wrap (t + f x))) fin l i t = fin (t + (l.map f).sum)
  | [], i, t, _, _, _ => by simp [rangeR]
  | x :: r, i, t, h, h0, h1 => by
    have hx := h x (by simp)
    simp only [List.length_cons] at h1
    simp only [rangeR]
    rw [wr (n := t + f x) (by omega) (by omega), sum_range r (i + 1) (t + f x) (fun y hy => h y (by simp [hy])) (by omega) (by omega)]
    simp only [List.map_cons, List.sum_cons]; congr 1; omega

def pkSz (p : Pk) : Int := p.2.2.2.2.2

def szs (l : List Pk) : Int := (l.map pkSz).sum

theorem szs_in {l : List Pk} (h : pksOk l = true) : ∀ x ∈ l, 0 ≤ pkSz x ∧ pkSz x ≤ 1000000 := fun x hx => by
  have := pkOk_in ((pksOk_in h).1 x hx); unfold pkSz; omega

theorem q_sumSizes {d : Nat} {l : List Pk} (h : pksOk l = true) : g164 (d + 1) l = some (szs l) := by
  have h1 := (pksOk_in h).2
  rw [e164]
  refine (range_eq (fun (t : Int) (i : Int) => (t, i)) l (fun x _ t k => k (IntKind.i64.wrap (t + pkSz x))) (j164_0 d) ?_ ?_ (by rw [fuelN_eq]; omega) 0).trans ?_
  · intro ag t i x hx; have hi := (List.getElem?_eq_some_iff.1 hx).1; simp only [l164_0, l164_0_b, ltl hx, bltl hx, nn, ofNat_toNat, hx, ob_s, oif_t]; rw [wr1 (by omega)]
    rfl
  · intro ag t; simp only [l164_0, l164_0_b, ltn, oif_f]
  · rw [sum_range l 0 0 (szs_in h) (by omega) (by omega)]
    unfold j164_0 szs; simp

theorem q_pkSum {d : Nat} {l : List Pk} (h : pksOk l = true) : g169 (d + 1) l = some (szs l) := by
  have h1 := (pksOk_in h).2
  rw [e169]
  refine (range_eq (fun (t : Int) (i : Int) => (t, i)) l (fun x _ t k => k (IntKind.i64.wrap (t + pkSz x))) (j169_0 d) ?_ ?_ (by rw [fuelN_eq]; omega) 0).trans ?_
  · intro ag t i x hx; have hi := (List.getElem?_eq_some_iff.1 hx).1; simp only [l169_0, l169_0_b, ltl hx, bltl hx, nn, ofNat_toNat, hx, ob_s, oif_t]; rw [wr1 (by omega)]
    rfl
  · intro ag t; simp only [l169_0, l169_0_b, ltn, oif_f]
  · rw [sum_range l 0 0 (szs_in h) (by omega) (by omega)]
    unfold j169_0 szs; simp

theorem q_pSum {d : Nat} {l : List Int} (hl : l.length < 4194304) (h0 : ∀ x ∈ l, 0 ≤ x) (hs : l.sum ≤ 9223372036854775807) : g20 (d + 1) l = some l.sum := by
  rw [e20]
  refine (range_eq (fun (t : Int) (i : Int) => (t, i)) l (fun x i t k => k (IntKind.i64.wrap (t + x))) (j20_0 d) ?_ ?_ (by rw [fuelN_eq]; exact hl) 0).trans ?_
  · intro ag t i x hx; have hi := (List.getElem?_eq_some_iff.1 hx).1; simp only [l20_0, l20_0_b, ltl hx, bltl hx, nn, ofNat_toNat, hx, ob_s, oif_t]; rw [wr1 (by omega)]
  · intro ag t; simp only [l20_0, l20_0_b, ltn, oif_f]
  · rw [rangeR_fold (f := fun x _ t => IntKind.i64.wrap (t + x)), foldI_sum l 0 0 h0 (by omega) (by omega)]; simp [j20_0]

theorem szs_le : ∀ l : List Pk, (∀ p ∈ l, pkOk p = true) → szs l ≤ 1500 * (l.length : Int)
  | [], _ => by simp [szs]
  | p :: r, h => by
    have h1 := pkOk_in (h p (by simp))
    have h2 := szs_le r (fun q hq => h q (by simp [hq]))
    have h3 : pkSz p ≤ 1500 := h1.2.2.2.2.2.2.2.2.2.2.2
    simp only [szs, List.map_cons, List.sum_cons, List.length_cons] at h2 ⊢
    omega

def tsV (l : List Pk) : Int × Bool := if pksOk l then (szs l, true) else (0, false)

theorem q_TotalSize {d : Nat} {l : List Pk} (hl : l.length < 4194304) : g19 (d + 4) l = some (tsV l) := by
  rw [e19, q_ArePackets hl, ob_s]; unfold tsV
  cases h : pksOk l with
  | false => rfl
  | true => simp only [Bool.not_true, oif_f, q_sumSizes h, ob_s, if_true]

theorem q_sTotalSize {d : Nat} {l : List Pk} (hl : l.length < 4194304) : g28 (d + 5) l = some (tsV l) := by
  rw [e28, q_pkList hl, ob_s]; unfold tsV
  cases h : pksOk l with
  | false => rfl
  | true => simp only [Bool.not_true, oif_f, q_pkSum h, ob_s, if_true]

def flOk (k : Int) : Bool := decide (1 ≤ k ∧ k ≤ 64)

theorem q_isFlows {d : Nat} {k : Int} : g159 (d + 1) k = some (flOk k) := by
  rw [e159]; simp only [oif_ss]; congr 1; rw [Bool.eq_iff_iff]; simp [flOk]

theorem q_pkFlows {d : Nat} {k : Int} : g162 (d + 2) k = some (flOk k) := by
  rw [e162, q_l1In, ob_s]; rfl

def fl1 (a n : Int) : Int := (31 * a + n + 7) % 1000003

def fl3 (p : Pk) : Int := fl1 (fl1 (fl1 40503 p.2.1) p.2.2.1) p.2.2.2.1

def flV (p : Pk) (k : Int) : Int := fl3 p % k

theorem fl1_in (a n : Int) : 0 ≤ fl1 a n ∧ fl1 a n < 1000003 := ⟨Int.emod_nonneg _ (by omega), Int.emod_lt_of_pos _ (by omega)⟩

theorem fl1_raw {a n : Int} (h0 : 0 ≤ a) (h1 : a < 1000003) (h2 : 0 ≤ n) (h3 : n ≤ 65535) : (IntKind.i64.wrap ((IntKind.i64.wrap ((IntKind.i64.wrap ((31 : Int) * a)) + n)) + 7)).tmod 1000003 = fl1 a n := by
  rw [wr (n := 31 * a) (by omega) (by omega), wr (n := 31 * a + n) (by omega) (by omega), wr (by omega) (by omega), Int.tmod_eq_emod_of_nonneg (by omega)]; rfl

theorem flV_in {p : Pk} {k : Int} (h : flOk k = true) : 0 ≤ flV p k ∧ flV p k < k := by
  simp only [flOk, decide_eq_true_eq] at h
  exact ⟨Int.emod_nonneg _ (by omega), Int.emod_lt_of_pos _ (by omega)⟩

theorem q_flowOf {d : Nat} {p : Pk} {k : Int} (hp : pkOk p = true) (hk : flOk k = true) : g160 (d + 1) p k = some (flV p k) := by
  have hp' := pkOk_in hp
  rw [e160]
  refine (range_eq (fun (t : Int) (i : Int) => (t, i)) [p.2.1, p.2.2.1, p.2.2.2.1] (fun x _ t k => k ((IntKind.i64.wrap ((IntKind.i64.wrap ((IntKind.i64.wrap ((31 : Int) * t)) + x)) + 7)).tmod 1000003)) (j160_0 d k) ?_ ?_ (by rw [fuelN_eq]; simp) 40503).trans ?_
  · intro ag t i y hy
    have hi : i < 3 := by have := (List.getElem?_eq_some_iff.1 hy).1; simpa using this
    have h4 : decide ((i : Int) < 3) = true := by simp; omega
    simp only [l160_0, l160_0_b, h4, nn, ofNat_toNat, oif_t]
    rw [hy, ob_s, wr1 (by omega)]
  · intro ag t; rfl
  · simp only [rangeR]
    rw [fl1_raw (a := 40503) (n := p.2.1) (by omega) (by omega) (by omega) (by omega)]
    have a1 := fl1_in 40503 p.2.1
    rw [fl1_raw (n := p.2.2.1) a1.1 a1.2 (by omega) (by omega)]
    have a2 := fl1_in (fl1 40503 p.2.1) p.2.2.1
    rw [fl1_raw (n := p.2.2.2.1) a2.1 a2.2 (by omega) (by omega)]
    have a3 := fl1_in (fl1 (fl1 40503 p.2.1) p.2.2.1) p.2.2.2.1
    simp only [flOk, decide_eq_true_eq] at hk
    unfold j160_0
    rw [show ((k == 0) = false) by simp; omega, oif_f, Int.tmod_eq_emod_of_nonneg a3.1]; rfl

theorem q_pkFlow {d : Nat} {p : Pk} {k : Int} (hp : pkOk p = true) (hk : flOk k = true) : g163 (d + 1) p k = some (flV p k) := by
  have hp' := pkOk_in hp
  rw [e163]
  refine (range_eq (fun (t : Int) (i : Int) => (t, i)) [p.2.1, p.2.2.1, p.2.2.2.1] (fun x _ t k => k ((IntKind.i64.wrap ((IntKind.i64.wrap ((IntKind.i64.wrap ((31 : Int) * t)) + x)) + 7)).tmod 1000003)) (j163_0 d k) ?_ ?_ (by rw [fuelN_eq]; simp) 40503).trans ?_
  · intro ag t i y hy
    have hi : i < 3 := by have := (List.getElem?_eq_some_iff.1 hy).1; simpa using this
    simp only [l163_0, l163_0_b, ltl hy, bltl hy, nn, ofNat_toNat, oif_t]
    rw [hy, ob_s, wr1 (by omega)]
  · intro ag t; rfl
  · simp only [rangeR]
    rw [fl1_raw (a := 40503) (n := p.2.1) (by omega) (by omega) (by omega) (by omega)]
    have a1 := fl1_in 40503 p.2.1
    rw [fl1_raw (n := p.2.2.1) a1.1 a1.2 (by omega) (by omega)]
    have a2 := fl1_in (fl1 40503 p.2.1) p.2.2.1
    rw [fl1_raw (n := p.2.2.2.1) a2.1 a2.2 (by omega) (by omega)]
    have a3 := fl1_in (fl1 (fl1 40503 p.2.1) p.2.2.1) p.2.2.2.1
    simp only [flOk, decide_eq_true_eq] at hk
    unfold j163_0
    rw [show ((k == 0) = false) by simp; omega, oif_f, Int.tmod_eq_emod_of_nonneg a3.1]; rfl

def foV (p : Pk) (k : Int) : Int × Bool := if pkOk p && flOk k then (flV p k, true) else (0, false)

theorem q_FlowOf {d : Nat} {p : Pk} {k : Int} : g25 (d + 3) p k = some (foV p k) := by
  rw [e25, q_IsPacket, ob_s, q_isFlows, ob_s]; unfold foV
  cases hp : pkOk p with
  | false => rfl
  | true => cases hk : flOk k with
    | false => rfl
    | true => simp only [Bool.not_true, oif_f, q_flowOf hp hk, ob_s]; rfl

theorem q_sFlowOf {d : Nat} {p : Pk} {k : Int} : g26 (d + 4) p k = some (foV p k) := by
  rw [e26, q_pkGood, ob_s, q_pkFlows, ob_s]; unfold foV
  cases hp : pkOk p with
  | false => rfl
  | true => cases hk : flOk k with
    | false => rfl
    | true => simp only [Bool.not_true, oif_f, q_pkFlow hp hk, ob_s]; rfl

/-- The sizes flow by flow. -/
def fsL (k : Int) : List Int → List Pk → List Int
  | t, [] => t
  | t, p :: r => fsL k (t.set (flV p k).toNat (t.getD (flV p k).toNat 0 + pkSz p)) r

theorem fs_range {β : Type} {k : Int} {G : Pk → Option Int} {fin : List Int → Option β} (hk : flOk k = true) (hG : ∀ p, pkOk p = true → G p = some (flV p k)) :
    ∀ (l : List Pk) (i : Nat) (t : List Int) (B : Int), t.length = k.toNat → (∀ e ∈ t, 0 ≤ e ∧ e ≤ B) → (∀ p ∈ l, pkOk p = true) → B + 1500 * (l.length : Int) ≤ 1000000000 →
    rangeR (fun x _ t kk => obind (G x) fun r8 => oif (decide (0 ≤ (r8 : Int))) (oif (Nat.blt ((r8 : Int).toNat) t.length) (obind (t[(r8 : Int).toNat]?) fun n9 => oif (decide (0 ≤ (r8 : Int))) (oif (Nat.blt ((r8 : Int).toNat) t.length) (obind (t[(r8 : Int).toNat]?) fun n10 => kk (t.set ((r8 : Int).toNat) (IntKind.i64.wrap (n9 + x.2.2.2.2.2)))) none) none) none) none) fin l i t = fin (fsL k t l)
  | [], i, t, B, _, _, _, _ => rfl
  | x :: r, i, t, B, hl, ht, hx, hB => by
    have hxp := hx x (by simp)
    obtain ⟨f1, f2⟩ := flV_in (p := x) hk
    have hlt : (flV x k).toNat < t.length := by omega
    have hg : t[(flV x k).toNat]? = some (t.getD (flV x k).toNat 0) := by rw [List.getElem?_eq_getElem hlt]; simp [List.getD, List.getElem?_eq_getElem hlt]
    have he := ht _ (List.mem_of_getElem? hg)
    have hp := pkOk_in hxp
    simp only [List.length_cons] at hB
    simp only [rangeR, hG x hxp, ob_s, decide_eq_true f1, oif_t, blt_of hlt, hg]
    rw [wr (by omega) (by omega)]
    have ih := fs_range (fin := fin) hk hG r (i + 1) (t.set (flV x k).toNat (t.getD (flV x k).toNat 0 + pkSz x)) (B + 1500) (by simpa using hl) (fun e he' => by
      rcases List.mem_or_eq_of_mem_set he' with h | h
      · have := ht e h; omega
      · rw [h]; unfold pkSz; omega) (fun p hp => hx p (by simp [hp])) (by omega)
    exact ih

theorem fsL_len {k : Int} : ∀ {l : List Pk} {t : List Int}, (fsL k t l).length = t.length
  | [], _ => rfl
  | x :: r, t => by simp only [fsL]; rw [fsL_len]; simp

theorem fsL_sum {k : Int} (hk : flOk k = true) : ∀ {l : List Pk} {t : List Int}, t.length = k.toNat → (fsL k t l).sum = t.sum + szs l
  | [], t, _ => by simp [fsL, szs]
  | x :: r, t, hl => by
    obtain ⟨f1, f2⟩ := flV_in (p := x) hk
    simp only [fsL]
    rw [fsL_sum hk (by simpa using hl), sum_set (by omega)]
    simp only [szs, List.map_cons, List.sum_cons]; omega

theorem fsL_nonneg {k : Int} : ∀ {l : List Pk} {t : List Int}, (∀ p ∈ l, pkOk p = true) → (∀ e ∈ t, 0 ≤ e) → ∀ e ∈ fsL k t l, 0 ≤ e
  | [], t, _, ht => ht
  | x :: r, t, hx, ht => by
    have hp := pkOk_in (hx x (by simp))
    simp only [fsL]
    refine fsL_nonneg (fun p hp => hx p (by simp [hp])) (fun e he => ?_)
    rcases List.mem_or_eq_of_mem_set he with h | h
    · exact ht e h
    · rw [h]
      have : 0 ≤ t.getD (flV x k).toNat 0 := by
        unfold List.getD
        cases hg : t[(flV x k).toNat]? with
        | none => simp
        | some v => simpa using ht v (List.mem_of_getElem? hg)
      unfold pkSz; omega

def fsV (l : List Pk) (k : Int) : List Int × Bool := if pksOk l && flOk k then (fsL k (List.replicate k.toNat 0) l, true) else ([], false)

theorem q_FlowSizes {d : Nat} {l : List Pk} {k : Int} (hl : l.length < 4194304) : g14 (d + 4) l k = some (fsV l k) := by
  rw [e14, q_ArePackets hl, ob_s, q_isFlows, ob_s]; unfold fsV j14_1
  cases hp : pksOk l with
  | false => rfl
  | true => cases hk : flOk k with
    | false => rfl
    | true =>
      have hk' := hk
      simp only [flOk, decide_eq_true_eq] at hk'
      obtain ⟨h1, h2⟩ := pksOk_in hp
      have e2 : (Nat.ble k.toNat k.toNat && Nat.ble (k.toNat * 8) roomMax) = true := by
        rw [Bool.and_eq_true, Nat.ble_eq, Nat.ble_eq]; unfold roomMax; omega
      simp only [Bool.not_true, oif_f, decide_eq_true (show (0 : Int) ≤ k by omega), oif_t, e2, Bool.and_self, if_true]
      refine (range_eq (fun (t : List Int) (i : Int) => (i, t)) l (fun x _ t kk => obind (g160 (d + 3) x k) fun r8 => oif (decide (0 ≤ (r8 : Int))) (oif (Nat.blt ((r8 : Int).toNat) t.length) (obind (t[(r8 : Int).toNat]?) fun n9 => oif (decide (0 ≤ (r8 : Int))) (oif (Nat.blt ((r8 : Int).toNat) t.length) (obind (t[(r8 : Int).toNat]?) fun n10 => kk (t.set ((r8 : Int).toNat) (IntKind.i64.wrap (n9 + x.2.2.2.2.2)))) none) none) none) none) (j14_0 (d + 3)) ?_ ?_ (by rw [fuelN_eq]; omega) (List.replicate k.toNat 0)).trans ?_
      · intro ag t i x hx; have hi := (List.getElem?_eq_some_iff.1 hx).1; simp only [l14_0, l14_0_b, ltl hx, bltl hx, nn, ofNat_toNat, hx, ob_s, oif_t]; rw [wr1 (by omega)]
      · intro ag t; simp only [l14_0, l14_0_b, ltn, oif_f]
      · rw [fs_range hk (fun p hp => q_flowOf hp hk) l 0 (List.replicate k.toNat 0) 0 (by simp) (fun e he => by rw [(List.mem_replicate.1 he).2]; simp) h1 (by omega)]
        rfl

theorem q_sFlowSizes {d : Nat} {l : List Pk} {k : Int} (hl : l.length < 4194304) : g15 (d + 5) l k = some (fsV l k) := by
  rw [e15, q_pkList hl, ob_s, q_pkFlows, ob_s]; unfold fsV j15_1
  cases hp : pksOk l with
  | false => rfl
  | true => cases hk : flOk k with
    | false => rfl
    | true =>
      have hk' := hk
      simp only [flOk, decide_eq_true_eq] at hk'
      obtain ⟨h1, h2⟩ := pksOk_in hp
      have e2 : (Nat.ble k.toNat k.toNat && Nat.ble (k.toNat * 8) roomMax) = true := by
        rw [Bool.and_eq_true, Nat.ble_eq, Nat.ble_eq]; unfold roomMax; omega
      simp only [Bool.not_true, oif_f, decide_eq_true (show (0 : Int) ≤ k by omega), oif_t, e2, Bool.and_self, if_true]
      refine (range_eq (fun (t : List Int) (i : Int) => (i, t)) l (fun x _ t kk => obind (g163 (d + 4) x k) fun r8 => oif (decide (0 ≤ (r8 : Int))) (oif (Nat.blt ((r8 : Int).toNat) t.length) (obind (t[(r8 : Int).toNat]?) fun n9 => oif (decide (0 ≤ (r8 : Int))) (oif (Nat.blt ((r8 : Int).toNat) t.length) (obind (t[(r8 : Int).toNat]?) fun n10 => kk (t.set ((r8 : Int).toNat) (IntKind.i64.wrap (n9 + x.2.2.2.2.2)))) none) none) none) none) (j15_0 (d + 4)) ?_ ?_ (by rw [fuelN_eq]; omega) (List.replicate k.toNat 0)).trans ?_
      · intro ag t i x hx; have hi := (List.getElem?_eq_some_iff.1 hx).1; simp only [l15_0, l15_0_b, ltl hx, bltl hx, nn, ofNat_toNat, hx, ob_s, oif_t]; rw [wr1 (by omega)]
      · intro ag t; simp only [l15_0, l15_0_b, ltn, oif_f]
      · rw [fs_range hk (fun p hp => q_pkFlow hp hk) l 0 (List.replicate k.toNat 0) 0 (by simp) (fun e he => by rw [(List.mem_replicate.1 he).2]; simp) h1 (by omega)]
        rfl

def mkE (a m v : Int) : Int := IntKind.i64.wrap ((BitVec.ofInt IntKind.i64.bits (IntKind.i64.wrap ((BitVec.ofInt IntKind.i64.bits a &&& ~~~BitVec.ofInt IntKind.i64.bits m).toNat : Int)) ||| BitVec.ofInt IntKind.i64.bits (IntKind.i64.wrap ((BitVec.ofInt IntKind.i64.bits v &&& BitVec.ofInt IntKind.i64.bits m).toNat : Int))).toNat : Int)

def mkV (x : Pk) (m v : Int) : Pk × Bool := if pkOk x && (wordOk m && wordOk v) then ((x.1, x.2.1, x.2.2.1, x.2.2.2.1, mkE x.2.2.2.2.1 m v, x.2.2.2.2.2), true) else ((0, 0, 0, 0, 0, 0), false)

theorem q_MarkedPacket {d : Nat} {x : Pk} {m v : Int} : g22 (d + 3) x m v = some (mkV x m v) := by
  rw [e22, q_IsPacket, ob_s]; unfold mkV j22_0 wordOk
  cases hp : pkOk x with
  | false => rfl
  | true =>
    simp only [Bool.not_true, oif_f, Bool.true_and]
    by_cases h1 : m < 0
    · rw [decide_eq_true h1, oif_t, decide_eq_false (show ¬ (0 ≤ m ∧ m ≤ 65535) by omega)]; rfl
    · rw [decide_eq_false h1, oif_f]
      by_cases h2 : m > 65535
      · rw [decide_eq_true h2, oif_t, decide_eq_false (show ¬ (0 ≤ m ∧ m ≤ 65535) by omega)]; rfl
      · rw [decide_eq_false h2, oif_f, decide_eq_true (show (0 ≤ m ∧ m ≤ 65535) by omega)]
        by_cases h3 : v < 0
        · rw [decide_eq_true h3, oif_t, decide_eq_false (show ¬ (0 ≤ v ∧ v ≤ 65535) by omega)]; rfl
        · rw [decide_eq_false h3, oif_f]
          by_cases h4 : v > 65535
          · rw [decide_eq_true h4, oif_t, decide_eq_false (show ¬ (0 ≤ v ∧ v ≤ 65535) by omega)]; rfl
          · rw [decide_eq_false h4, oif_f, decide_eq_true (show (0 ≤ v ∧ v ≤ 65535) by omega)]; rfl

theorem q_sMarkedPacket {d : Nat} {x : Pk} {m v : Int} : g23 (d + 4) x m v = some (mkV x m v) := by
  rw [e23, q_pkGood, ob_s, q_pkWord, ob_s, q_pkWord, ob_s]; unfold mkV j23_0
  cases hp : pkOk x <;> cases hm : wordOk m <;> cases hv : wordOk v <;> rfl

theorem bv_word {n : Int} (h0 : 0 ≤ n) (h1 : n ≤ 65535) : ((BitVec.ofInt 64 n).toNat : Int) = n := by
  rw [BitVec.toNat_ofInt]
  have : n % ((2 ^ 64 : Nat) : Int) = n := Int.emod_eq_of_lt h0 (by omega)
  rw [this]; omega

theorem bv_back (x : BitVec 64) : BitVec.ofInt 64 (x.toNat : Int) = x := by
  apply BitVec.eq_of_toNat_eq
  rw [BitVec.toNat_ofInt]
  have h := x.isLt
  have : ((x.toNat : Int)) % ((2 ^ 64 : Nat) : Int) = (x.toNat : Int) := Int.emod_eq_of_lt (by omega) (by omega)
  rw [this]; simp

theorem bv_and_le (x y : BitVec 64) : (x &&& y).toNat ≤ x.toNat := by rw [BitVec.toNat_and]; exact Nat.and_le_left

theorem mkE_laws {a m v : Int} (ha : wordOk a = true) (hm : wordOk m = true) (hv : wordOk v = true) :
    IntKind.i64.wrap ((BitVec.ofInt IntKind.i64.bits (mkE a m v) &&& BitVec.ofInt IntKind.i64.bits m).toNat : Int) = IntKind.i64.wrap ((BitVec.ofInt IntKind.i64.bits v &&& BitVec.ofInt IntKind.i64.bits m).toNat : Int) ∧
    IntKind.i64.wrap ((BitVec.ofInt IntKind.i64.bits (mkE a m v) &&& ~~~BitVec.ofInt IntKind.i64.bits m).toNat : Int) = IntKind.i64.wrap ((BitVec.ofInt IntKind.i64.bits a &&& ~~~BitVec.ofInt IntKind.i64.bits m).toNat : Int) := by
  simp only [wordOk, decide_eq_true_eq] at ha hm hv
  have e64 : IntKind.i64.bits = 64 := rfl
  unfold mkE
  rw [e64]
  have a1 := bv_word ha.1 ha.2
  have v1 := bv_word hv.1 hv.2
  generalize BitVec.ofInt 64 a = A at *
  generalize BitVec.ofInt 64 v = V at *
  generalize BitVec.ofInt 64 m = M at *
  have l1 := bv_and_le A (~~~M)
  have l2 := bv_and_le V M
  rw [wr (n := ((A &&& ~~~M).toNat : Int)) (by omega) (by omega), wr (n := ((V &&& M).toNat : Int)) (by omega) (by omega), bv_back, bv_back]
  have hA : A.toNat < 2 ^ 16 := by omega
  have hV : V.toNat < 2 ^ 16 := by omega
  have l3 : ((A &&& ~~~M) ||| (V &&& M)).toNat < 2 ^ 16 := by
    rw [BitVec.toNat_or]; exact Nat.or_lt_two_pow (by omega) (by omega)
  rw [wr (n := (((A &&& ~~~M) ||| (V &&& M)).toNat : Int)) (by omega) (by omega), bv_back]
  have i1 : ((A &&& ~~~M) ||| (V &&& M)) &&& M = V &&& M := by
    apply BitVec.eq_of_getLsbD_eq; intro i hi
    simp only [BitVec.getLsbD_and, BitVec.getLsbD_or, BitVec.getLsbD_not, hi, decide_true, Bool.true_and]
    cases A.getLsbD i <;> cases M.getLsbD i <;> cases V.getLsbD i <;> rfl
  have i2 : ((A &&& ~~~M) ||| (V &&& M)) &&& ~~~M = A &&& ~~~M := by
    apply BitVec.eq_of_getLsbD_eq; intro i hi
    simp only [BitVec.getLsbD_and, BitVec.getLsbD_or, BitVec.getLsbD_not, hi, decide_true, Bool.true_and]
    cases A.getLsbD i <;> cases M.getLsbD i <;> cases V.getLsbD i <;> rfl
  rw [i1, i2]
  exact ⟨by rw [wr (by omega) (by omega)], by rw [wr (by omega) (by omega)]⟩

theorem p_packet {d m : Nat} {c : List Int × Int × Int} (hc : CurOk m c) (hm : m + 40 < 4611686018427387904) : Ok (g288 (d + 4) c) fun r => CurOk (m + 16) r.2 := by
  rw [e288]
  (repeat' (first | (with_reducible refine Ok.some ?_; exact CurOk.mono (by assumption) (by omega)) | (with_reducible refine Ok.oif (fun _ => ?_) (fun _ => ?_)) | (with_reducible refine Ok.bind (p_pick (by assumption) (by omega)) (fun r hr => ?_); obtain ⟨_, _, _⟩ := hr) | (with_reducible refine Ok.bind (p_among (by assumption) (by omega) (by simp)) (fun r hr => ?_); obtain ⟨_, _⟩ := hr) | (with_reducible refine Ok.bind (p_one (by assumption) (by omega)) (fun r hr => ?_))))

theorem p_anyPacket {d m : Nat} {c : List Int × Int × Int} (hc : CurOk m c) (hm : m + 40 < 4611686018427387904) : Ok (g165 (d + 5) c) fun r => CurOk (m + 20) r.2 := by
  rw [e165]
  refine Ok.bind (p_packet hc (by omega)) (fun r hr => ?_)
  refine Ok.bind (p_pick hr (by omega)) (fun q hq => ?_)
  obtain ⟨h1, h2, h3⟩ := hq
  have fin : ∀ {a b c' e f : Int} {l : List Int} {r2 : Pk × List Int × Int × Int}, CurOk (m + 20) (l, e, f) → Ok (j165_0 (d + 4) r2 a b c' l e f) fun r => CurOk (m + 20) r.2 := fun h => by
    unfold j165_0; exact Ok.some h
  refine Ok.oif (fun _ => ?_) (fun _ => ?_)
  · refine Ok.bind (p_among h3 (by omega) (by simp)) (fun u hu => Ok.some (hu.2.mono (by omega)))
  refine Ok.oif (fun _ => ?_) (fun _ => ?_)
  · refine Ok.bind (p_among h3 (by omega) (by simp)) (fun u hu => Ok.some (hu.2.mono (by omega)))
  refine Ok.oif (fun _ => ?_) (fun _ => ?_)
  · refine Ok.bind (p_among h3 (by omega) (by simp)) (fun u hu => Ok.some (hu.2.mono (by omega)))
  refine Ok.oif (fun _ => ?_) (fun _ => ?_)
  · refine Ok.bind (p_among h3 (by omega) (by simp)) (fun u hu => fin (hu.2.mono (by omega)))
  refine Ok.oif (fun _ => ?_) (fun _ => ?_)
  · refine Ok.bind (p_among h3 (by omega) (by simp)) (fun u hu => fin (hu.2.mono (by omega)))
  refine Ok.oif (fun _ => ?_) (fun _ => ?_)
  · refine Ok.bind (p_among h3 (by omega) (by simp)) (fun u hu => fin (hu.2.mono (by omega)))
  · exact fin (h3.mono (by omega))

theorem p_pkts {d m : Nat} {c : List Int × Int × Int} (hc : CurOk m c) (hm : m + 4000 < 4611686018427387904) : Ok (g157 (d + 6) c) fun r => r.1.length ≤ 61 ∧ CurOk (m + 3000) r.2 := by
  rw [e157]
  refine Ok.bind (p_pick hc (by omega)) (fun r hr => ?_)
  obtain ⟨h1, h2, h3⟩ := hr
  refine Ok.bind (p_one h3 (by omega)) (fun q hq => ?_)
  have fin0 : ∀ {l : List Pk} {b : Bool} {c : List Int × Int × Int} (n : Nat), n + 40 ≤ m + 3000 → l.length ≤ 61 → (b = true → 0 < l.length) → CurOk n c → Ok (j157_0 (d + 5) l b c.1 c.2.1 c.2.2) fun r => r.1.length ≤ 61 ∧ CurOk (m + 3000) r.2 := by
    intro l b c n hn hl hb hc
    unfold j157_0
    refine Ok.oif (fun h => ?_) (fun h => ?_)
    · have hpos := hb h
      refine Ok.bind (p_pick hc (by omega)) (fun r hr => ?_)
      obtain ⟨h1, h2, h3⟩ := hr
      refine Ok.bind (p_anyPacket h3 (by omega)) (fun q hq => ?_)
      refine Ok.oif (fun _ => ?_) (fun h => by simp only [decide_eq_false_iff_not] at h; omega)
      have hlt : r.1.toNat < l.length := by omega
      rw [blt_of hlt, oif_t, List.getElem?_eq_getElem hlt, ob_s]
      exact Ok.some ⟨by simp; omega, hq.mono (by omega)⟩
    · exact Ok.some ⟨hl, hc.mono (by omega)⟩
  have fin1 : ∀ {l : List Pk} {c : List Int × Int × Int} (n : Nat), n + 100 ≤ m + 3000 → l.length ≤ 61 → CurOk n c → Ok (j157_1 (d + 5) c.1 c.2.1 c.2.2 l) fun r => r.1.length ≤ 61 ∧ CurOk (m + 3000) r.2 := by
    intro l c n hn hl hc
    unfold j157_1
    refine Ok.oif (fun h => ?_) (fun h => ?_)
    · simp only [decide_eq_true_eq] at h
      refine Ok.bind (p_one hc (by omega)) (fun r hr => fin0 (n + 2) (by omega) hl (fun _ => by omega) hr)
    · exact fin0 n (by omega) hl (fun h => by simp at h) hc
  have fin2 : ∀ {k : Int} {c : List Int × Int × Int} (n : Nat), n + 2000 ≤ m + 3000 → k ≤ 61 → CurOk n c → Ok (j157_2 (d + 5) k c.1 c.2.1 c.2.2) fun r => r.1.length ≤ 61 ∧ CurOk (m + 3000) r.2 := by
    intro k c n hn hk hc
    unfold j157_2
    refine iter_ok (fun w s => ∃ i : Nat, s.1.length = i ∧ s.2.1 = (i : Int) ∧ i ≤ 61 ∧ i + w = 61 ∧ CurOk (n + 20 * i) s.2.2) ?_ _ 61 _ (by rw [fuelN_eq]; omega) ⟨0, rfl, rfl, by omega, by omega, hc⟩
    rintro w ⟨l, i', c'⟩ ag ⟨i, e1, e2, e3, e4, e5⟩ hag
    simp only at e1 e2 e5
    subst e2
    simp only [l157_0, l157_0_b]
    refine Ok.oif (fun h => ?_) (fun h => ?_)
    · simp only [decide_eq_true_eq] at h
      refine Ok.bind (p_packet e5 (by omega)) (fun r hr => ?_)
      refine Ok.bind (p_pick hr (by omega)) (fun q hq => ?_)
      obtain ⟨h1, h2, h3⟩ := hq
      rw [room (by simp; omega), oif_t, wr1 (by omega)]
      exact hag (w - 1) _ (by omega) ⟨i + 1, by simp [e1], rfl, by omega, by omega, h3.mono (by omega)⟩
    · exact fin1 (n + 20 * i) (by omega) (by omega) e5
  refine Ok.oif (fun _ => ?_) (fun _ => ?_)
  · refine Ok.bind (p_pick hq (by omega)) (fun u hu => ?_)
    obtain ⟨h4, h5, h6⟩ := hu
    rw [wr (by omega) (by omega)]
    exact fin2 (m + 2 + 2 + 2) (by omega) (by omega) h6
  · exact fin2 (m + 2 + 2) (by omega) (by omega) hq

theorem p_DrawFlowSizes {d : Nat} {x : List Int} (hx : Bytes x) : Ok (g13 (d + 7) x) fun r => r.1.length ≤ 61 := by
  rw [e13]
  refine Ok.bind (p_pkts (CurOk.new hx) (by omega)) (fun r hr => ?_)
  exact Ok.bind (p_among hr.2 (by omega) (by simp)) (fun q hq => Ok.some hr.1)

theorem p_DrawMarkedPacket {d : Nat} {x : List Int} (hx : Bytes x) : Ok (g21 (d + 6) x) fun _ => True := by
  rw [e21]
  refine Ok.bind (p_anyPacket (CurOk.new hx) (by omega)) (fun r hr => ?_)
  refine Ok.bind (p_among hr (by omega) (by simp)) (fun q hq => ?_)
  exact Ok.bind (p_among hq.2 (by omega) (by simp)) (fun q hq => Ok.some trivial)

theorem p_DrawFlowOf {d : Nat} {x : List Int} (hx : Bytes x) : Ok (g24 (d + 6) x) fun _ => True := by
  rw [e24]
  refine Ok.bind (p_anyPacket (CurOk.new hx) (by omega)) (fun r hr => ?_)
  exact Ok.bind (p_among hr (by omega) (by simp)) (fun q hq => Ok.some trivial)

theorem p_DrawArePackets {d : Nat} {x : List Int} (hx : Bytes x) : Ok (g168 (d + 7) x) fun r => r.length ≤ 61 := by
  rw [e168]
  exact Ok.bind (p_pkts (CurOk.new hx) (by omega)) (fun r hr => Ok.some hr.1)

theorem p_DrawTotalSize {d : Nat} {x : List Int} (hx : Bytes x) : Ok (g27 (d + 8) x) fun r => r.length ≤ 61 := by
  rw [e27]
  exact Ok.bind (p_DrawArePackets hx) (fun r hr => Ok.some hr)

end Go.Proofs.Ytmjhgkmiafemfaa
