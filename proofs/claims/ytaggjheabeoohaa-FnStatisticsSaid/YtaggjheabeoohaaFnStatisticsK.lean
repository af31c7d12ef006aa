/-
  What the cursor's functions and the small ones give by value.
  Conditions: the cursor has not been moved 2^62 times.
  Comparing and adding up lists of numbers; ranges.
  Conditions: the lists are shorter than the fuel.
  Fair shares: capacities, levels, shares, in both packages.
  Conditions: none, but those of the cursor for the draws.
  The draws of values.
  Conditions: those of the cursor.
  Fractions, sorted numbers, quantiles, in both packages.
  Conditions: none, but those of the cursor for the draws.
  What is given for the library's function that sorts numbers.
  Conditions: none.
-/
import Derived.Test.YtaggjheabeoohaaFnStatisticsRes
import Derived.Test.YtaggjheabeoohaaPKit2
set_option linter.all false
namespace Go.Proofs.Ytaggjheabeoohaa
open Go.Ev Go.Pv

theorem p_next {d m : Nat} {c : List Int × Int × Int} (hc : CurOk m c) (hm : m < 4611686018427387904) : Ok (g260 (d + 1) c) fun r => 0 ≤ r.1 ∧ r.1 < 256 ∧ CurOk (m + 1) r.2 := by
  obtain ⟨hb, h0, h1⟩ := hc
  obtain ⟨code, at', seed⟩ := c
  simp only at hb h0 h1
  have hw : IntKind.i64.wrap (at' + 1) = at' + 1 := wr (by omega) (by omega)
  rw [e260]
  have fin : ∀ n : Int, (at' < code.length → 0 ≤ n ∧ n < 256) → Ok (j260_0 d (code, at', seed) n) fun r => 0 ≤ r.1 ∧ r.1 < 256 ∧ CurOk (m + 1) r.2 := by
    intro n hn
    unfold j260_0
    simp only [hw]
    refine Ok.oif (fun h => ?_) (fun h => ?_)
    · simp only [decide_eq_true_eq] at h
      obtain ⟨a, b⟩ := hn (by omega)
      exact Ok.some ⟨a, b, hb, by simp only; omega, by simp only; omega⟩
    · exact Ok.some ⟨(seedByte _).1, (seedByte _).2, hb, by simp only; omega, by simp only; omega⟩
  refine Ok.oif (fun h => ?_) (fun h => ?_)
  · simp only [decide_eq_true_eq] at h
    refine Ok.oif (fun _ => ?_) (fun h2 => by simp only [decide_eq_false_iff_not] at h2; omega)
    have hlt : at'.toNat < code.length := by omega
    simp only
    rw [List.getElem?_eq_getElem hlt]
    have hx := hb _ (List.getElem_mem hlt)
    refine Ok.bind (Ok.some rfl) (fun a ha => ?_)
    subst ha
    exact fin _ (fun _ => by rw [wr (by omega) (by omega)]; exact hx)
  · simp only [decide_eq_false_iff_not] at h
    exact fin 0 (fun h' => absurd h' h)

theorem p_pick {d m : Nat} {c : List Int × Int × Int} {n : Int} (hc : CurOk m c) (hm : m + 1 < 4611686018427387904) : Ok (g124 (d + 2) c n) fun r => 0 ≤ r.1 ∧ (r.1 < n ∨ r.1 = 0) ∧ CurOk (m + 2) r.2 := by
  rw [e124]
  refine Ok.oif (fun h => ?_) (fun h => ?_)
  · exact Ok.some ⟨by simp, .inr rfl, hc.mono (by omega)⟩
  · simp only [decide_eq_false_iff_not] at h
    refine Ok.bind (p_next hc (by omega)) (fun r hr => ?_)
    obtain ⟨h1, h2, h3⟩ := hr
    have hn : (n == 0) = false := by simp; omega
    refine Ok.oif (fun h4 => ?_) (fun h4 => ?_)
    · refine Ok.bind (p_next h3 (by omega)) (fun q hq => ?_)
      obtain ⟨h5, h6, h7⟩ := hq
      rw [hn]
      rw [wr (n := r.1 * 256) (by omega) (by omega), wr (by omega) (by omega)]
      exact Ok.some ⟨Int.tmod_nonneg _ (by omega), .inl (Int.tmod_lt_of_pos _ (by omega)), h7.mono (by omega)⟩
    · rw [hn]
      exact Ok.some ⟨Int.tmod_nonneg _ (by omega), .inl (Int.tmod_lt_of_pos _ (by omega)), h3.mono (by omega)⟩

theorem p_among {d m : Nat} {c : List Int × Int × Int} {l : List Int} (hc : CurOk m c) (hm : m + 1 < 4611686018427387904) (hl : 0 < l.length) : Ok (g141 (d + 3) c l) fun r => r.1 ∈ l ∧ CurOk (m + 2) r.2 := by
  rw [e141]
  refine Ok.bind (p_pick hc hm) (fun r hr => ?_)
  obtain ⟨h1, h2, h3⟩ := hr
  refine Ok.oif (fun _ => ?_) (fun h => by simp only [decide_eq_false_iff_not] at h; omega)
  have hlt : r.1.toNat < l.length := by omega
  rw [List.getElem?_eq_getElem hlt]
  exact Ok.bind (Ok.some rfl) (fun a ha => by subst ha; exact Ok.some ⟨List.getElem_mem hlt, h3⟩)

theorem p_one {d m : Nat} {c : List Int × Int × Int} {n : Int} (hc : CurOk m c) (hm : m + 1 < 4611686018427387904) : Ok (g125 (d + 3) c n) fun r => CurOk (m + 2) r.2 := by
  rw [e125]
  exact Ok.bind (p_pick hc hm) (fun r hr => Ok.some hr.2.2)

theorem q_l1In {d : Nat} {x y z : Int} : g142 (d + 1) x y z = some (decide (y ≤ x ∧ x ≤ z)) := by
  rw [e142]; simp only [oif_ss]; congr 1; rw [Bool.eq_iff_iff]; simp

def szOk (s : Int) : Bool := decide (1 ≤ s ∧ s ≤ 1500)

theorem q_l1All {d : Nat} {l : List Int} {a b : Int} (hl : l.length < 4194304) : g264 (d + 2) l a b = some (l.all fun x => decide (a ≤ x ∧ x ≤ b)) := by
  rw [e264]
  refine (range_eq (fun (t : Bool) (i : Int) => (t, i)) l (fun x _ t k => oif (decide (a ≤ x ∧ x ≤ b)) (k t) (some false)) (j264_0 (d + 1)) ?_ ?_ (by rw [fuelN_eq]; exact hl) false).trans ?_
  · intro ag t i x hx; have hi := (List.getElem?_eq_some_iff.1 hx).1; simp only [l264_0, l264_0_b, ltl hx, bltl hx, nn, ofNat_toNat, hx, ob_s, oif_t]; rw [wr1 (by omega)]
    rw [q_l1In, ob_s]; cases decide (a ≤ x ∧ x ≤ b) <;> rfl
  · intro ag t; simp only [l264_0, l264_0_b, ltn, oif_f]
  · rw [rangeR_all (p := fun x => decide (a ≤ x ∧ x ≤ b))]; cases l.all _ <;> rfl

def shOk (l : List Int) : Bool := (l.all fun x => decide (0 ≤ x ∧ x ≤ 1000000)) && decide (1 ≤ ((l.length : Nat) : Int) ∧ ((l.length : Nat) : Int) ≤ 40)

theorem sh_in {l : List Int} (h : shOk l = true) : (∀ x ∈ l, 0 ≤ x ∧ x ≤ 1000000) ∧ 1 ≤ l.length ∧ l.length ≤ 40 := by
  simp only [shOk, Bool.and_eq_true, List.all_eq_true, decide_eq_true_eq] at h
  exact ⟨h.1, by omega, by omega⟩

theorem q_areShares {d : Nat} {l : List Int} (hl : l.length < 4194304) : g146 (d + 1) l = some (shOk l) := by
  rw [e146]
  refine (range_eq (fun (t : Bool) (i : Int) => (t, i)) l (fun x _ t k => oif (decide (0 ≤ x ∧ x ≤ 1000000)) (k t) (some false)) (j146_0 d l) ?_ ?_ (by rw [fuelN_eq]; exact hl) false).trans ?_
  · intro ag t i x hx; have hi := (List.getElem?_eq_some_iff.1 hx).1; simp only [l146_0, l146_0_b, ltl hx, bltl hx, nn, ofNat_toNat, hx, ob_s, oif_t]; rw [wr1 (by omega)]
    by_cases h1 : x < 0
    · rw [decide_eq_true h1, oif_t, decide_eq_false (by omega), oif_f]
    · by_cases h2 : x > 1000000
      · rw [decide_eq_false h1, oif_f, decide_eq_true h2, oif_t, decide_eq_false (by omega), oif_f]
      · rw [decide_eq_false h1, oif_f, decide_eq_false h2, oif_f, decide_eq_true (by omega), oif_t]
  · intro ag t; simp only [l146_0, l146_0_b, ltn, oif_f]
  · rw [rangeR_all (p := fun x => decide (0 ≤ x ∧ x ≤ 1000000))]
    unfold shOk j146_0
    cases l.all _ with
    | false => rfl
    | true =>
      rw [oif_t, Bool.true_and]
      by_cases h1 : ((l.length : Nat) : Int) ≥ 1
      · rw [decide_eq_true h1, oif_t]
        by_cases h2 : ((l.length : Nat) : Int) ≤ 40
        · rw [decide_eq_true h2, decide_eq_true (by omega)]
        · rw [decide_eq_false h2, decide_eq_false (by omega)]
      · rw [decide_eq_false h1, oif_f, decide_eq_false (by omega)]

theorem q_stGood {d : Nat} {l : List Int} (hl : l.length < 4194304) : g149 (d + 3) l = some (shOk l) := by
  rw [e149, q_l1In, ob_s, q_l1All hl, ob_s]; unfold shOk
  by_cases h : 1 ≤ ((l.length : Nat) : Int) ∧ ((l.length : Nat) : Int) ≤ 40
  · rw [decide_eq_true h, oif_t, Bool.and_true]
  · rw [decide_eq_false h, oif_f, Bool.and_false]

def cpOk (n : Int) : Bool := decide (0 ≤ n ∧ n ≤ 10000000)

theorem sum_in {B : Int} : ∀ {l : List Int}, (∀ x ∈ l, 0 ≤ x ∧ x ≤ B) → 0 ≤ l.sum ∧ l.sum ≤ B * l.length
  | [], _ => by simp
  | x :: r, h => by
    have hx := h x (by simp)
    have hr := sum_in (l := r) (fun y hy => h y (by simp [hy]))
    simp only [List.sum_cons, List.length_cons]
    have e : B * ((r.length + 1 : Nat) : Int) = B * (r.length : Int) + B := by rw [Int.natCast_add, Int.mul_add]; simp
    rw [e]; omega

theorem q_sumInts {d : Nat} {l : List Int} (hl : l.length ≤ 100) (h0 : ∀ x ∈ l, 0 ≤ x ∧ x ≤ 1000002) : g151 (d + 1) l = some l.sum := by
  rw [e151]
  have hs := sum_in h0
  refine (range_eq (fun (t : Int) (i : Int) => (t, i)) l (fun x i t k => k (IntKind.i64.wrap (t + x))) (j151_0 d) ?_ ?_ (by rw [fuelN_eq]; omega) 0).trans ?_
  · intro ag t i x hx; have hi := (List.getElem?_eq_some_iff.1 hx).1; simp only [l151_0, l151_0_b, ltl hx, bltl hx, nn, ofNat_toNat, hx, ob_s, oif_t]; rw [wr1 (by omega)]
  · intro ag t; simp only [l151_0, l151_0_b, ltn, oif_f]
  · rw [rangeR_fold (f := fun x _ t => IntKind.i64.wrap (t + x)), foldI_sum l 0 0 (fun x hx => (h0 x hx).1) (by omega) (by omega)]; simp [j151_0]

theorem q_stSum {d : Nat} {l : List Int} (hl : l.length ≤ 100) (h0 : ∀ x ∈ l, 0 ≤ x ∧ x ≤ 1000002) : g153 (d + 1) l = some l.sum := by
  rw [e153]
  have hs := sum_in h0
  refine (range_eq (fun (t : Int) (i : Int) => (t, i)) l (fun x i t k => k (IntKind.i64.wrap (t + x))) (j153_0 d) ?_ ?_ (by rw [fuelN_eq]; omega) 0).trans ?_
  · intro ag t i x hx; have hi := (List.getElem?_eq_some_iff.1 hx).1; simp only [l153_0, l153_0_b, ltl hx, bltl hx, nn, ofNat_toNat, hx, ob_s, oif_t]; rw [wr1 (by omega)]
  · intro ag t; simp only [l153_0, l153_0_b, ltn, oif_f]
  · rw [rangeR_fold (f := fun x _ t => IntKind.i64.wrap (t + x)), foldI_sum l 0 0 (fun x hx => (h0 x hx).1) (by omega) (by omega)]; simp [j153_0]

theorem p_stSum {d : Nat} {l : List Int} (hl : l.length < 4194304) : Ok (g153 (d + 1) l) fun _ => True := by
  rw [e153]
  refine ⟨foldI (fun x _ t => IntKind.i64.wrap (t + x)) l 0 0, (range_eq (fun (t : Int) (i : Int) => (t, i)) l (fun x i t k => k (IntKind.i64.wrap (t + x))) (j153_0 d) ?_ ?_ (by rw [fuelN_eq]; exact hl) 0).trans ?_, trivial⟩
  · intro ag t i x hx; have hi := (List.getElem?_eq_some_iff.1 hx).1; simp only [l153_0, l153_0_b, ltl hx, bltl hx, nn, ofNat_toNat, hx, ob_s, oif_t]; rw [wr1 (by omega)]
  · intro ag t; simp only [l153_0, l153_0_b, ltn, oif_f]
  · rw [rangeR_fold (f := fun x _ t => IntKind.i64.wrap (t + x))]; rfl

def lvl (h : Int) (l : List Int) : List Int := l.map fun x => min h x

theorem mn {a b : Int} : (if a < b then a else b) = min a b := by split <;> omega

theorem lvl_in {h : Int} {l : List Int} (h0 : 0 ≤ h) (hl : ∀ x ∈ l, 0 ≤ x ∧ x ≤ 1000000) : ∀ x ∈ lvl h l, 0 ≤ x ∧ x ≤ 1000000 := fun x hx => by
  obtain ⟨y, hy, rfl⟩ := List.mem_map.1 hx
  have := hl y hy; omega

theorem lvl_le {a b : Int} (h : a ≤ b) : ∀ (l : List Int), (lvl a l).sum ≤ (lvl b l).sum
  | [] => by simp [lvl]
  | x :: r => by
    have := lvl_le h r
    simp only [lvl, List.map_cons, List.sum_cons] at this ⊢; omega

theorem lvl_top {a b : Int} : ∀ {l : List Int}, (∀ x ∈ l, x ≤ a ∧ x ≤ b) → lvl a l = lvl b l
  | [], _ => rfl
  | x :: r, h => by
    have hx := h x (by simp)
    have := lvl_top (l := r) (fun y hy => h y (by simp [hy]))
    simp only [lvl, List.map_cons] at this ⊢
    rw [this, show min a x = min b x by omega]

theorem lvl_zero : ∀ {l : List Int}, (∀ x ∈ l, 0 ≤ x) → (lvl 0 l).sum = 0
  | [], _ => rfl
  | x :: r, h => by
    have hx := h x (by simp)
    have := lvl_zero (l := r) (fun y hy => h y (by simp [hy]))
    simp only [lvl, List.map_cons, List.sum_cons] at this ⊢; omega

/-- The level: bit by bit. -/
def lvF (l : List Int) (c : Int) : Nat → Int → Int
  | 0, o => o
  | k + 1, o => if (lvl (o + 2 ^ k) l).sum ≤ c then lvF l c k (o + 2 ^ k) else lvF l c k o

theorem lvF_ok {l : List Int} {c : Int} : ∀ (k : Nat) (o : Int), 0 ≤ o → (lvl o l).sum ≤ c → (o ≤ lvF l c k o ∧ lvF l c k o ≤ o + 2 ^ k - 1) ∧ (lvl (lvF l c k o) l).sum ≤ c ∧ (∀ h, lvF l c k o < h → h ≤ o + 2 ^ k - 1 → ¬ (lvl h l).sum ≤ c)
  | 0, o, h0, h1 => ⟨by simp [lvF], h1, fun h g1 g2 => by simp only [lvF] at g1; simp at g2; omega⟩
  | k + 1, o, h0, h1 => by
    have hp : (0 : Int) < 2 ^ k := Int.pow_pos (by omega)
    have e : (2 : Int) ^ (k + 1) = 2 ^ k + 2 ^ k := by rw [Int.pow_succ]; omega
    simp only [lvF]
    split
    · rename_i hc
      obtain ⟨a, b, f⟩ := lvF_ok k (o + 2 ^ k) (by omega) hc
      exact ⟨by omega, b, fun h g1 g2 => f h g1 (by omega)⟩
    · rename_i hc
      obtain ⟨a, b, f⟩ := lvF_ok k o h0 h1
      refine ⟨by omega, b, fun h g1 g2 => ?_⟩
      rcases Int.lt_or_le h (o + 2 ^ k) with g | g
      · exact f h g1 (by omega)
      · have := lvl_le g l; omega

def levelV (l : List Int) (c : Int) : Int := lvF l c 21 0

theorem level_ok {l : List Int} {c : Int} (hl : ∀ x ∈ l, 0 ≤ x) (hc : 0 ≤ c) : (0 ≤ levelV l c ∧ levelV l c ≤ 2097151) ∧ (lvl (levelV l c) l).sum ≤ c ∧ ∀ h, levelV l c < h → h ≤ 2097151 → ¬ (lvl h l).sum ≤ c := by
  have e : (2 : Int) ^ 21 = 2097152 := by decide
  have := lvF_ok (l := l) (c := c) 21 0 (by omega) (by rw [lvl_zero hl]; exact hc)
  rw [e] at this
  exact ⟨⟨this.1.1, by unfold levelV; omega⟩, this.2.1, fun h g1 g2 => this.2.2 h g1 (by omega)⟩

/-- One more for the first ones above the level. -/
def giveF (h : Int) : Int → List Int → List Int
  | _, [] => []
  | r, a :: s => if r > 0 ∧ h < a then (min h a + 1) :: giveF h (r - 1) s else min h a :: giveF h r s

theorem giveF_len {h : Int} : ∀ {l : List Int} {r : Int}, (giveF h r l).length = l.length
  | [], _ => rfl
  | a :: s, r => by simp only [giveF]; split <;> simp [giveF_len]

def fsV (l : List Int) (c : Int) : List Int × Bool := if (shOk l && cpOk c) = true then (giveF (levelV l c) (c - (lvl (levelV l c) l).sum) l, true) else ([], false)

theorem fsV_len {l : List Int} {c : Int} : (fsV l c).1.length ≤ l.length := by
  unfold fsV; split
  · simp [giveF_len]
  · simp

theorem gd {l : List Int} {i : Nat} (h : i < l.length) : l[i]? = some (l.getD i 0) := by simp [List.getD, List.getElem?_eq_getElem h]

theorem p_valset {d : Nat} {m0 : Nat} {l : List Int} {r13 : Int × (List Int × Int × Int)} (hc : CurOk m0 r13.2) (hl : l.length ≤ 41) : ∀ (k fuel i : Nat) (s : List Int), i + k = l.length → k < fuel → s.length = l.length → Ok (iterP (l145_1 d l (j145_0 d r13)) fuel ((i : Int), s)) fun r => r.1.length ≤ 41 ∧ CurOk m0 r.2 := by
  intro k
  induction k with
  | zero =>
    intro fuel i s g1 g2 g3
    cases fuel with
    | zero => omega
    | succ f =>
      have : i = l.length := by omega
      subst this
      simp only [iterP, l145_1, l145_1_b, j145_0]
      rw [ltn, oif_f]
      exact Ok.some ⟨by simp only; omega, hc⟩
  | succ k ih =>
    intro fuel i s g1 g2 g3
    cases fuel with
    | zero => omega
    | succ f =>
      have hlt : i < l.length := by omega
      have hx : l[i]? = some l[i] := List.getElem?_eq_getElem hlt
      have hy : s[i]? = some (s.getD i 0) := gd (by omega)
      simp only [iterP, l145_1, l145_1_b, ltl hx, nn, oif_t, ofNat_toNat, bltl hy, hy, ob_s]
      rw [wr1 (by omega)]
      exact ih f (i + 1) _ (by omega) (by omega) (by rw [List.length_set, g3])

theorem p_val1 {d m : Nat} {l : List Int} {c : List Int × Int × Int} (hc : CurOk m c) (hm : m + 100 < 4611686018427387904) (h0 : 1 ≤ l.length) (hl : l.length ≤ 41) : Ok (j145_1 (d + 3) c.1 c.2.1 c.2.2 l) fun r => r.1.length ≤ 41 ∧ CurOk (m + 10) r.2 := by
  unfold j145_1
  refine Ok.bind (p_pick (c := c) hc (by omega)) fun r hr => ?_
  refine Ok.oif (fun _ => ?_) (fun _ => ?_)
  · refine Ok.bind (p_pick hr.2.2 (by omega)) fun q hq => ?_
    refine Ok.bind (p_among hq.2.2 (by omega) (by simp)) fun v hv => ?_
    obtain ⟨a1, a2, _⟩ := hq
    have hlt : q.1.toNat < l.length := by omega
    rw [decide_eq_true a1, oif_t, blt_of hlt, oif_t, List.getElem?_eq_getElem hlt, ob_s]
    exact Ok.some ⟨by simp only [List.length_set]; exact hl, hv.2.mono (by omega)⟩
  refine Ok.oif (fun _ => Ok.some ⟨by simp, hr.2.2.mono (by omega)⟩) (fun _ => ?_)
  refine Ok.oif (fun _ => ?_) (fun _ => Ok.some ⟨hl, hr.2.2.mono (by omega)⟩)
  exact Ok.mono (p_valset hr.2.2 hl l.length fuelN 0 l (by omega) (by rw [fuelN_eq]; omega) rfl) fun r h => ⟨h.1, h.2.mono (by omega)⟩

theorem p_val2 {d m : Nat} {n : Int} {c : List Int × Int × Int} (hc : CurOk m c) (hm : m + 400 < 4611686018427387904) (h0 : 1 ≤ n) (hn : n ≤ 41) : Ok (j145_2 (d + 3) n c.1 c.2.1 c.2.2) fun r => r.1.length ≤ 41 ∧ CurOk (m + 200) r.2 := by
  unfold j145_2
  refine iter_ok (fun k s => k = (n - (s.1.length : Int)).toNat ∧ s.1.length ≤ 41 ∧ CurOk (m + 4 * s.1.length) s.2) ?_ fuelN (n - 0).toNat ([], (c.1, c.2.1, c.2.2)) (by rw [fuelN_eq]; omega) ⟨by simp, by simp, by simpa using hc⟩
  rintro k ⟨out, y⟩ ag ⟨h1, h2, h3⟩ hag
  simp only at h1 h2 h3
  simp only [l145_0, l145_0_b]
  refine Ok.oif (fun hlt => ?_) (fun hge => ?_)
  · simp only [decide_eq_true_eq] at hlt
    refine Ok.bind (p_pick h3 (by omega)) fun r hr => ?_
    refine Ok.bind (p_among hr.2.2 (by omega) (by simp)) fun v hv => ?_
    have hlen : (out ++ [v.1]).length = out.length + 1 := by rw [List.length_append, List.length_singleton]
    have hrm : Nat.ble ((out.length + [v.1].length) * 8) roomMax = true := room (by rw [List.length_singleton]; omega)
    rw [hrm, oif_t]
    exact hag ((n - ((out.length + 1 : Nat) : Int)).toNat) _ (by omega) ⟨by simp only [hlen], by simp only [hlen]; omega, by simp only [hlen]; exact hv.2.mono (by omega)⟩
  · simp only [decide_eq_false_iff_not] at hge
    exact Ok.mono (p_val1 h3 (by omega) (by omega) h2) fun r h => ⟨h.1, h.2.mono (by omega)⟩

theorem p_values {d m : Nat} {c : List Int × Int × Int} (hc : CurOk m c) (hm : m + 500 < 4611686018427387904) : Ok (g145 (d + 4) c) fun r => r.1.length ≤ 41 ∧ CurOk (m + 300) r.2 := by
  rw [e145]
  refine Ok.bind (p_pick hc (by omega)) fun r2 h2 => ?_
  refine Ok.bind (p_one h2.2.2 (by omega)) fun r3 h3 => ?_
  obtain ⟨b1, b2, _⟩ := h2
  refine Ok.oif (fun _ => ?_) (fun _ => ?_)
  · refine Ok.bind (p_pick h3 (by omega)) fun r4 h4 => ?_
    obtain ⟨a1, a2, a3⟩ := h4
    exact Ok.mono (p_val2 a3 (by omega) (by rw [wr (by omega) (by omega)]; omega) (by rw [wr (by omega) (by omega)]; omega)) fun r h => ⟨h.1, h.2.mono (by omega)⟩
  · exact Ok.mono (p_val2 h3 (by omega) (by rw [wr (by omega) (by omega)]; omega) (by rw [wr (by omega) (by omega)]; omega)) fun r h => ⟨h.1, h.2.mono (by omega)⟩

theorem fuel_moreS : ∃ n, fuelN = n + 1 ∧ 199 ≤ n := ⟨4194303, by rw [fuelN_eq], by omega⟩

/-- Euclid's loop. -/
theorem gcdK {β : Type} {K : Int → Option β} {F : (Int × Int → Option β) → Int × Int → Option β} (h0 : ∀ ag x, F ag (x, 0) = K x) (h1 : ∀ ag x y, 0 ≤ x → 0 < y → F ag (x, y) = ag (y, x % y)) :
    ∀ (k fuel x y : Nat), k < fuel → y ≤ x → x * y < 2 ^ k → iterP F fuel ((x : Int), (y : Int)) = K ((Nat.gcd x y : Nat) : Int)
  | _, 0, x, y, h, _, _ => by omega
  | k, fuel + 1, x, 0, h, hy, hk => by simp only [iterP]; rw [show ((0 : Nat) : Int) = 0 from rfl, h0, Nat.gcd_zero_right]
  | 0, fuel + 1, x, y + 1, h, hy, hk => by
    exfalso
    have h2 : 1 * 1 ≤ x * (y + 1) := Nat.mul_le_mul (by omega) (by omega)
    simp at hk; omega
  | k + 1, fuel + 1, x, y + 1, h, hy, hk => by
    simp only [iterP]
    rw [h1 _ _ _ (by omega) (by omega)]
    have e1 : ((x : Int) % ((y + 1 : Nat) : Int)) = ((x % (y + 1) : Nat) : Int) := by push_cast; rfl
    rw [e1]
    have hm : x % (y + 1) < y + 1 := Nat.mod_lt _ (by omega)
    have hhalf : 2 * (x % (y + 1)) ≤ x := by
      have h2 := Nat.div_add_mod x (y + 1)
      have h3 : 1 ≤ x / (y + 1) := (Nat.one_le_div_iff (by omega)).2 hy
      have h4 : (y + 1) * 1 ≤ (y + 1) * (x / (y + 1)) := Nat.mul_le_mul_left _ h3
      omega
    have hlt : (y + 1) * (x % (y + 1)) < 2 ^ k := by
      have h5 : (y + 1) * (2 * (x % (y + 1))) ≤ (y + 1) * x := Nat.mul_le_mul_left _ hhalf
      have h6 : (y + 1) * (2 * (x % (y + 1))) = 2 * ((y + 1) * (x % (y + 1))) := by rw [Nat.mul_left_comm]
      rw [Nat.pow_succ, Nat.mul_comm x] at hk
      omega
    rw [gcdK h0 h1 k fuel (y + 1) (x % (y + 1)) (by omega) (by omega) hlt, Nat.gcd_comm, ← Nat.gcd_rec, Nat.gcd_comm]

theorem gcdAny {β : Type} {K : Int → Option β} {F : (Int × Int → Option β) → Int × Int → Option β} (h0 : ∀ ag x, F ag (x, 0) = K x) (h1 : ∀ ag x y, 0 ≤ x → 0 < y → F ag (x, y) = ag (y, x % y)) {x y : Int} (hx : 0 ≤ x) (hx2 : x ≤ 4000000000000000000) (hy : 0 ≤ y) (hy2 : y ≤ 4000000000000000000) :
    iterP F fuelN (x, y) = K ((Int.gcd x y : Nat) : Int) := by
  obtain ⟨x, rfl⟩ := Int.eq_ofNat_of_zero_le hx
  obtain ⟨y, rfl⟩ := Int.eq_ofNat_of_zero_le hy
  obtain ⟨n, hn, hn99⟩ := fuel_moreS
  rw [hn, Int.gcd_natCast_natCast]
  have hb : ∀ u v : Nat, u ≤ 4000000000000000000 → v ≤ 4000000000000000000 → u * v < 2 ^ 124 := fun u v hu hv =>
    Nat.lt_of_le_of_lt (Nat.mul_le_mul hu hv) (by decide)
  rcases Nat.le_total y x with h | h
  · exact gcdK h0 h1 124 (n + 1) x y (by omega) h (hb x y (by omega) (by omega))
  · rcases Nat.eq_zero_or_pos y with h3 | h3
    · have : x = 0 := by omega
      subst this; subst h3
      exact gcdK h0 h1 124 (n + 1) 0 0 (by omega) (by omega) (by decide)
    · have e := h1 (iterP F n) (x : Int) (y : Int) (by omega) (by omega)
      show F (iterP F n) _ = _
      rw [e]
      have e1 : ((x : Int) % (y : Int)) = ((x % y : Nat) : Int) := by push_cast; rfl
      rw [e1]
      have hm := Nat.mod_lt x h3
      have hl := Nat.mod_le x y
      rw [gcdK h0 h1 124 n y (x % y) (by omega) (by omega) (hb _ _ (by omega) (by omega)), Nat.gcd_comm, ← Nat.gcd_rec, Nat.gcd_comm]

def gI (a b : Int) : Int := ((Int.gcd a b : Nat) : Int)

theorem gI_div {A B : Int} (hA : 0 ≤ A) (hB : 0 < B) : 1 ≤ gI A B ∧ gI A B * (A / gI A B) = A ∧ gI A B * (B / gI A B) = B ∧ 0 ≤ A / gI A B ∧ 1 ≤ B / gI A B ∧ A / gI A B ≤ A ∧ B / gI A B ≤ B := by
  have hg : 0 < Int.gcd A B := Int.gcd_pos_of_ne_zero_right _ (by omega)
  have g1 : (1 : Int) ≤ gI A B := by unfold gI; omega
  have e1 : gI A B * (A / gI A B) = A := Int.mul_ediv_cancel' (Int.gcd_dvd_left ..)
  have e2 : gI A B * (B / gI A B) = B := Int.mul_ediv_cancel' (Int.gcd_dvd_right ..)
  clear hg
  generalize gI A B = g at *
  have p1 : 0 ≤ A / g := Int.ediv_nonneg hA (by omega)
  have p2 : 0 ≤ B / g := Int.ediv_nonneg (by omega) (by omega)
  have p3 : B / g ≠ 0 := fun h => by rw [h] at e2; simp at e2; omega
  exact ⟨g1, e1, e2, p1, by omega, Int.ediv_le_self _ hA, Int.ediv_le_self _ (by omega)⟩

theorem q_gcdS {d : Nat} {x y : Int} (hx : 0 ≤ x) (hx2 : x ≤ 4000000000000000000) (hy : 0 ≤ y) (hy2 : y ≤ 4000000000000000000) : g271 (d + 1) x y = some (gI x y) := by
  rw [e271]
  refine gcdAny (K := fun x => some x) (fun ag x => rfl) (fun ag x y h0 h1 => ?_) hx hx2 hy hy2
  simp only [l271_0, l271_0_b]
  rw [show (y != 0) = true by simp; omega, oif_t, show (y == 0) = false by simp; omega, oif_f, Int.tmod_eq_emod_of_nonneg h0]

theorem q_fraction {d : Nat} {a b : Int} (ha : 0 ≤ a) (ha2 : a ≤ 4000000000000000000) (hb : 0 < b) (hb2 : b ≤ 4000000000000000000) : g152 (d + 2) a b = some (a / gI a b, b / gI a b, true) := by
  rw [e152, q_gcdS ha ha2 (by omega) hb2, ob_s]
  obtain ⟨c1, c2, c3, c4, c5, c6, c7⟩ := gI_div ha hb
  rw [show (gI a b == 0) = false by simp; omega, oif_f, oif_f, Int.tdiv_eq_ediv_of_nonneg ha, Int.tdiv_eq_ediv_of_nonneg (show 0 ≤ b by omega), wr (by omega) (by omega), wr (by omega) (by omega)]

theorem q_stPart {d : Nat} {a b : Int} (ha : 0 ≤ a) (ha2 : a ≤ 4000000000000000000) (hb : 0 < b) (hb2 : b ≤ 4000000000000000000) : g154 (d + 1) a b = some (a / gI a b, b / gI a b) := by
  rw [e154]
  obtain ⟨c1, c2, c3, c4, c5, c6, c7⟩ := gI_div ha hb
  refine (gcdAny (K := j154_0 d a b) (fun ag x => rfl) (fun ag x y h0 h1 => ?_) ha ha2 (by omega) hb2).trans ?_
  · simp only [l154_0, l154_0_b]
    rw [decide_eq_true (show y > 0 by omega), oif_t, show (y == 0) = false by simp; omega, oif_f, Int.tmod_eq_emod_of_nonneg h0]
  · unfold j154_0
    change oif (gI a b == 0) none (oif (gI a b == 0) none (some (IntKind.i64.wrap (a.tdiv (gI a b)), IntKind.i64.wrap (b.tdiv (gI a b))))) = _
    rw [show (gI a b == 0) = false by simp; omega, oif_f, oif_f, Int.tdiv_eq_ediv_of_nonneg ha, Int.tdiv_eq_ediv_of_nonneg (show 0 ≤ b by omega), wr (by omega) (by omega), wr (by omega) (by omega)]

def sqL (l : List Int) : Int := (l.map fun x => x * x).sum

theorem sq_in {B : Int} (hB : 0 ≤ B) : ∀ {l : List Int}, (∀ x ∈ l, 0 ≤ x ∧ x ≤ B) → 0 ≤ sqL l ∧ sqL l ≤ B * B * l.length
  | [], _ => by simp [sqL]
  | x :: r, h => by
    have hx := h x (by simp)
    have hr := sq_in hB (l := r) (fun y hy => h y (by simp [hy]))
    have h1 : 0 ≤ x * x := Int.mul_nonneg hx.1 hx.1
    have h2 : x * x ≤ B * B := Int.mul_le_mul hx.2 hx.2 hx.1 hB
    simp only [sqL, List.map_cons, List.sum_cons, List.length_cons] at hr ⊢
    have e : B * B * ((r.length + 1 : Nat) : Int) = B * B * (r.length : Int) + B * B := by rw [Int.natCast_add, Int.mul_add]; simp
    rw [e]; omega

theorem sq_le : ∀ {l : List Int}, (∀ x ∈ l, 0 ≤ x) → sqL l ≤ l.sum * l.sum ∧ 0 ≤ l.sum
  | [], _ => by simp [sqL]
  | x :: r, h => by
    have hx := h x (by simp)
    obtain ⟨h1, h2⟩ := sq_le (l := r) (fun y hy => h y (by simp [hy]))
    simp only [sqL, List.map_cons, List.sum_cons] at h1 ⊢
    have h3 : 0 ≤ x * r.sum := Int.mul_nonneg hx h2
    have e : (x + r.sum) * (x + r.sum) = x * x + x * r.sum + x * r.sum + r.sum * r.sum := by rw [Int.add_mul, Int.mul_add, Int.mul_add, Int.mul_comm r.sum x]; omega
    rw [e]; omega

theorem dev_nn (x : Int) : ∀ l : List Int, 0 ≤ sqL l - 2 * (x * l.sum) + (l.length : Int) * (x * x)
  | [] => by simp [sqL]
  | y :: r => by
    have h := dev_nn x r
    have h1 : 0 ≤ (x - y) * (x - y) := by
      rcases Int.le_total 0 (x - y) with h | h
      · exact Int.mul_nonneg h h
      · exact Int.mul_nonneg_of_nonpos_of_nonpos h h
    have e1 : (x - y) * (x - y) = x * x - 2 * (x * y) + y * y := by rw [Int.sub_mul, Int.mul_sub, Int.mul_sub, Int.mul_comm y x]; omega
    simp only [sqL, List.map_cons, List.sum_cons, List.length_cons] at h ⊢
    have e2 : x * (y + r.sum) = x * y + x * r.sum := Int.mul_add ..
    have e3 : ((r.length + 1 : Nat) : Int) * (x * x) = (r.length : Int) * (x * x) + x * x := by rw [Int.natCast_add, Int.add_mul]; simp
    rw [e2, e3]; omega

theorem cauchy : ∀ l : List Int, l.sum * l.sum ≤ (l.length : Int) * sqL l
  | [] => by simp [sqL]
  | x :: r => by
    have h := cauchy r
    have h1 := dev_nn x r
    have e : (x + r.sum) * (x + r.sum) = x * x + 2 * (x * r.sum) + r.sum * r.sum := by rw [Int.add_mul, Int.mul_add, Int.mul_add, Int.mul_comm r.sum x]; omega
    have e3 : ((r.length + 1 : Nat) : Int) * (x * x + sqL r) = (r.length : Int) * (x * x) + (r.length : Int) * sqL r + x * x + sqL r := by rw [Int.natCast_add, Int.add_mul, Int.mul_add]; simp; omega
    simp only [sqL, List.map_cons, List.sum_cons, List.length_cons] at h h1 e3 ⊢
    rw [e, e3]; omega

theorem same_sums {v : Int} : ∀ {l : List Int}, (∀ x ∈ l, x = v) → l.sum = (l.length : Int) * v ∧ sqL l = (l.length : Int) * (v * v)
  | [], _ => by simp [sqL]
  | x :: r, h => by
    obtain ⟨h1, h2⟩ := same_sums (l := r) (fun y hy => h y (by simp [hy]))
    have hx := h x (by simp)
    subst hx
    simp only [sqL, List.map_cons, List.sum_cons, List.length_cons] at h1 h2 ⊢
    rw [h1, h2, Int.natCast_add, Int.add_mul, Int.add_mul]
    constructor <;> simp <;> omega

/-- Where a number is put. -/
def insPos (l : List Int) (n : Int) : Nat → Nat
  | 0 => 0
  | k + 1 => if l.getD k 0 > n then insPos l n k else k + 1

theorem insPos_succ (l : List Int) (n : Int) (k : Nat) : insPos l n (k + 1) = if l.getD k 0 > n then insPos l n k else k + 1 := (rfl)

theorem insPos_le (l : List Int) (n : Int) : ∀ k, insPos l n k ≤ k
  | 0 => Nat.le_refl _
  | k + 1 => by unfold insPos; split; · exact Nat.le_succ_of_le (insPos_le l n k)
                · exact Nat.le_refl _

theorem insPos_above (l : List Int) (n : Int) : ∀ k j, insPos l n k ≤ j → j < k → l.getD j 0 > n
  | 0, j, _, h => by omega
  | k + 1, j, h1, h2 => by
    unfold insPos at h1
    split at h1
    · rename_i hc
      by_cases hj : j = k
      · subst hj; exact hc
      · exact insPos_above l n k j h1 (by omega)
    · omega

theorem insPos_below (l : List Int) (n : Int) : ∀ k, insPos l n k = 0 ∨ l.getD (insPos l n k - 1) 0 ≤ n
  | 0 => .inl rfl
  | k + 1 => by
    unfold insPos
    split
    · exact insPos_below l n k
    · right; simp only [Nat.add_sub_cancel]; omega

def insAt (l : List Int) (n : Int) : List Int := l.take (insPos l n l.length) ++ [n] ++ l.drop (insPos l n l.length)

theorem insAt_perm (l : List Int) (n : Int) : (insAt l n).Perm (n :: l) := by
  unfold insAt
  rw [List.append_assoc, List.singleton_append]
  refine List.perm_middle.trans ?_
  rw [List.take_append_drop]

theorem insAt_sorted {l : List Int} {n : Int} (h : l.Pairwise (· ≤ ·)) : (insAt l n).Pairwise (· ≤ ·) := by
  have hle := insPos_le l n l.length
  have hab := insPos_above l n l.length
  have hbe := insPos_below l n l.length
  unfold insAt
  generalize insPos l n l.length = k at *
  have h0 := h
  rw [← List.take_append_drop k l, List.pairwise_append] at h
  obtain ⟨p1, p2, p3⟩ := h
  have ht : ∀ a ∈ l.take k, a ≤ n := by
    intro a ha
    obtain ⟨i, hi, rfl⟩ := List.mem_iff_getElem.1 ha
    rw [List.length_take] at hi
    rw [List.getElem_take]
    rcases hbe with rfl | hb
    · omega
    · rw [List.getD_eq_getElem?_getD, List.getElem?_eq_getElem (show k - 1 < l.length by omega)] at hb
      simp only [Option.getD_some] at hb
      rcases Nat.lt_or_ge i (k - 1) with h2 | h2
      · exact Int.le_trans (List.pairwise_iff_getElem.1 h0 i (k - 1) (by omega) (by omega) h2) hb
      · have : i = k - 1 := by omega
        subst this; exact hb
  have hd : ∀ b ∈ l.drop k, n ≤ b := by
    intro b hb
    obtain ⟨i, hi, rfl⟩ := List.mem_iff_getElem.1 hb
    rw [List.length_drop] at hi
    rw [List.getElem_drop]
    have := hab (k + i) (by omega) (by omega)
    rw [List.getD_eq_getElem?_getD, List.getElem?_eq_getElem (show k + i < l.length by omega)] at this
    simp only [Option.getD_some] at this
    omega
  rw [List.append_assoc, List.singleton_append, List.pairwise_append]
  refine ⟨p1, List.pairwise_cons.2 ⟨hd, p2⟩, fun a ha b hb => ?_⟩
  rcases List.mem_cons.1 hb with rfl | hb
  · exact ht a ha
  · exact p3 a ha b hb

theorem insAt_len (l : List Int) (n : Int) : (insAt l n).length = l.length + 1 := by
  have := (insAt_perm l n).length_eq; simpa using this

theorem foldIns : ∀ (l s : List Int), s.Pairwise (· ≤ ·) → (l.foldl insAt s).Pairwise (· ≤ ·) ∧ (l.foldl insAt s).Perm (l ++ s)
  | [], s, h => ⟨h, List.Perm.refl _⟩
  | x :: r, s, h => by
    obtain ⟨h1, h2⟩ := foldIns r (insAt s x) (insAt_sorted h)
    refine ⟨h1, h2.trans ?_⟩
    refine (List.Perm.append_left r (insAt_perm s x)).trans ?_
    exact List.perm_middle

def sortI' (l : List Int) : List Int := l.mergeSort fun x y => decide (x ≤ y)

theorem sortI'_perm (l : List Int) : (sortI' l).Perm l := List.mergeSort_perm ..

theorem sortI'_sorted (l : List Int) : (sortI' l).Pairwise (· ≤ ·) := by
  have := List.pairwise_mergeSort (le := fun x y : Int => decide (x ≤ y)) (fun a b c h1 h2 => by simp at *; omega) (fun a b => by simp; omega) l
  exact this.imp (fun h => by simpa using h)

theorem sortI'_len (l : List Int) : (sortI' l).length = l.length := List.length_mergeSort l

theorem ins_sort (l : List Int) : l.foldl insAt [] = sortI' l := by
  obtain ⟨h1, h2⟩ := foldIns l [] List.Pairwise.nil
  rw [List.append_nil] at h2
  exact List.Perm.eq_of_pairwise (fun a b _ _ h3 h4 => by omega) h1 (sortI'_sorted l) (h2.trans (sortI'_perm l).symm)

theorem q_stSorted {d : Nat} {l : List Int} (hl : l.length ≤ 1000) : g150 (d + 1) l = some (sortI' l) := by
  rw [e150, ← ins_sort]
  have inner : ∀ (s : List Int) (n : Int) (hsl : s.length ≤ 2000) (K : Int → Int → Bool → Bool → Option (List Int)) (R : Option (List Int)), (∀ k b1 b2, k = insPos s n s.length → K (k : Int) (k : Int) b1 b2 = R) → ∀ (k fuel : Nat), k ≤ s.length → k < fuel → insPos s n k = insPos s n s.length → iterP (l150_1 d s n K) fuel ((k : Nat) : Int) = R := by
    intro s n hsl K R hK k
    induction k with
    | zero =>
      intro fuel hk hf hp
      obtain ⟨fuel, rfl⟩ : ∃ f, fuel = f + 1 := ⟨fuel - 1, by omega⟩
      simp only [iterP, l150_1, l150_1_b]
      rw [decide_eq_false (show ¬ ((0 : Nat) : Int) > 0 by simp), oif_f]
      exact hK 0 _ _ hp
    | succ k ih =>
      intro fuel hk hf hp
      obtain ⟨fuel, rfl⟩ : ∃ f, fuel = f + 1 := ⟨fuel - 1, by omega⟩
      simp only [iterP, l150_1, l150_1_b]
      have e1 : IntKind.i64.wrap (((k + 1 : Nat) : Int) - 1) = ((k : Nat) : Int) := by rw [wr (by omega) (by omega)]; omega
      rw [e1, decide_eq_true (show ((k + 1 : Nat) : Int) > 0 by omega), oif_t, nn, oif_t, ofNat_toNat, blt_of (show k < s.length by omega), oif_t, List.getElem?_eq_getElem (show k < s.length by omega), ob_s]
      rw [insPos_succ] at hp
      rw [List.getD_eq_getElem?_getD, List.getElem?_eq_getElem (show k < s.length by omega)] at hp
      simp only [Option.getD_some] at hp
      by_cases hc : s[k] > n
      · rw [if_pos hc] at hp
        rw [decide_eq_true hc, oif_t]
        exact ih fuel (by omega) (by omega) hp
      · rw [if_neg hc] at hp
        rw [decide_eq_false hc, oif_f]
        exact hK (k + 1) _ _ hp
  have outer : ∀ (k fuel i : Nat) (s : List Int), i + k = l.length → k < fuel → s.length = i → iterP (l150_0 d l (j150_0 d)) fuel (s, (i : Int)) = some ((l.drop i).foldl insAt s) := by
    intro k
    induction k with
    | zero =>
      intro fuel i s hi hf hs
      obtain ⟨fuel, rfl⟩ : ∃ f, fuel = f + 1 := ⟨fuel - 1, by omega⟩
      simp only [iterP, l150_0, l150_0_b, j150_0]
      rw [decide_eq_false (by omega), oif_f, List.drop_of_length_le (by omega)]; rfl
    | succ k ih =>
      intro fuel i s hi hf hs
      obtain ⟨fuel, rfl⟩ : ∃ f, fuel = f + 1 := ⟨fuel - 1, by omega⟩
      have hx : l[i]? = some l[i] := List.getElem?_eq_getElem (by omega)
      simp only [iterP, l150_0, l150_0_b, ltl hx, nn, oif_t, ofNat_toNat, hx, ob_s]
      rw [List.drop_eq_getElem_cons (show i < l.length by omega), List.foldl_cons, ← ih fuel (i + 1) (insAt s l[i]) (by omega) (by omega) (by rw [insAt_len]; omega)]
      refine inner s l[i] (by omega) _ _ ?_ s.length fuelN (Nat.le_refl _) (by rw [fuelN_eq]; omega) rfl
      intro m b1 b2 hm
      have hml : m ≤ s.length := by rw [hm]; exact insPos_le ..
      unfold j150_1
      have r1 : ∀ n, n ≤ 2000 → Nat.ble (n * 8) roomMax = true := fun n hn => by have := room (n := n) (m := 0) (w := 8) (by omega); simpa using this
      rw [nn, oif_t, ofNat_toNat, Nat.ble_eq_true_of_le hml, oif_t, oif_t, Nat.zero_add, wr1 (by omega)]
      rw [r1 _ (by simp; omega), oif_t, r1 _ (by simp; omega), oif_t, r1 _ (by simp; omega), oif_t]
      subst hm
      rfl
  have := outer l.length fuelN 0 [] (by omega) (by rw [fuelN_eq]; omega) rfl
  simpa using this

theorem nilB_sameS {β : Type} {n : Nat} {a b : Option β} (h : n = 0 → a = b) : nilB n a b = b := by
  cases n with
  | zero => rw [h rfl]; simp [nilB, both]
  | succ n => rfl

theorem q_Clone {d : Nat} {l : List Int} (hl : l.length ≤ 1000) : g147 (d + 1) l = some l := by
  rw [e147, nilB_sameS (fun h => ?_), room (by simp; omega), oif_t, List.nil_append]
  rw [List.length_eq_zero_iff.1 h]; rfl

theorem q_Sort {d : Nat} {l : List Int} (h1 : 1 ≤ l.length) (hl : l.length ≤ 1000) : g148 (d + 1) l = some (sortI' l) := by
  rw [e148, Nat.ble_eq_true_of_le h1, Nat.ble_eq_true_of_le (by omega)]; rfl

/-- The place of a quantile. -/
def qnI (n : Nat) (a b : Int) : Nat := ((a * n + b - 1) / b - 1).toNat

theorem qnI_in {n : Nat} {a b : Int} (hn : 1 ≤ n) (ha : 1 ≤ a) (hab : a ≤ b) : qnI n a b < n ∧ ((qnI n a b : Nat) : Int) = (a * n + b - 1) / b - 1 ∧ a * n ≤ ((qnI n a b : Nat) + 1 : Int) * b ∧ ((qnI n a b : Nat) : Int) * b < a * n := by
  have h1 : a * n ≤ b * n := Int.mul_le_mul_of_nonneg_right hab (by omega)
  have h2 : 1 * (n : Int) ≤ a * n := Int.mul_le_mul_of_nonneg_right ha (by omega)
  have h3 : 1 ≤ (a * n + b - 1) / b := by rw [Int.le_ediv_iff_mul_le (by omega)]; omega
  have h4 : (a * n + b - 1) / b < n + 1 := by rw [Int.ediv_lt_iff_lt_mul (by omega), Int.add_mul, Int.mul_comm (n : Int) b]; omega
  have h5 := Int.mul_ediv_add_emod (a * n + b - 1) b
  have h6 := Int.emod_lt_of_pos (a * n + b - 1) (show 0 < b by omega)
  have h7 := Int.emod_nonneg (a * n + b - 1) (show b ≠ 0 by omega)
  unfold qnI
  generalize (a * n + b - 1) / b = q at *
  rw [Int.toNat_of_nonneg (by omega)]
  rw [Int.mul_comm b q] at h5
  have e : (q - 1) * b = q * b - b := by rw [Int.sub_mul, Int.one_mul]
  refine ⟨by omega, rfl, ?_, ?_⟩
  · rw [show q - 1 + 1 = q by omega]; omega
  · rw [e]; omega

def qnV (l : List Int) (a b : Int) : Int × Bool := if shOk l = true ∧ 1 ≤ a ∧ a ≤ b ∧ b ≤ 1000 then ((sortI' l).getD (qnI l.length a b) 0, true) else (0, false)

theorem qn_ix {l : List Int} {a b : Int} (h1 : 1 ≤ l.length) (h2 : l.length ≤ 40) (ha : 1 ≤ a) (hab : a ≤ b) (hb : b ≤ 1000) :
    IntKind.i64.wrap ((IntKind.i64.wrap ((IntKind.i64.wrap ((IntKind.i64.wrap ((IntKind.i64.wrap (a * ((l.length : Nat) : Int))) + b)) - 1)).tdiv b)) - 1) = ((qnI l.length a b : Nat) : Int) ∧ (sortI' l)[qnI l.length a b]? = some ((sortI' l).getD (qnI l.length a b) 0) := by
  obtain ⟨c1, c2, c3, c4⟩ := qnI_in h1 ha hab
  have h3 : a * l.length ≤ 1000 * l.length := Int.mul_le_mul_of_nonneg_right (by omega) (by omega)
  have h4 : 0 ≤ a * l.length := Int.mul_nonneg (by omega) (by omega)
  refine ⟨?_, ?_⟩
  · rw [wr (n := a * l.length) (by omega) (by omega), wr (n := a * l.length + b) (by omega) (by omega), wr (n := a * l.length + b - 1) (by omega) (by omega), Int.tdiv_eq_ediv_of_nonneg (by omega)]
    have h5 := Int.ediv_le_self b (show 0 ≤ a * l.length + b - 1 by omega)
    have h6 := Int.ediv_nonneg (show 0 ≤ a * l.length + b - 1 by omega) (show 0 ≤ b by omega)
    rw [wr (n := (a * l.length + b - 1) / b) (by omega) (by omega), wr (by omega) (by omega), c2]
  · rw [List.getD_eq_getElem?_getD, List.getElem?_eq_getElem (show qnI l.length a b < (sortI' l).length by rw [sortI'_len]; exact c1)]; rfl

theorem q_QuantileOf {d : Nat} {l : List Int} {a b : Int} (hl : l.length < 4194304) : g24 (d + 2) l a b = some (qnV l a b) := by
  rw [e24, q_areShares hl, ob_s]
  unfold qnV
  have no : j24_0 (d + 1) l a b true = some (0, false) := by unfold j24_0; rfl
  cases hs : shOk l with
  | false => rw [if_neg (by simp), show (!false) = true from rfl, oif_t]; exact no
  | true =>
    rw [show (!true) = false from rfl, oif_f]
    by_cases h1 : a < 1
    · rw [decide_eq_true h1, oif_t, no, if_neg (by omega)]
    rw [decide_eq_false h1, oif_f]
    by_cases h2 : a > b
    · rw [decide_eq_true h2, oif_t, no, if_neg (by omega)]
    rw [decide_eq_false h2, oif_f]
    by_cases h3 : b > 1000
    · rw [decide_eq_true h3, no, if_neg (by omega)]
    rw [decide_eq_false h3, if_pos ⟨rfl, by omega, by omega, by omega⟩]
    obtain ⟨_, g1, g2⟩ := sh_in hs
    obtain ⟨i1, i2⟩ := qn_ix (l := l) (a := a) (b := b) g1 g2 (by omega) (by omega) (by omega)
    obtain ⟨c1, c2, c3, c4⟩ := qnI_in (n := l.length) (a := a) (b := b) g1 (by omega) (by omega)
    unfold j24_0
    rw [oif_f, q_Clone (by omega), ob_s, q_Sort g1 (by omega), ob_s, Int.mul_comm ((l.length : Nat) : Int) a, i1, show (b == 0) = false by simp; omega, oif_f, nn, oif_t, ofNat_toNat, blt_of (show qnI l.length a b < (sortI' l).length by rw [sortI'_len]; exact c1), oif_t, i2, ob_s]

theorem q_sQuantileOf {d : Nat} {l : List Int} {a b : Int} (hl : l.length < 4194304) : g25 (d + 4) l a b = some (qnV l a b) := by
  rw [e25, q_stGood hl, ob_s]
  unfold qnV
  have no : j25_0 (d + 3) l a b true = some (0, false) := by unfold j25_0; rfl
  cases hs : shOk l with
  | false => rw [if_neg (by simp), show (!false) = true from rfl, oif_t]; exact no
  | true =>
    rw [show (!true) = false from rfl, oif_f, q_l1In, ob_s]
    by_cases h1 : 1 ≤ b ∧ b ≤ 1000
    case neg => rw [decide_eq_false h1, if_neg (by omega), show (!false) = true from rfl, oif_t]; exact no
    rw [decide_eq_true h1, show (!true) = false from rfl, oif_f, q_l1In, ob_s]
    by_cases h2 : 1 ≤ a ∧ a ≤ b
    case neg => rw [decide_eq_false h2, if_neg (by omega), show (!false) = true from rfl]; exact no
    rw [decide_eq_true h2, show (!true) = false from rfl, if_pos ⟨rfl, by omega, by omega, by omega⟩]
    obtain ⟨_, g1, g2⟩ := sh_in hs
    obtain ⟨i1, i2⟩ := qn_ix (l := l) (a := a) (b := b) g1 g2 (by omega) (by omega) (by omega)
    obtain ⟨c1, c2, c3, c4⟩ := qnI_in (n := l.length) (a := a) (b := b) g1 (by omega) (by omega)
    unfold j25_0
    rw [oif_f, q_stSorted (by omega), ob_s, i1, show (b == 0) = false by simp; omega, oif_f, nn, oif_t, ofNat_toNat, blt_of (show qnI l.length a b < (sortI' l).length by rw [sortI'_len]; exact c1), oif_t, i2, ob_s]

/-- A share. -/
def frV (a b : Int) : Int × Int × Bool := (a / gI a b, b / gI a b, true)

def srV (l : List Int) (i : Int) : Int × Int × Bool := if shOk l = true ∧ 0 ≤ i ∧ i < l.length then (if l.sum = 0 then (0, 1, true) else frV (l.getD i.toNat 0) l.sum) else (0, 0, false)

theorem sh_sum {l : List Int} (h : shOk l = true) : 0 ≤ l.sum ∧ l.sum ≤ 40000000 := by
  obtain ⟨h1, h2, h3⟩ := sh_in h
  have := sum_in h1
  omega

theorem sh_get {l : List Int} (h : shOk l = true) {i : Int} (h0 : 0 ≤ i) (h1 : i < l.length) : l[i.toNat]? = some (l.getD i.toNat 0) ∧ 0 ≤ l.getD i.toNat 0 ∧ l.getD i.toNat 0 ≤ l.sum := by
  have hlt : i.toNat < l.length := by omega
  have hs := (sh_in h).1
  rw [List.getD_eq_getElem?_getD, List.getElem?_eq_getElem hlt]
  exact ⟨rfl, (hs _ (List.getElem_mem hlt)).1, le_sum (fun x hx => (hs x hx).1) (List.getElem_mem hlt)⟩

theorem q_ShareOf {d : Nat} {l : List Int} {i : Int} (hl : l.length < 4194304) : g27 (d + 3) l i = some (srV l i) := by
  rw [e27, q_areShares hl, ob_s]
  unfold srV
  have no : j27_0 (d + 2) l i true = some (0, 0, false) := by unfold j27_0; rfl
  cases hs : shOk l with
  | false => rw [if_neg (by simp), show (!false) = true from rfl, oif_t]; exact no
  | true =>
    rw [show (!true) = false from rfl, oif_f]
    by_cases h1 : i < 0
    · rw [decide_eq_true h1, oif_t, no, if_neg (by omega)]
    rw [decide_eq_false h1, oif_f]
    by_cases h2 : i ≥ ((l.length : Nat) : Int)
    · rw [decide_eq_true h2, no, if_neg (by omega)]
    rw [decide_eq_false h2, if_pos ⟨rfl, by omega, by omega⟩]
    obtain ⟨g0, g1, g2⟩ := sh_in hs
    obtain ⟨s1, s2⟩ := sh_sum hs
    obtain ⟨k1, k2, k3⟩ := sh_get hs (i := i) (by omega) (by omega)
    unfold j27_0
    rw [oif_f, q_sumInts (by omega) (fun x hx => ⟨(g0 x hx).1, by have := (g0 x hx).2; omega⟩), ob_s]
    by_cases h3 : l.sum = 0
    · rw [show (l.sum == 0) = true by simp [h3], oif_t, if_pos h3]
    rw [show (l.sum == 0) = false by simp [h3], oif_f, if_neg h3, decide_eq_true (show 0 ≤ i by omega), oif_t, k1, ob_s, q_fraction k2 (by omega) (by omega) (by omega), ob_s]
    rfl

theorem q_sShareOf {d : Nat} {l : List Int} {i : Int} (hl : l.length < 4194304) : g28 (d + 4) l i = some (srV l i) := by
  rw [e28, q_stGood hl, ob_s]
  unfold srV
  have no : j28_0 (d + 3) l i true = some (0, 0, false) := by unfold j28_0; rfl
  cases hs : shOk l with
  | false => rw [if_neg (by simp), show (!false) = true from rfl, oif_t]; exact no
  | true =>
    obtain ⟨g0, g1, g2⟩ := sh_in hs
    rw [show (!true) = false from rfl, oif_f, q_l1In, ob_s, wr (by omega) (by omega)]
    by_cases h1 : 0 ≤ i ∧ i ≤ ((l.length : Nat) : Int) - 1
    case neg => rw [decide_eq_false h1, if_neg (by omega), show (!false) = true from rfl]; exact no
    rw [decide_eq_true h1, show (!true) = false from rfl, if_pos ⟨rfl, by omega, by omega⟩]
    obtain ⟨s1, s2⟩ := sh_sum hs
    obtain ⟨k1, k2, k3⟩ := sh_get hs (i := i) (by omega) (by omega)
    unfold j28_0
    rw [oif_f, q_stSum (by omega) (fun x hx => ⟨(g0 x hx).1, by have := (g0 x hx).2; omega⟩), ob_s]
    by_cases h3 : l.sum = 0
    · rw [show (l.sum == 0) = true by simp [h3], oif_t, if_pos h3]
    rw [show (l.sum == 0) = false by simp [h3], oif_f, if_neg h3, decide_eq_true (show 0 ≤ i by omega), oif_t, k1, ob_s, ob_s, q_stPart k2 (by omega) (by omega) (by omega), ob_s]
    rfl

def faV (l : List Int) : Int × Int × Bool := if shOk l = true then (if sqL l = 0 then (1, 1, true) else frV (l.sum * l.sum) ((l.length : Int) * sqL l)) else (0, 0, false)

theorem fa_in {l : List Int} (h : shOk l = true) : 0 ≤ sqL l ∧ sqL l ≤ 40000000000000 ∧ 0 ≤ l.sum * l.sum ∧ l.sum * l.sum ≤ 1600000000000000 ∧ 0 ≤ (l.length : Int) * sqL l ∧ (l.length : Int) * sqL l ≤ 1600000000000000 := by
  obtain ⟨g0, g1, g2⟩ := sh_in h
  obtain ⟨s1, s2⟩ := sh_sum h
  have h1 := sq_in (B := 1000000) (by omega) g0
  have h2 : l.sum * l.sum ≤ 40000000 * 40000000 := Int.mul_le_mul s2 s2 s1 (by omega)
  have h3 : (l.length : Int) * sqL l ≤ 40 * 40000000000000 := Int.mul_le_mul (by omega) (by omega) h1.1 (by omega)
  exact ⟨h1.1, by omega, Int.mul_nonneg s1 s1, by omega, Int.mul_nonneg (by omega) h1.1, by omega⟩

theorem foldI_sq : ∀ (l : List Int) (i : Nat) (t : Int), (∀ x ∈ l, 0 ≤ x ∧ x ≤ 1000000) → 0 ≤ t → t + sqL l ≤ 9223372036854775807 → foldI (fun x _ t => IntKind.i64.wrap (t + IntKind.i64.wrap (x * x))) l i t = t + sqL l
  | [], i, t, _, _, _ => by simp [foldI, sqL]
  | x :: r, i, t, h0, ht, hs => by
    have hx := h0 x (by simp)
    have hr := sq_in (B := 1000000) (by omega) (l := r) (fun y hy => h0 y (by simp [hy]))
    have h1 : 0 ≤ x * x := Int.mul_nonneg hx.1 hx.1
    have h2 : x * x ≤ 1000000 * 1000000 := Int.mul_le_mul hx.2 hx.2 hx.1 (by omega)
    have e : sqL (x :: r) = x * x + sqL r := by simp [sqL]
    rw [e] at hs ⊢
    simp only [foldI]
    rw [wr (n := x * x) (by omega) (by omega), wr (by omega) (by omega), foldI_sq r (i + 1) (t + x * x) (fun y hy => h0 y (by simp [hy])) (by omega) (by omega)]
    omega

theorem q_FairnessOf {d : Nat} {l : List Int} (hl : l.length < 4194304) : g29 (d + 3) l = some (faV l) := by
  rw [e29, q_areShares hl, ob_s]
  unfold faV
  cases hs : shOk l with
  | false => rw [if_neg (by simp)]; rfl
  | true =>
    rw [show (!true) = false from rfl, oif_f, if_pos rfl]
    obtain ⟨g0, g1, g2⟩ := sh_in hs
    obtain ⟨s1, s2⟩ := sh_sum hs
    obtain ⟨f1, f2, f3, f4, f5, f6⟩ := fa_in hs
    refine (range_eq (fun (t : Int) (i : Int) => (t, i)) l (fun x i t k => k (IntKind.i64.wrap (t + IntKind.i64.wrap (x * x)))) (j29_0 (d + 2) l) ?_ ?_ (by rw [fuelN_eq]; omega) 0).trans ?_
    · intro ag t i x hx; have hi := (List.getElem?_eq_some_iff.1 hx).1; simp only [l29_0, l29_0_b, ltl hx, bltl hx, nn, ofNat_toNat, hx, ob_s, oif_t]; rw [wr1 (by omega)]
    · intro ag t; simp only [l29_0, l29_0_b, ltn, oif_f]
    · rw [rangeR_fold (f := fun x _ t => IntKind.i64.wrap (t + IntKind.i64.wrap (x * x))), foldI_sq l 0 0 g0 (by omega) (by omega), Int.zero_add]
      unfold j29_0
      by_cases h3 : sqL l = 0
      · rw [show (sqL l == 0) = true by simp [h3], oif_t, if_pos h3]
      rw [show (sqL l == 0) = false by simp [h3], oif_f, if_neg h3, q_sumInts (by omega) (fun x hx => ⟨(g0 x hx).1, by have := (g0 x hx).2; omega⟩), ob_s, wr (n := l.sum * l.sum) (by omega) (by omega), wr (n := (l.length : Int) * sqL l) (by omega) (by omega)]
      have hp : 0 < (l.length : Int) * sqL l := Int.mul_pos (by omega) (by omega)
      rw [q_fraction f3 (by omega) hp (by omega), ob_s]
      rfl

theorem q_sFairnessOf {d : Nat} {l : List Int} (hl : l.length < 4194304) : g30 (d + 4) l = some (faV l) := by
  rw [e30, q_stGood hl, ob_s]
  unfold faV
  cases hs : shOk l with
  | false => rw [if_neg (by simp)]; rfl
  | true =>
    rw [show (!true) = false from rfl, oif_f, if_pos rfl]
    obtain ⟨g0, g1, g2⟩ := sh_in hs
    obtain ⟨s1, s2⟩ := sh_sum hs
    obtain ⟨f1, f2, f3, f4, f5, f6⟩ := fa_in hs
    refine (range_eq (fun (t : Int) (i : Int) => (t, i)) l (fun x i t k => k (IntKind.i64.wrap (t + IntKind.i64.wrap (x * x)))) (j30_0 (d + 3) l) ?_ ?_ (by rw [fuelN_eq]; omega) 0).trans ?_
    · intro ag t i x hx; have hi := (List.getElem?_eq_some_iff.1 hx).1; simp only [l30_0, l30_0_b, ltl hx, bltl hx, nn, ofNat_toNat, hx, ob_s, oif_t]; rw [wr1 (by omega)]
    · intro ag t; simp only [l30_0, l30_0_b, ltn, oif_f]
    · rw [rangeR_fold (f := fun x _ t => IntKind.i64.wrap (t + IntKind.i64.wrap (x * x))), foldI_sq l 0 0 g0 (by omega) (by omega), Int.zero_add]
      unfold j30_0
      by_cases h3 : sqL l = 0
      · rw [show (sqL l == 0) = true by simp [h3], oif_t, if_pos h3]
      rw [show (sqL l == 0) = false by simp [h3], oif_f, if_neg h3, q_stSum (by omega) (fun x hx => ⟨(g0 x hx).1, by have := (g0 x hx).2; omega⟩), ob_s, ob_s, wr (n := l.sum * l.sum) (by omega) (by omega), wr (n := (l.length : Int) * sqL l) (by omega) (by omega)]
      have hp : 0 < (l.length : Int) * sqL l := Int.mul_pos (by omega) (by omega)
      rw [q_stPart f3 (by omega) hp (by omega), ob_s]
      rfl

def meV (l : List Int) : Int × Int × Bool := if shOk l = true then frV l.sum (l.length : Int) else (0, 0, false)

theorem q_MeanOf {d : Nat} {l : List Int} (hl : l.length < 4194304) : g31 (d + 3) l = some (meV l) := by
  rw [e31, q_areShares hl, ob_s]
  unfold meV
  cases hs : shOk l with
  | false => rw [if_neg (by simp)]; rfl
  | true =>
    rw [show (!true) = false from rfl, oif_f, if_pos rfl]
    obtain ⟨g0, g1, g2⟩ := sh_in hs
    obtain ⟨s1, s2⟩ := sh_sum hs
    rw [q_sumInts (by omega) (fun x hx => ⟨(g0 x hx).1, by have := (g0 x hx).2; omega⟩), ob_s, q_fraction s1 (by omega) (by omega) (by omega), ob_s]
    rfl

theorem q_sMeanOf {d : Nat} {l : List Int} (hl : l.length < 4194304) : g32 (d + 4) l = some (meV l) := by
  rw [e32, q_stGood hl, ob_s]
  unfold meV
  cases hs : shOk l with
  | false => rw [if_neg (by simp)]; rfl
  | true =>
    rw [show (!true) = false from rfl, oif_f, if_pos rfl]
    obtain ⟨g0, g1, g2⟩ := sh_in hs
    obtain ⟨s1, s2⟩ := sh_sum hs
    rw [q_stSum (by omega) (fun x hx => ⟨(g0 x hx).1, by have := (g0 x hx).2; omega⟩), ob_s, q_stPart s1 (by omega) (by omega) (by omega), ob_s]
    rfl

def suV (l : List Int) : Int × Bool := if shOk l = true then (l.sum, true) else (0, false)

theorem q_SumOf {d : Nat} {l : List Int} (hl : l.length < 4194304) : g33 (d + 2) l = some (suV l) := by
  rw [e33, q_areShares hl, ob_s]
  unfold suV
  cases hs : shOk l with
  | false => rw [if_neg (by simp)]; rfl
  | true =>
    rw [show (!true) = false from rfl, oif_f, if_pos rfl]
    obtain ⟨g0, g1, g2⟩ := sh_in hs
    rw [q_sumInts (by omega) (fun x hx => ⟨(g0 x hx).1, by have := (g0 x hx).2; omega⟩), ob_s]

theorem q_sSumOf {d : Nat} {l : List Int} (hl : l.length < 4194304) : g34 (d + 4) l = some (suV l) := by
  rw [e34, q_stGood hl, ob_s]
  unfold suV
  cases hs : shOk l with
  | false => rw [if_neg (by simp)]; rfl
  | true =>
    rw [show (!true) = false from rfl, oif_f, if_pos rfl]
    obtain ⟨g0, g1, g2⟩ := sh_in hs
    rw [q_stSum (by omega) (fun x hx => ⟨(g0 x hx).1, by have := (g0 x hx).2; omega⟩), ob_s]

/-- The greatest and the least. -/
def mxV (l : List Int) : Int := foldI (fun x _ t => if x > t then x else t) (l.drop 1) 1 (l.getD 0 0)

def mnV (l : List Int) : Int := foldI (fun x _ t => if x < t then x else t) (l.drop 1) 1 (l.getD 0 0)

theorem mx_fold : ∀ (l : List Int) (i : Nat) (t : Int), let m := foldI (fun x _ t => if x > t then x else t) l i t; (m = t ∨ m ∈ l) ∧ t ≤ m ∧ ∀ x ∈ l, x ≤ m
  | [], i, t => by simp [foldI]
  | x :: r, i, t => by
    have h := mx_fold r (i + 1) (if x > t then x else t)
    simp only at h
    obtain ⟨h1, h2, h3⟩ := h
    simp only [foldI]
    generalize foldI (fun x _ t => if x > t then x else t) r (i + 1) (if x > t then x else t) = m at *
    refine ⟨?_, ?_, ?_⟩
    · rcases h1 with h1 | h1
      · split at h1 <;> simp [h1]
      · right; simp [h1]
    · split at h2 <;> omega
    · intro y hy
      rcases List.mem_cons.1 hy with rfl | hy
      · split at h2 <;> omega
      · exact h3 y hy

theorem mn_fold : ∀ (l : List Int) (i : Nat) (t : Int), let m := foldI (fun x _ t => if x < t then x else t) l i t; (m = t ∨ m ∈ l) ∧ m ≤ t ∧ ∀ x ∈ l, m ≤ x
  | [], i, t => by simp [foldI]
  | x :: r, i, t => by
    have h := mn_fold r (i + 1) (if x < t then x else t)
    simp only at h
    obtain ⟨h1, h2, h3⟩ := h
    simp only [foldI]
    generalize foldI (fun x _ t => if x < t then x else t) r (i + 1) (if x < t then x else t) = m at *
    refine ⟨?_, ?_, ?_⟩
    · rcases h1 with h1 | h1
      · split at h1 <;> simp [h1]
      · right; simp [h1]
    · split at h2 <;> omega
    · intro y hy
      rcases List.mem_cons.1 hy with rfl | hy
      · split at h2 <;> omega
      · exact h3 y hy

theorem mx_in {l : List Int} (h : 1 ≤ l.length) : mxV l ∈ l ∧ ∀ x ∈ l, x ≤ mxV l := by
  cases l with
  | nil => simp at h
  | cons a r =>
    have := mx_fold r 1 a
    simp only at this
    obtain ⟨h1, h2, h3⟩ := this
    simp only [mxV, List.drop_succ_cons, List.drop_zero, List.getD_cons_zero]
    refine ⟨by rcases h1 with h1 | h1 <;> simp [h1], fun x hx => ?_⟩
    rcases List.mem_cons.1 hx with rfl | hx
    · exact h2
    · exact h3 x hx

theorem mn_in {l : List Int} (h : 1 ≤ l.length) : mnV l ∈ l ∧ ∀ x ∈ l, mnV l ≤ x := by
  cases l with
  | nil => simp at h
  | cons a r =>
    have := mn_fold r 1 a
    simp only at this
    obtain ⟨h1, h2, h3⟩ := this
    simp only [mnV, List.drop_succ_cons, List.drop_zero, List.getD_cons_zero]
    refine ⟨by rcases h1 with h1 | h1 <;> simp [h1], fun x hx => ?_⟩
    rcases List.mem_cons.1 hx with rfl | hx
    · exact h2
    · exact h3 x hx

theorem q_Max {d : Nat} {l : List Int} (h1 : 1 ≤ l.length) (hl : l.length < 4194304) : g155 (d + 1) l = some (mxV l) := by
  rw [e155, decide_eq_false (by omega), oif_f, List.getElem?_eq_getElem (show 0 < l.length by omega), ob_s]
  refine (range_from (fun (t : Int) (i : Int) => (t, i)) l (fun x i t k => k (if x > t then x else t)) (j155_0 d) ?_ ?_ fuelN 1 _ (by rw [fuelN_eq]; omega) h1).trans ?_
  · intro ag t i x hx; have hi := (List.getElem?_eq_some_iff.1 hx).1; simp only [l155_0, l155_0_b, ltl hx, bltl hx, nn, ofNat_toNat, hx, ob_s, oif_t]; rw [wr1 (by omega)]
  · intro ag t; simp only [l155_0, l155_0_b, ltn, oif_f]
  · rw [rangeR_fold (f := fun x _ t => if x > t then x else t)]
    unfold j155_0 mxV
    rw [List.getD_eq_getElem?_getD, List.getElem?_eq_getElem (show 0 < l.length by omega)]; rfl

theorem q_Min {d : Nat} {l : List Int} (h1 : 1 ≤ l.length) (hl : l.length < 4194304) : g156 (d + 1) l = some (mnV l) := by
  rw [e156, decide_eq_false (by omega), oif_f, List.getElem?_eq_getElem (show 0 < l.length by omega), ob_s]
  refine (range_from (fun (t : Int) (i : Int) => (t, i)) l (fun x i t k => k (if x < t then x else t)) (j156_0 d) ?_ ?_ fuelN 1 _ (by rw [fuelN_eq]; omega) h1).trans ?_
  · intro ag t i x hx; have hi := (List.getElem?_eq_some_iff.1 hx).1; simp only [l156_0, l156_0_b, ltl hx, bltl hx, nn, ofNat_toNat, hx, ob_s, oif_t]; rw [wr1 (by omega)]
  · intro ag t; simp only [l156_0, l156_0_b, ltn, oif_f]
  · rw [rangeR_fold (f := fun x _ t => if x < t then x else t)]
    unfold j156_0 mnV
    rw [List.getD_eq_getElem?_getD, List.getElem?_eq_getElem (show 0 < l.length by omega)]; rfl

def spV (l : List Int) : Int × Bool := if shOk l = true then (mxV l - mnV l, true) else (0, false)

theorem q_SpreadOf {d : Nat} {l : List Int} (hl : l.length < 4194304) : g35 (d + 2) l = some (spV l) := by
  rw [e35, q_areShares hl, ob_s]
  unfold spV
  cases hs : shOk l with
  | false => rw [if_neg (by simp)]; rfl
  | true =>
    rw [show (!true) = false from rfl, oif_f, if_pos rfl]
    obtain ⟨g0, g1, g2⟩ := sh_in hs
    have h1 := g0 _ (mx_in g1).1
    have h2 := g0 _ (mn_in g1).1
    rw [q_Max g1 hl, ob_s, q_Min g1 hl, ob_s, wr (by omega) (by omega)]

theorem sorted_ends {l : List Int} (h : 1 ≤ l.length) : (sortI' l)[l.length - 1]? = some (mxV l) ∧ (sortI' l)[0]? = some (mnV l) := by
  have hn := sortI'_len l
  have hp := sortI'_perm l
  have hs := sortI'_sorted l
  rw [List.getElem?_eq_getElem (show l.length - 1 < (sortI' l).length by omega), List.getElem?_eq_getElem (show 0 < (sortI' l).length by omega)]
  obtain ⟨m1, m2⟩ := mx_in h
  obtain ⟨n1, n2⟩ := mn_in h
  obtain ⟨i, hi, ei⟩ := List.mem_iff_getElem.1 (hp.mem_iff.2 m1)
  obtain ⟨j, hj, ej⟩ := List.mem_iff_getElem.1 (hp.mem_iff.2 n1)
  have b1 := m2 _ (hp.mem_iff.1 (List.getElem_mem (show l.length - 1 < (sortI' l).length by omega)))
  have b2 := n2 _ (hp.mem_iff.1 (List.getElem_mem (show 0 < (sortI' l).length by omega)))
  have hm : ∀ a b (ha : a < (sortI' l).length) (hb : b < (sortI' l).length), a ≤ b → (sortI' l)[a] ≤ (sortI' l)[b] := by
    intro a b ha hb hab
    rcases Nat.lt_or_ge a b with h | h
    · exact List.pairwise_iff_getElem.1 hs a b ha hb h
    · have : a = b := by omega
      subst this; exact Int.le_refl _
  have c1 := hm i (l.length - 1) hi (by omega) (by omega)
  have c2 := hm 0 j (by omega) hj (by omega)
  exact ⟨by congr 1; omega, by congr 1; omega⟩

theorem q_sSpreadOf {d : Nat} {l : List Int} (hl : l.length < 4194304) : g36 (d + 4) l = some (spV l) := by
  rw [e36, q_stGood hl, ob_s]
  unfold spV
  cases hs : shOk l with
  | false => rw [if_neg (by simp)]; rfl
  | true =>
    rw [show (!true) = false from rfl, oif_f, if_pos rfl]
    obtain ⟨g0, g1, g2⟩ := sh_in hs
    have h1 := g0 _ (mx_in g1).1
    have h2 := g0 _ (mn_in g1).1
    obtain ⟨e1, e2⟩ := sorted_ends g1
    have hn := sortI'_len l
    rw [q_stSorted (by omega), ob_s]
    have e3 : IntKind.i64.wrap ((((sortI' l).length : Nat) : Int) - 1) = ((l.length - 1 : Nat) : Int) := by rw [wr (by omega) (by omega)]; omega
    rw [e3, nn, oif_t, ofNat_toNat, blt_of (show l.length - 1 < (sortI' l).length by omega), oif_t, e1, ob_s, blt_of (show 0 < (sortI' l).length by omega), oif_t, e2, ob_s, wr (by omega) (by omega)]

theorem q_qHas {d : Nat} {l : List Int} {n : Int} (hl : l.length < 4194304) (h : n ∈ l) : g37 (d + 1) l n = some true := by
  rw [e37]
  refine (range_eq (fun (t : Bool) (i : Int) => (t, i)) l (fun x i t k => oif (!(x == n)) (k t) (some true)) (j37_0 d) ?_ ?_ (by rw [fuelN_eq]; exact hl) false).trans ?_
  · intro ag t i x hx; have hi := (List.getElem?_eq_some_iff.1 hx).1; simp only [l37_0, l37_0_b, ltl hx, bltl hx, nn, ofNat_toNat, hx, ob_s, oif_t]; rw [wr1 (by omega)]
    cases (x == n) <;> rfl
  · intro ag t; simp only [l37_0, l37_0_b, ltn, oif_f]
  · rw [rangeR_all (p := fun x => !(x == n))]
    have : (l.all fun x => !(x == n)) = false := by
      rw [Bool.eq_false_iff]
      intro h2
      have := List.all_eq_true.1 h2 n h
      simp at this
    rw [this]; rfl

theorem p_DrawQuantileOf {d : Nat} {x : List Int} (hx : Bytes x) : Ok (g23 (d + 5) x) fun r => r.1.length ≤ 41 := by
  rw [e23]
  refine Ok.bind (p_among (CurOk.new hx) (by omega) (by simp)) fun r2 h2 => ?_
  refine Ok.bind (p_values h2.2 (by omega)) fun r3 h3 => ?_
  exact Ok.bind (p_among h3.2 (by omega) (by simp)) fun r4 h4 => Ok.some h3.1

theorem p_DrawShareOf {d : Nat} {x : List Int} (hx : Bytes x) : Ok (g26 (d + 5) x) fun r => r.1.length ≤ 41 := by
  rw [e26]
  refine Ok.bind (p_values (CurOk.new hx) (by omega)) fun r2 h2 => ?_
  refine Ok.bind (p_pick h2.2 (by omega)) fun r3 h3 => ?_
  exact Ok.bind (p_pick h3.2.2 (by omega)) fun r4 h4 => Ok.some h2.1

theorem ext_only {f : Nat} (h : f ≠ 148) : pvVext f = none ∧ pvExt f = none := by
  constructor
  · unfold pvVext; split <;> simp_all
  · unfold pvExt; split <;> simp_all

theorem extAll : ExtAll Try.prog pvAnn := by
  refine ⟨⟨fun f v h => ?_, fun f h => ?_, fun f h => ?_⟩, fun f e h => ?_⟩
  · by_cases hf : f = 148
    · subst hf
      have h' : pvVext 148 = some v := h
      have h2 : some (fun a => sortV a) = some v := h'
      injection h2 with h2
      subst h2
      exact ⟨_, rfl, sort_ok⟩
    · have : pvVext f = some v := h
      rw [(ext_only hf).1] at this; simp at this
  · by_cases hf : f = 148
    · subst hf
      have h2 : some (fun a => sortV a) = none := h
      simp at h2
    · exact (ext_only hf).2
  · by_cases hf : f = 148
    · subst hf
      have h2 : false = true := h
      simp at h2
    · exact (ext_only hf).1
  · by_cases hf : f = 148
    · subst hf
      have h2 : some sortX = some e := h
      injection h2 with h2
      subst h2
      exact sort_ext
    · have h2 : pvExt f = some e := h
      rw [(ext_only hf).2] at h2; simp at h2

end Go.Proofs.Ytaggjheabeoohaa
