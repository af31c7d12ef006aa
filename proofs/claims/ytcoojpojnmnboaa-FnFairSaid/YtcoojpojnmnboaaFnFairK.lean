/-
  What the cursor's functions and the small ones give by value.
  Conditions: the cursor has not been moved 2^62 times.
  Comparing and adding up lists of numbers; ranges.
  Conditions: the lists are shorter than the fuel.
  Fair shares: capacities, levels, shares, in both packages.
  Conditions: none, but those of the cursor for the draws.
  Weighted shares, least served, fair shares checked, in both packages.
  Conditions: none.
  Least served, fair shares checked, in both packages; the draws.
  Conditions: none, but those of the cursor for the draws.
  The draws of fair shares.
  Conditions: those of the cursor.
-/
import Derived.Test.YtcoojpojnmnboaaFnFairRes
import Derived.Test.YtcoojpojnmnboaaPKit2
set_option linter.all false
namespace Go.Proofs.Ytcoojpojnmnboaa
open Go.Ev Go.Pv

theorem p_next {d m : Nat} {c : List Int × Int × Int} (hc : CurOk m c) (hm : m < 4611686018427387904) : Ok (g352 (d + 1) c) fun r => 0 ≤ r.1 ∧ r.1 < 256 ∧ CurOk (m + 1) r.2 := by
  obtain ⟨hb, h0, h1⟩ := hc
  obtain ⟨code, at', seed⟩ := c
  simp only at hb h0 h1
  have hw : IntKind.i64.wrap (at' + 1) = at' + 1 := wr (by omega) (by omega)
  rw [e352]
  have fin : ∀ n : Int, (at' < code.length → 0 ≤ n ∧ n < 256) → Ok (j352_0 d (code, at', seed) n) fun r => 0 ≤ r.1 ∧ r.1 < 256 ∧ CurOk (m + 1) r.2 := by
    intro n hn
    unfold j352_0
    simp only [hw]
    refine Ok.oif (fun h => ?_) (fun h => ?_)
    · simp only [decide_eq_true_eq] at h
      obtain ⟨a, b⟩ := hn (by omega)
      exact Ok.some ⟨a, b, hb, by simp only; omega, by simp only; omega⟩
    · exact Ok.some ⟨(seedByte _).1, (seedByte _).2, hb, by simp only; omega, by simp only; omega⟩
  refine Ok.oif (fun h => ?_) (fun h => ?_)
  · simp only [decide_eq_true_eq] at h
    refine Ok.oif (fun _ => ?_) (fun h2 => by simp only [decide_eq_false_iff_not] at h2; omega)
    have hlt : at'.toNat < code.length := by omega
    simp only
    rw [List.getElem?_eq_getElem hlt]
    have hx := hb _ (List.getElem_mem hlt)
    refine Ok.bind (Ok.some rfl) (fun a ha => ?_)
    subst ha
    exact fin _ (fun _ => by rw [wr (by omega) (by omega)]; exact hx)
  · simp only [decide_eq_false_iff_not] at h
    exact fin 0 (fun h' => absurd h' h)

theorem p_pick {d m : Nat} {c : List Int × Int × Int} {n : Int} (hc : CurOk m c) (hm : m + 1 < 4611686018427387904) : Ok (g203 (d + 2) c n) fun r => 0 ≤ r.1 ∧ (r.1 < n ∨ r.1 = 0) ∧ CurOk (m + 2) r.2 := by
  rw [e203]
  refine Ok.oif (fun h => ?_) (fun h => ?_)
  · exact Ok.some ⟨by simp, .inr rfl, hc.mono (by omega)⟩
  · simp only [decide_eq_false_iff_not] at h
    refine Ok.bind (p_next hc (by omega)) (fun r hr => ?_)
    obtain ⟨h1, h2, h3⟩ := hr
    have hn : (n == 0) = false := by simp; omega
    refine Ok.oif (fun h4 => ?_) (fun h4 => ?_)
    · refine Ok.bind (p_next h3 (by omega)) (fun q hq => ?_)
      obtain ⟨h5, h6, h7⟩ := hq
      rw [hn]
      rw [wr (n := r.1 * 256) (by omega) (by omega), wr (by omega) (by omega)]
      exact Ok.some ⟨Int.tmod_nonneg _ (by omega), .inl (Int.tmod_lt_of_pos _ (by omega)), h7.mono (by omega)⟩
    · rw [hn]
      exact Ok.some ⟨Int.tmod_nonneg _ (by omega), .inl (Int.tmod_lt_of_pos _ (by omega)), h3.mono (by omega)⟩

theorem p_among {d m : Nat} {c : List Int × Int × Int} {l : List Int} (hc : CurOk m c) (hm : m + 1 < 4611686018427387904) (hl : 0 < l.length) : Ok (g190 (d + 3) c l) fun r => r.1 ∈ l ∧ CurOk (m + 2) r.2 := by
  rw [e190]
  refine Ok.bind (p_pick hc hm) (fun r hr => ?_)
  obtain ⟨h1, h2, h3⟩ := hr
  refine Ok.oif (fun _ => ?_) (fun h => by simp only [decide_eq_false_iff_not] at h; omega)
  have hlt : r.1.toNat < l.length := by omega
  rw [List.getElem?_eq_getElem hlt]
  exact Ok.bind (Ok.some rfl) (fun a ha => by subst ha; exact Ok.some ⟨List.getElem_mem hlt, h3⟩)

theorem p_one {d m : Nat} {c : List Int × Int × Int} {n : Int} (hc : CurOk m c) (hm : m + 1 < 4611686018427387904) : Ok (g230 (d + 3) c n) fun r => CurOk (m + 2) r.2 := by
  rw [e230]
  exact Ok.bind (p_pick hc hm) (fun r hr => Ok.some hr.2.2)

theorem q_l1In {d : Nat} {x y z : Int} : g211 (d + 1) x y z = some (decide (y ≤ x ∧ x ≤ z)) := by
  rw [e211]; simp only [oif_ss]; congr 1; rw [Bool.eq_iff_iff]; simp

theorem q_l1Least {d : Nat} {x y : Int} : g274 (d + 1) x y = some (min x y) := by
  rw [e274]; simp only [oif_ss]; congr 1; split <;> simp_all <;> omega

def szOk (s : Int) : Bool := decide (1 ≤ s ∧ s ≤ 1500)

theorem q_l1Most {d : Nat} {x y : Int} : g204 (d + 1) x y = some (max x y) := by
  rw [e204]; simp only [oif_ss]; congr 1; simp only [decide_eq_true_eq]; split <;> omega

theorem q_qInts {d : Nat} {l : List Int} (hl : l.length < 4194304) : g46 (d + 1) l l = some true := by
  rw [e46, bne_self_eq_false, oif_f]
  refine (range_eq (fun (t : Bool) (i : Int) => (t, i)) l (fun x i t k => k t) (j46_0 d) ?_ ?_ (by rw [fuelN_eq]; exact hl) false).trans ?_
  · intro ag t i x hx; have hi := (List.getElem?_eq_some_iff.1 hx).1; simp only [l46_0, l46_0_b, ltl hx, bltl hx, nn, ofNat_toNat, hx, ob_s, oif_t]; rw [wr1 (by omega)]
    simp only [bne_self_eq_false, oif_f]
  · intro ag t; simp only [l46_0, l46_0_b, ltn, oif_f]
  · rw [rangeR_fold (f := fun _ _ t => t)]; rfl

theorem q_qSum {d : Nat} {l : List Int} (hl : l.length < 4194304) (h0 : ∀ x ∈ l, 0 ≤ x) (hs : l.sum ≤ 9223372036854775807) : g98 (d + 1) l = some l.sum := by
  rw [e98]
  refine (range_eq (fun (t : Int) (i : Int) => (t, i)) l (fun x i t k => k (IntKind.i64.wrap (t + x))) (j98_0 d) ?_ ?_ (by rw [fuelN_eq]; exact hl) 0).trans ?_
  · intro ag t i x hx; have hi := (List.getElem?_eq_some_iff.1 hx).1; simp only [l98_0, l98_0_b, ltl hx, bltl hx, nn, ofNat_toNat, hx, ob_s, oif_t]; rw [wr1 (by omega)]
  · intro ag t; simp only [l98_0, l98_0_b, ltn, oif_f]
  · rw [rangeR_fold (f := fun x _ t => IntKind.i64.wrap (t + x)), foldI_sum l 0 0 h0 (by omega) (by omega)]; simp [j98_0]

theorem q_l1All {d : Nat} {l : List Int} {a b : Int} (hl : l.length < 4194304) : g257 (d + 2) l a b = some (l.all fun x => decide (a ≤ x ∧ x ≤ b)) := by
  rw [e257]
  refine (range_eq (fun (t : Bool) (i : Int) => (t, i)) l (fun x _ t k => oif (decide (a ≤ x ∧ x ≤ b)) (k t) (some false)) (j257_0 (d + 1)) ?_ ?_ (by rw [fuelN_eq]; exact hl) false).trans ?_
  · intro ag t i x hx; have hi := (List.getElem?_eq_some_iff.1 hx).1; simp only [l257_0, l257_0_b, ltl hx, bltl hx, nn, ofNat_toNat, hx, ob_s, oif_t]; rw [wr1 (by omega)]
    rw [q_l1In, ob_s]; cases decide (a ≤ x ∧ x ≤ b) <;> rfl
  · intro ag t; simp only [l257_0, l257_0_b, ltn, oif_f]
  · rw [rangeR_all (p := fun x => decide (a ≤ x ∧ x ≤ b))]; cases l.all _ <;> rfl

def shOk (l : List Int) : Bool := (l.all fun x => decide (0 ≤ x ∧ x ≤ 1000000)) && decide (1 ≤ ((l.length : Nat) : Int) ∧ ((l.length : Nat) : Int) ≤ 40)

theorem sh_in {l : List Int} (h : shOk l = true) : (∀ x ∈ l, 0 ≤ x ∧ x ≤ 1000000) ∧ 1 ≤ l.length ∧ l.length ≤ 40 := by
  simp only [shOk, Bool.and_eq_true, List.all_eq_true, decide_eq_true_eq] at h
  exact ⟨h.1, by omega, by omega⟩

theorem q_areShares {d : Nat} {l : List Int} (hl : l.length < 4194304) : g263 (d + 1) l = some (shOk l) := by
  rw [e263]
  refine (range_eq (fun (t : Bool) (i : Int) => (t, i)) l (fun x _ t k => oif (decide (0 ≤ x ∧ x ≤ 1000000)) (k t) (some false)) (j263_0 d l) ?_ ?_ (by rw [fuelN_eq]; exact hl) false).trans ?_
  · intro ag t i x hx; have hi := (List.getElem?_eq_some_iff.1 hx).1; simp only [l263_0, l263_0_b, ltl hx, bltl hx, nn, ofNat_toNat, hx, ob_s, oif_t]; rw [wr1 (by omega)]
    by_cases h1 : x < 0
    · rw [decide_eq_true h1, oif_t, decide_eq_false (by omega), oif_f]
    · by_cases h2 : x > 1000000
      · rw [decide_eq_false h1, oif_f, decide_eq_true h2, oif_t, decide_eq_false (by omega), oif_f]
      · rw [decide_eq_false h1, oif_f, decide_eq_false h2, oif_f, decide_eq_true (by omega), oif_t]
  · intro ag t; simp only [l263_0, l263_0_b, ltn, oif_f]
  · rw [rangeR_all (p := fun x => decide (0 ≤ x ∧ x ≤ 1000000))]
    unfold shOk j263_0
    cases l.all _ with
    | false => rfl
    | true =>
      rw [oif_t, Bool.true_and]
      by_cases h1 : ((l.length : Nat) : Int) ≥ 1
      · rw [decide_eq_true h1, oif_t]
        by_cases h2 : ((l.length : Nat) : Int) ≤ 40
        · rw [decide_eq_true h2, decide_eq_true (by omega)]
        · rw [decide_eq_false h2, decide_eq_false (by omega)]
      · rw [decide_eq_false h1, oif_f, decide_eq_false (by omega)]

theorem q_stGood {d : Nat} {l : List Int} (hl : l.length < 4194304) : g268 (d + 3) l = some (shOk l) := by
  rw [e268, q_l1In, ob_s, q_l1All hl, ob_s]; unfold shOk
  by_cases h : 1 ≤ ((l.length : Nat) : Int) ∧ ((l.length : Nat) : Int) ≤ 40
  · rw [decide_eq_true h, oif_t, Bool.and_true]
  · rw [decide_eq_false h, oif_f, Bool.and_false]

def cpOk (n : Int) : Bool := decide (0 ≤ n ∧ n ≤ 10000000)

theorem q_isCapacity {d : Nat} {n : Int} : g264 (d + 1) n = some (cpOk n) := by
  rw [e264]; simp only [oif_ss]; congr 1; rw [Bool.eq_iff_iff]; simp [cpOk]

theorem q_stCapacity {d : Nat} {n : Int} : g269 (d + 2) n = some (cpOk n) := by
  rw [e269, q_l1In, ob_s]; rfl

theorem sum_in {B : Int} : ∀ {l : List Int}, (∀ x ∈ l, 0 ≤ x ∧ x ≤ B) → 0 ≤ l.sum ∧ l.sum ≤ B * l.length
  | [], _ => by simp
  | x :: r, h => by
    have hx := h x (by simp)
    have hr := sum_in (l := r) (fun y hy => h y (by simp [hy]))
    simp only [List.sum_cons, List.length_cons]
    have e : B * ((r.length + 1 : Nat) : Int) = B * (r.length : Int) + B := by rw [Int.natCast_add, Int.mul_add]; simp
    rw [e]; omega

theorem q_sumInts {d : Nat} {l : List Int} (hl : l.length ≤ 100) (h0 : ∀ x ∈ l, 0 ≤ x ∧ x ≤ 1000002) : g266 (d + 1) l = some l.sum := by
  rw [e266]
  have hs := sum_in h0
  refine (range_eq (fun (t : Int) (i : Int) => (t, i)) l (fun x i t k => k (IntKind.i64.wrap (t + x))) (j266_0 d) ?_ ?_ (by rw [fuelN_eq]; omega) 0).trans ?_
  · intro ag t i x hx; have hi := (List.getElem?_eq_some_iff.1 hx).1; simp only [l266_0, l266_0_b, ltl hx, bltl hx, nn, ofNat_toNat, hx, ob_s, oif_t]; rw [wr1 (by omega)]
  · intro ag t; simp only [l266_0, l266_0_b, ltn, oif_f]
  · rw [rangeR_fold (f := fun x _ t => IntKind.i64.wrap (t + x)), foldI_sum l 0 0 (fun x hx => (h0 x hx).1) (by omega) (by omega)]; simp [j266_0]

theorem q_stSum {d : Nat} {l : List Int} (hl : l.length ≤ 100) (h0 : ∀ x ∈ l, 0 ≤ x ∧ x ≤ 1000002) : g270 (d + 1) l = some l.sum := by
  rw [e270]
  have hs := sum_in h0
  refine (range_eq (fun (t : Int) (i : Int) => (t, i)) l (fun x i t k => k (IntKind.i64.wrap (t + x))) (j270_0 d) ?_ ?_ (by rw [fuelN_eq]; omega) 0).trans ?_
  · intro ag t i x hx; have hi := (List.getElem?_eq_some_iff.1 hx).1; simp only [l270_0, l270_0_b, ltl hx, bltl hx, nn, ofNat_toNat, hx, ob_s, oif_t]; rw [wr1 (by omega)]
  · intro ag t; simp only [l270_0, l270_0_b, ltn, oif_f]
  · rw [rangeR_fold (f := fun x _ t => IntKind.i64.wrap (t + x)), foldI_sum l 0 0 (fun x hx => (h0 x hx).1) (by omega) (by omega)]; simp [j270_0]

theorem p_stSum {d : Nat} {l : List Int} (hl : l.length < 4194304) : Ok (g270 (d + 1) l) fun _ => True := by
  rw [e270]
  refine ⟨foldI (fun x _ t => IntKind.i64.wrap (t + x)) l 0 0, (range_eq (fun (t : Int) (i : Int) => (t, i)) l (fun x i t k => k (IntKind.i64.wrap (t + x))) (j270_0 d) ?_ ?_ (by rw [fuelN_eq]; exact hl) 0).trans ?_, trivial⟩
  · intro ag t i x hx; have hi := (List.getElem?_eq_some_iff.1 hx).1; simp only [l270_0, l270_0_b, ltl hx, bltl hx, nn, ofNat_toNat, hx, ob_s, oif_t]; rw [wr1 (by omega)]
  · intro ag t; simp only [l270_0, l270_0_b, ltn, oif_f]
  · rw [rangeR_fold (f := fun x _ t => IntKind.i64.wrap (t + x))]; rfl

def lvl (h : Int) (l : List Int) : List Int := l.map fun x => min h x

theorem mn {a b : Int} : (if a < b then a else b) = min a b := by split <;> omega

theorem q_sharesUpTo {d : Nat} {l : List Int} {h : Int} (hl : l.length ≤ 100) : g267 (d + 1) l h = some (lvl h l) := by
  rw [e267]
  have gen : ∀ (k fuel i : Nat) (out : List Int), i + k = l.length → k < fuel → out.length = i → iterP (l267_0 d l h (j267_0 d)) fuel (out, (i : Int)) = some (out ++ lvl h (l.drop i)) := by
    intro k
    induction k with
    | zero =>
      intro fuel i out g1 g2 g3
      cases fuel with
      | zero => omega
      | succ f =>
        have : i = l.length := by omega
        subst this
        simp only [iterP, l267_0, l267_0_b, j267_0]
        rw [ltn, oif_f, List.drop_length]; simp [lvl]
    | succ k ih =>
      intro fuel i out g1 g2 g3
      cases fuel with
      | zero => omega
      | succ f =>
        have hlt : i < l.length := by omega
        have hx : l[i]? = some l[i] := List.getElem?_eq_getElem hlt
        have hrm : Nat.ble ((out.length + 1) * 8) roomMax = true := room (by omega)
        simp only [iterP, l267_0, l267_0_b, mn, List.length_singleton, hrm]
        rw [ltl hx, oif_t, nn, oif_t, ofNat_toNat, hx, ob_s, oif_t, wr1 (by omega), ih f (i + 1) _ (by omega) (by omega) (by rw [List.length_append, List.length_singleton, g3]), List.drop_eq_getElem_cons hlt, List.append_assoc]
        rfl
  have := gen l.length fuelN 0 [] (by omega) (by rw [fuelN_eq]; omega) rfl
  rw [List.drop_zero, List.nil_append] at this
  exact this

theorem q_stLevel {d : Nat} {l : List Int} {h : Int} (hl : l.length ≤ 100) : g271 (d + 2) l h = some (lvl h l) := by
  rw [e271]
  have gen : ∀ (k fuel i : Nat) (out : List Int), i + k = l.length → k < fuel → out.length = i → iterP (l271_0 (d + 1) l h (j271_0 (d + 1))) fuel (out, (i : Int)) = some (out ++ lvl h (l.drop i)) := by
    intro k
    induction k with
    | zero =>
      intro fuel i out g1 g2 g3
      cases fuel with
      | zero => omega
      | succ f =>
        have : i = l.length := by omega
        subst this
        simp only [iterP, l271_0, l271_0_b, j271_0]
        rw [ltn, oif_f, List.drop_length]; simp [lvl]
    | succ k ih =>
      intro fuel i out g1 g2 g3
      cases fuel with
      | zero => omega
      | succ f =>
        have hlt : i < l.length := by omega
        have hx : l[i]? = some l[i] := List.getElem?_eq_getElem hlt
        have hrm : Nat.ble ((out.length + 1) * 8) roomMax = true := room (by omega)
        simp only [iterP, l271_0, l271_0_b, q_l1Least, List.length_singleton, hrm]
        rw [ltl hx, oif_t, nn, oif_t, ofNat_toNat, hx, ob_s, ob_s, oif_t, wr1 (by omega), ih f (i + 1) _ (by omega) (by omega) (by rw [List.length_append, List.length_singleton, g3]), List.drop_eq_getElem_cons hlt, Int.min_comm, List.append_assoc]
        rfl
  have := gen l.length fuelN 0 [] (by omega) (by rw [fuelN_eq]; omega) rfl
  rw [List.drop_zero, List.nil_append] at this
  exact this

theorem lvl_in {h : Int} {l : List Int} (h0 : 0 ≤ h) (hl : ∀ x ∈ l, 0 ≤ x ∧ x ≤ 1000000) : ∀ x ∈ lvl h l, 0 ≤ x ∧ x ≤ 1000000 := fun x hx => by
  obtain ⟨y, hy, rfl⟩ := List.mem_map.1 hx
  have := hl y hy; omega

theorem lvl_le {a b : Int} (h : a ≤ b) : ∀ (l : List Int), (lvl a l).sum ≤ (lvl b l).sum
  | [] => by simp [lvl]
  | x :: r => by
    have := lvl_le h r
    simp only [lvl, List.map_cons, List.sum_cons] at this ⊢; omega

theorem lvl_top {a b : Int} : ∀ {l : List Int}, (∀ x ∈ l, x ≤ a ∧ x ≤ b) → lvl a l = lvl b l
  | [], _ => rfl
  | x :: r, h => by
    have hx := h x (by simp)
    have := lvl_top (l := r) (fun y hy => h y (by simp [hy]))
    simp only [lvl, List.map_cons] at this ⊢
    rw [this, show min a x = min b x by omega]

theorem lvl_zero : ∀ {l : List Int}, (∀ x ∈ l, 0 ≤ x) → (lvl 0 l).sum = 0
  | [], _ => rfl
  | x :: r, h => by
    have hx := h x (by simp)
    have := lvl_zero (l := r) (fun y hy => h y (by simp [hy]))
    simp only [lvl, List.map_cons, List.sum_cons] at this ⊢; omega

/-- The level: bit by bit. -/
def lvF (l : List Int) (c : Int) : Nat → Int → Int
  | 0, o => o
  | k + 1, o => if (lvl (o + 2 ^ k) l).sum ≤ c then lvF l c k (o + 2 ^ k) else lvF l c k o

theorem lvF_ok {l : List Int} {c : Int} : ∀ (k : Nat) (o : Int), 0 ≤ o → (lvl o l).sum ≤ c → (o ≤ lvF l c k o ∧ lvF l c k o ≤ o + 2 ^ k - 1) ∧ (lvl (lvF l c k o) l).sum ≤ c ∧ (∀ h, lvF l c k o < h → h ≤ o + 2 ^ k - 1 → ¬ (lvl h l).sum ≤ c)
  | 0, o, h0, h1 => ⟨by simp [lvF], h1, fun h g1 g2 => by simp only [lvF] at g1; simp at g2; omega⟩
  | k + 1, o, h0, h1 => by
    have hp : (0 : Int) < 2 ^ k := Int.pow_pos (by omega)
    have e : (2 : Int) ^ (k + 1) = 2 ^ k + 2 ^ k := by rw [Int.pow_succ]; omega
    simp only [lvF]
    split
    · rename_i hc
      obtain ⟨a, b, f⟩ := lvF_ok k (o + 2 ^ k) (by omega) hc
      exact ⟨by omega, b, fun h g1 g2 => f h g1 (by omega)⟩
    · rename_i hc
      obtain ⟨a, b, f⟩ := lvF_ok k o h0 h1
      refine ⟨by omega, b, fun h g1 g2 => ?_⟩
      rcases Int.lt_or_le h (o + 2 ^ k) with g | g
      · exact f h g1 (by omega)
      · have := lvl_le g l; omega

def levelV (l : List Int) (c : Int) : Int := lvF l c 21 0

theorem level_ok {l : List Int} {c : Int} (hl : ∀ x ∈ l, 0 ≤ x) (hc : 0 ≤ c) : (0 ≤ levelV l c ∧ levelV l c ≤ 2097151) ∧ (lvl (levelV l c) l).sum ≤ c ∧ ∀ h, levelV l c < h → h ≤ 2097151 → ¬ (lvl h l).sum ≤ c := by
  have e : (2 : Int) ^ 21 = 2097152 := by decide
  have := lvF_ok (l := l) (c := c) 21 0 (by omega) (by rw [lvl_zero hl]; exact hc)
  rw [e] at this
  exact ⟨⟨this.1.1, by unfold levelV; omega⟩, this.2.1, fun h g1 g2 => this.2.2 h g1 (by omega)⟩

/-- One more for the first ones above the level. -/
def giveF (h : Int) : Int → List Int → List Int
  | _, [] => []
  | r, a :: s => if r > 0 ∧ h < a then (min h a + 1) :: giveF h (r - 1) s else min h a :: giveF h r s

theorem giveF_len {h : Int} : ∀ {l : List Int} {r : Int}, (giveF h r l).length = l.length
  | [], _ => rfl
  | a :: s, r => by simp only [giveF]; split <;> simp [giveF_len]

def fsV (l : List Int) (c : Int) : List Int × Bool := if (shOk l && cpOk c) = true then (giveF (levelV l c) (c - (lvl (levelV l c) l).sum) l, true) else ([], false)

theorem fsV_len {l : List Int} {c : Int} : (fsV l c).1.length ≤ l.length := by
  unfold fsV; split
  · simp [giveF_len]
  · simp

theorem give_i {d : Nat} {l : List Int} {h : Int} (hl : ∀ x ∈ l, 0 ≤ x ∧ x ≤ 1000000) (h0 : 0 ≤ h) (hn : l.length ≤ 100) : ∀ (k fuel i : Nat) (r : Int) (pre : List Int), i + k = l.length → k < fuel → pre.length = i → -9000000000 ≤ r → r ≤ 9000000000 → iterP (l101_0 d l (j101_0 d)) fuel (r, (i : Int), pre ++ lvl h (l.drop i)) = some (pre ++ giveF h r (l.drop i), true) := by
  intro k
  induction k with
  | zero =>
    intro fuel i r pre g1 g2 g3 g4 g5
    cases fuel with
    | zero => omega
    | succ f =>
      have : i = l.length := by omega
      subst this
      simp only [iterP, l101_0, l101_0_b, j101_0]
      rw [ltn, oif_f, List.drop_length]; rfl
  | succ k ih =>
    intro fuel i r pre g1 g2 g3 g4 g5
    cases fuel with
    | zero => omega
    | succ f =>
      have hlt : i < l.length := by omega
      have hx : l[i]? = some l[i] := List.getElem?_eq_getElem hlt
      have hin := hl _ (List.getElem_mem hlt)
      have hd : l.drop i = l[i] :: l.drop (i + 1) := List.drop_eq_getElem_cons hlt
      have el : pre ++ lvl h (l.drop i) = pre ++ min h l[i] :: lvl h (l.drop (i + 1)) := by rw [hd]; rfl
      have hp : (pre ++ min h l[i] :: lvl h (l.drop (i + 1)))[i]? = some (min h l[i]) := by
        rw [List.getElem?_append_right (by omega), g3, Nat.sub_self]; rfl
      have hset : ∀ v : Int, (pre ++ min h l[i] :: lvl h (l.drop (i + 1))).set i v = (pre ++ [v]) ++ lvl h (l.drop (i + 1)) := fun v => by
        rw [List.set_append_right _ _ (by omega), g3, Nat.sub_self, List.append_assoc]; rfl
      rw [el]
      have keep : iterP (l101_0 d l (j101_0 d)) f (r, ((i + 1 : Nat) : Int), pre ++ min h l[i] :: lvl h (l.drop (i + 1))) = some (pre ++ min h l[i] :: giveF h r (l.drop (i + 1)), true) := by
        have := ih f (i + 1) r (pre ++ [min h l[i]]) (by omega) (by omega) (by rw [List.length_append, List.length_singleton, g3]) g4 g5
        rw [List.append_assoc, List.append_assoc] at this
        exact this
      have give : 0 < r → iterP (l101_0 d l (j101_0 d)) f (r - 1, ((i + 1 : Nat) : Int), (pre ++ [min h l[i] + 1]) ++ lvl h (l.drop (i + 1))) = some (pre ++ (min h l[i] + 1) :: giveF h (r - 1) (l.drop (i + 1)), true) := fun hr => by
        have := ih f (i + 1) (r - 1) (pre ++ [min h l[i] + 1]) (by omega) (by omega) (by rw [List.length_append, List.length_singleton, g3]) (by omega) (by omega)
        rw [this, List.append_assoc]; rfl
      simp only [iterP, l101_0, l101_0_b, ofNat_toNat, nn, oif_t, ltl hx, hx, ob_s, bltl hp, hp, hset, j101_1]
      rw [hd, wr1 (by omega), wr (n := min h l[i] + 1) (by omega) (by omega), wr (n := r - 1) (by omega) (by omega)]
      simp only [giveF]
      by_cases hr : r > 0
      · rw [decide_eq_true hr, oif_t]
        by_cases hc : h < l[i]
        · rw [decide_eq_true (by omega), oif_t, if_pos ⟨hr, hc⟩]; exact give hr
        · rw [decide_eq_false (by omega), oif_f, if_neg (fun h => hc h.2)]; exact keep
      · rw [decide_eq_false hr, oif_f, oif_f, if_neg (fun h => hr h.1)]; exact keep

theorem give_s {d : Nat} {l : List Int} {h : Int} (hl : ∀ x ∈ l, 0 ≤ x ∧ x ≤ 1000000) (h0 : 0 ≤ h) (hn : l.length ≤ 100) : ∀ (k fuel i : Nat) (r : Int) (pre : List Int), i + k = l.length → k < fuel → pre.length = i → -9000000000 ≤ r → r ≤ 9000000000 → iterP (l102_1 d l h (j102_0 d)) fuel (r, (i : Int), pre ++ lvl h (l.drop i)) = some (pre ++ giveF h r (l.drop i), true) := by
  intro k
  induction k with
  | zero =>
    intro fuel i r pre g1 g2 g3 g4 g5
    cases fuel with
    | zero => omega
    | succ f =>
      have : i = l.length := by omega
      subst this
      simp only [iterP, l102_1, l102_1_b, j102_0]
      rw [ltn, oif_f, List.drop_length]; rfl
  | succ k ih =>
    intro fuel i r pre g1 g2 g3 g4 g5
    cases fuel with
    | zero => omega
    | succ f =>
      have hlt : i < l.length := by omega
      have hx : l[i]? = some l[i] := List.getElem?_eq_getElem hlt
      have hin := hl _ (List.getElem_mem hlt)
      have hd : l.drop i = l[i] :: l.drop (i + 1) := List.drop_eq_getElem_cons hlt
      have el : pre ++ lvl h (l.drop i) = pre ++ min h l[i] :: lvl h (l.drop (i + 1)) := by rw [hd]; rfl
      have hp : (pre ++ min h l[i] :: lvl h (l.drop (i + 1)))[i]? = some (min h l[i]) := by
        rw [List.getElem?_append_right (by omega), g3, Nat.sub_self]; rfl
      have hset : ∀ v : Int, (pre ++ min h l[i] :: lvl h (l.drop (i + 1))).set i v = (pre ++ [v]) ++ lvl h (l.drop (i + 1)) := fun v => by
        rw [List.set_append_right _ _ (by omega), g3, Nat.sub_self, List.append_assoc]; rfl
      rw [el]
      have keep : iterP (l102_1 d l h (j102_0 d)) f (r, ((i + 1 : Nat) : Int), pre ++ min h l[i] :: lvl h (l.drop (i + 1))) = some (pre ++ min h l[i] :: giveF h r (l.drop (i + 1)), true) := by
        have := ih f (i + 1) r (pre ++ [min h l[i]]) (by omega) (by omega) (by rw [List.length_append, List.length_singleton, g3]) g4 g5
        rw [List.append_assoc, List.append_assoc] at this
        exact this
      have give : 0 < r → iterP (l102_1 d l h (j102_0 d)) f (r - 1, ((i + 1 : Nat) : Int), (pre ++ [min h l[i] + 1]) ++ lvl h (l.drop (i + 1))) = some (pre ++ (min h l[i] + 1) :: giveF h (r - 1) (l.drop (i + 1)), true) := fun hr => by
        have := ih f (i + 1) (r - 1) (pre ++ [min h l[i] + 1]) (by omega) (by omega) (by rw [List.length_append, List.length_singleton, g3]) (by omega) (by omega)
        rw [this, List.append_assoc]; rfl
      simp only [iterP, l102_1, l102_1_b, ofNat_toNat, nn, oif_t, ltl hx, hx, ob_s, bltl hp, hp, hset, j102_1]
      rw [hd, wr1 (by omega), wr (n := min h l[i] + 1) (by omega) (by omega), wr (n := r - 1) (by omega) (by omega)]
      simp only [giveF]
      by_cases hr : r > 0
      · rw [decide_eq_true hr, oif_t]
        by_cases hc : h < l[i]
        · rw [decide_eq_true (by omega), oif_t, if_pos ⟨hr, hc⟩]; exact give hr
        · rw [decide_eq_false (by omega), oif_f, if_neg (fun h => hc h.2)]; exact keep
      · rw [decide_eq_false hr, oif_f, oif_f, if_neg (fun h => hr h.1)]; exact keep

theorem q_FairShares {d : Nat} {l : List Int} {c : Int} (hl : l.length < 4194304) : g101 (d + 4) l c = some (fsV l c) := by
  rw [e101, q_areShares hl, ob_s]; unfold fsV j101_2
  cases hs : shOk l with
  | false => rfl
  | true =>
  rw [Bool.not_true, oif_f, q_isCapacity, ob_s]
  cases hc : cpOk c with
  | false => rfl
  | true =>
  rw [Bool.not_true, oif_f, Bool.and_self, if_pos rfl]
  obtain ⟨s1, s2, s3⟩ := sh_in hs
  have hc2 := hc
  simp only [cpOk, decide_eq_true_eq] at hc2
  obtain ⟨⟨v1, v2⟩, v3, v4⟩ := level_ok (fun x hx => (s1 x hx).1) hc2.1
  generalize levelV l c = L at v1 v2 v3 v4 ⊢
  have big : ∀ h : Int, 1000000 ≤ h → lvl h l = lvl 1000000 l := fun h hh => lvl_top fun x hx => by have := s1 x hx; omega
  have hM : lvl (min L 1000000) l = lvl L l := by
    rcases Int.lt_or_le L 1000000 with h | h
    · rw [show min L 1000000 = L by omega]
    · rw [show min L 1000000 = 1000000 by omega, big L h]
  have hG : ∀ (m : List Int) (r : Int), (∀ x ∈ m, 0 ≤ x ∧ x ≤ 1000000) → giveF (min L 1000000) r m = giveF L r m := by
    intro m
    induction m with
    | nil => intro r _; rfl
    | cons a m ih =>
      intro r hm
      have ha := hm a (by simp)
      have e1 : min (min L 1000000) a = min L a := by omega
      have e2 : (min L 1000000 < a) ↔ (L < a) := by omega
      simp only [giveF, e1, e2]
      rw [ih _ (fun x hx => hm x (by simp [hx])), ih _ (fun x hx => hm x (by simp [hx]))]
  have test : ∀ h : Int, 0 ≤ h → h ≤ 1000000 → ((lvl h l).sum > c ↔ min L 1000000 + 1 ≤ h) := by
    intro h h0 h1
    constructor
    · intro g
      rcases Int.lt_or_le (min L 1000000) h with g2 | g2
      · omega
      · have := lvl_le (show h ≤ L by omega) l; omega
    · intro g
      have := v4 h (by omega) (by omega); omega
  have hll : ∀ h : Int, 0 ≤ h → ∀ x ∈ lvl h l, 0 ≤ x ∧ x ≤ 1000002 := fun h h0 x hx => by have := lvl_in h0 s1 x hx; omega
  have hlen : ∀ h : Int, (lvl h l).length ≤ 100 := fun h => by simp only [lvl, List.length_map]; omega
  refine (search_ok (c := min L 1000000 + 1) (top := 1000000) (K := fun r => j101i220_0 (d + 1) l c r) ?_ ?_ fuelN 0 1000000 (by omega) (by omega) (by omega) (by omega) (by rw [fuelN_eq]; omega)).trans ?_
  · intro ag lo hi g1 g2 g3
    have hm : 0 ≤ (lo + hi) / 2 ∧ (lo + hi) / 2 ≤ 1000000 := by omega
    simp only [l101i220_0, l101i220_0_b]
    rw [decide_eq_true g3, oif_t, wr (n := lo + hi) (by omega) (by omega), Int.tdiv_eq_ediv_of_nonneg (by omega), wr (n := (lo + hi) / 2) (by omega) (by omega), wr (n := (lo + hi) / 2 - 1) (by omega) (by omega), wr (n := (lo + hi) / 2 + 1) (by omega) (by omega), q_sharesUpTo (by omega), ob_s, q_sumInts (hlen _) (hll _ hm.1), ob_s]
    have ht := test _ hm.1 hm.2
    by_cases hc : min L 1000000 + 1 ≤ (lo + hi) / 2
    · rw [decide_eq_true (ht.2 hc), oif_t, if_pos hc]
    · rw [decide_eq_false (fun h => hc (ht.1 h)), oif_f, if_neg hc]
  · intro ag lo hi g1 g2
    simp only [l101i220_0, l101i220_0_b]
    rw [decide_eq_false (by omega), oif_f]
  · have hs2 := sum_in (lvl_in (h := L) v1 s1)
    unfold j101i220_0
    rw [wr (n := min L 1000000 + 1 - 1) (by omega) (by omega), show min L 1000000 + 1 - 1 = min L 1000000 by omega, q_sharesUpTo (by omega), ob_s, q_sumInts (hlen _) (hll _ (by omega)), ob_s, hM, wr (by omega) (by omega)]
    have := give_i (d := d + 1) (h := min L 1000000) s1 (by omega) (by omega) l.length fuelN 0 (c - (lvl L l).sum) [] (by omega) (by rw [fuelN_eq]; omega) rfl (by omega) (by omega)
    rw [List.drop_zero, List.nil_append, List.nil_append, hM, hG l _ s1] at this
    exact this

theorem q_sFairShares {d : Nat} {l : List Int} {c : Int} (hl : l.length < 4194304) : g102 (d + 4) l c = some (fsV l c) := by
  rw [e102, q_stGood hl, ob_s]; unfold fsV j102_3
  cases hs : shOk l with
  | false => rfl
  | true =>
  rw [Bool.not_true, oif_f, q_stCapacity, ob_s]
  cases hc : cpOk c with
  | false => rfl
  | true =>
  rw [Bool.not_true, oif_f, Bool.and_self, if_pos rfl]
  obtain ⟨s1, s2, s3⟩ := sh_in hs
  have hc2 := hc
  simp only [cpOk, decide_eq_true_eq] at hc2
  have hll : ∀ h : Int, 0 ≤ h → ∀ x ∈ lvl h l, 0 ≤ x ∧ x ≤ 1000002 := fun h h0 x hx => by have := lvl_in h0 s1 x hx; omega
  have hlen : ∀ h : Int, (lvl h l).length ≤ 100 := fun h => by simp only [lvl, List.length_map]; omega
  have gen : ∀ (k fuel : Nat) (o : Int), k < fuel → k ≤ 21 → 0 ≤ o → o + 2 ^ k ≤ 2097152 → iterP (l102_0 (d + 3) l c (j102_2 (d + 3) l c)) fuel (o, if k = 0 then 0 else 2 ^ (k - 1)) = j102_2 (d + 3) l c (lvF l c k o) := by
    intro k
    induction k with
    | zero =>
      intro fuel o g1 _ _ _
      cases fuel with
      | zero => omega
      | succ f =>
        simp only [iterP, l102_0, l102_0_b, lvF, if_true]
        rw [decide_eq_false (by omega), oif_f]
    | succ k ih =>
      intro fuel o g1 g2 g3 g4
      cases fuel with
      | zero => omega
      | succ f =>
        have hp : (0 : Int) < 2 ^ k := Int.pow_pos (by omega)
        have e : (2 : Int) ^ (k + 1) = 2 ^ k + 2 ^ k := by rw [Int.pow_succ]; omega
        have hh : ((2 : Int) ^ k).tdiv 2 = if k = 0 then 0 else 2 ^ (k - 1) := by
          cases k with
          | zero => rfl
          | succ k =>
            rw [Int.tdiv_eq_ediv_of_nonneg (by omega), if_neg (by omega), Nat.add_sub_cancel, Int.pow_succ]
            exact Int.mul_ediv_cancel _ (by omega)
        have hb : 0 ≤ ((2 : Int) ^ k).tdiv 2 ∧ ((2 : Int) ^ k).tdiv 2 ≤ 2 ^ k := by
          rw [Int.tdiv_eq_ediv_of_nonneg (by omega)]; omega
        rw [if_neg (by omega), Nat.add_sub_cancel]
        simp only [iterP, l102_0, l102_0_b, lvF]
        rw [decide_eq_true (show (2 : Int) ^ k > 0 from hp), oif_t, wr (n := o + 2 ^ k) (by omega) (by omega), wr (n := ((2 : Int) ^ k).tdiv 2) (by omega) (by omega), hh, q_stLevel (by omega), ob_s, q_stSum (hlen _) (hll _ (by omega)), ob_s]
        by_cases hc : (lvl (o + 2 ^ k) l).sum ≤ c
        · rw [decide_eq_true hc, oif_t, if_pos hc]
          exact ih f _ (by omega) (by omega) (by omega) (by omega)
        · rw [decide_eq_false hc, oif_f, if_neg hc]
          exact ih f _ (by omega) (by omega) g3 (by omega)
  refine (gen 21 fuelN 0 (by rw [fuelN_eq]; omega) (by omega) (by omega) (by omega)).trans ?_
  obtain ⟨⟨v1, v2⟩, v3, v4⟩ := level_ok (fun x hx => (s1 x hx).1) hc2.1
  rw [show lvF l c 21 0 = levelV l c from rfl]
  generalize levelV l c = L at v1 v2 v3 v4 ⊢
  have hs2 := sum_in (lvl_in (h := L) v1 s1)
  unfold j102_2
  rw [q_stLevel (by omega), ob_s, q_stSum (hlen _) (hll _ v1), ob_s, wr (by omega) (by omega)]
  have := give_s (d := d + 3) (h := L) s1 v1 (by omega) l.length fuelN 0 (c - (lvl L l).sum) [] (by omega) (by rw [fuelN_eq]; omega) rfl (by omega) (by omega)
  rw [List.drop_zero, List.nil_append, List.nil_append] at this
  exact this

theorem gd {l : List Int} {i : Nat} (h : i < l.length) : l[i]? = some (l.getD i 0) := by simp [List.getD, List.getElem?_eq_getElem h]

theorem gd_in {l : List Int} {a b : Int} (h : ∀ x ∈ l, a ≤ x ∧ x ≤ b) {i : Nat} (hi : i < l.length) : a ≤ l.getD i 0 ∧ l.getD i 0 ≤ b := by
  have : l.getD i 0 = l[i] := by simp [List.getD, List.getElem?_eq_getElem hi]
  rw [this]; exact h _ (List.getElem_mem hi)

theorem gd_set {l : List Int} {i : Nat} {v : Int} (h : i < l.length) (k : Nat) : (l.set i v).getD k 0 = if k = i then v else l.getD k 0 := by
  simp only [List.getD, List.getElem?_set]
  by_cases hk : i = k
  · subst hk; rw [if_pos rfl, if_pos rfl, if_pos h]; rfl
  · rw [if_neg hk, if_neg (fun h => hk h.symm)]

theorem mulb {a b : Int} (h0 : 0 ≤ a) (h1 : a ≤ 1000001) (h2 : 0 ≤ b) (h3 : b ≤ 100) : 0 ≤ a * b ∧ a * b ≤ 1000001 * 100 :=
  ⟨Int.mul_nonneg h0 h2, Int.mul_le_mul h1 h3 h2 (by omega)⟩

/-- The one that is served next. -/
def bestF (l w sh : List Int) : Nat → Nat → Int → Int
  | 0, _, b => b
  | k + 1, i, b => bestF l w sh k (i + 1) (if sh.getD i 0 < l.getD i 0 then (if b < 0 then (i : Int) else if (sh.getD i 0 + 1) * w.getD b.toNat 0 < (sh.getD b.toNat 0 + 1) * w.getD i 0 then (i : Int) else b) else b)

def bOk (l sh : List Int) (b : Int) (i : Nat) : Prop := b = -1 ∨ ∃ j : Nat, b = (j : Int) ∧ j < i ∧ sh.getD j 0 < l.getD j 0

theorem bOk_step {l w sh : List Int} {b : Int} {i : Nat} (h : bOk l sh b i) : bOk l sh (if sh.getD i 0 < l.getD i 0 then (if b < 0 then (i : Int) else if (sh.getD i 0 + 1) * w.getD b.toNat 0 < (sh.getD b.toNat 0 + 1) * w.getD i 0 then (i : Int) else b) else b) (i + 1) := by
  have keep : bOk l sh b (i + 1) := by
    rcases h with h | ⟨j, h1, h2, h3⟩
    · exact .inl h
    · exact .inr ⟨j, h1, by omega, h3⟩
  split
  · rename_i hc
    split
    · exact .inr ⟨i, rfl, by omega, hc⟩
    · split
      · exact .inr ⟨i, rfl, by omega, hc⟩
      · exact keep
  · exact keep

theorem best_in {l w sh : List Int} : ∀ (k i : Nat) (b : Int), bOk l sh b i → bOk l sh (bestF l w sh k i b) (i + k)
  | 0, i, b, h => h
  | k + 1, i, b, h => by
    have := best_in (w := w) k (i + 1) _ (bOk_step (w := w) h)
    rw [show i + (k + 1) = i + 1 + k by omega]; exact this

def sOk (l s : List Int) : Prop := s.length = l.length ∧ ∀ i, i < l.length → 0 ≤ s.getD i 0 ∧ s.getD i 0 ≤ l.getD i 0

theorem sOk_add {l s : List Int} {j : Nat} (h : sOk l s) (hj : j < l.length) (h2 : s.getD j 0 < l.getD j 0) : sOk l (s.set j (s.getD j 0 + 1)) := by
  refine ⟨by rw [List.length_set]; exact h.1, fun i hi => ?_⟩
  rw [gd_set (by rw [h.1]; exact hj)]
  have a := h.2 i hi
  split
  · rename_i e; subst e; omega
  · exact a

/-- Served one by one. -/
def wsF (l w : List Int) : Nat → List Int → List Int
  | 0, s => s
  | n + 1, s => if bestF l w s l.length 0 (-1) < 0 then s else wsF l w n (s.set (bestF l w s l.length 0 (-1)).toNat (s.getD (bestF l w s l.length 0 (-1)).toNat 0 + 1))

theorem wsF_ok {l w : List Int} : ∀ (n : Nat) (s : List Int), sOk l s → sOk l (wsF l w n s)
  | 0, s, h => h
  | n + 1, s, h => by
    simp only [wsF]
    rcases best_in (w := w) l.length 0 (-1) (l := l) (sh := s) (.inl rfl) with e | ⟨j, e, h1, h2⟩
    · rw [e, if_pos (by omega)]; exact h
    · rw [e, if_neg (by omega), ofNat_toNat]
      exact wsF_ok n _ (sOk_add h (by omega) h2)

def wsOk (l w : List Int) (n : Int) : Bool := shOk l && (decide (((w.length : Nat) : Int) = ((l.length : Nat) : Int)) && ((w.all fun x => decide (1 ≤ x ∧ x ≤ 100)) && (decide (0 ≤ n ∧ n ≤ 10000) && decide (l.sum ≤ 10000))))

def wsV (l w : List Int) (n : Int) : List Int × Bool := if wsOk l w n = true then (wsF l w n.toNat (List.replicate l.length 0), true) else ([], false)

theorem sOk_zero {l : List Int} (h : ∀ x ∈ l, 0 ≤ x ∧ x ≤ 1000000) : sOk l (List.replicate l.length 0) := by
  refine ⟨List.length_replicate, fun i hi => ?_⟩
  have := gd_in h hi
  have e : (List.replicate l.length (0 : Int)).getD i 0 = 0 := by simp [List.getD, List.getElem?_replicate, hi]
  rw [e]; omega

theorem best_i {d : Nat} {l w sh : List Int} {K : Int → Int → Option (List Int × Bool)} (hl : ∀ x ∈ l, 0 ≤ x ∧ x ≤ 1000000) (hw : ∀ x ∈ w, 1 ≤ x ∧ x ≤ 100) (hwl : w.length = l.length) (hs : sOk l sh) (h40 : l.length ≤ 40) : ∀ (k fuel i : Nat) (b : Int), i + k = l.length → k < fuel → bOk l sh b i → iterP (l104_2 d l w sh K) fuel (b, (i : Int)) = K (bestF l w sh k i b) ((l.length : Nat) : Int) := by
  intro k
  induction k with
  | zero =>
    intro fuel i b g1 g2 g3
    cases fuel with
    | zero => omega
    | succ f =>
      have : i = l.length := by omega
      subst this
      simp only [iterP, l104_2, l104_2_b, bestF]
      rw [ltn, oif_f]
  | succ k ih =>
    intro fuel i b g1 g2 g3
    cases fuel with
    | zero => omega
    | succ f =>
      have hlt : i < l.length := by omega
      have hx : l[i]? = some (l.getD i 0) := gd hlt
      have hy : sh[i]? = some (sh.getD i 0) := gd (by rw [hs.1]; exact hlt)
      have hz : w[i]? = some (w.getD i 0) := gd (by rw [hwl]; exact hlt)
      have next := fun b h => ih f (i + 1) b (by omega) (by omega) h
      have ok := bOk_step (w := w) g3
      simp only [bestF]
      simp only [iterP, l104_2, l104_2_b, ltl hx, nn, oif_t, ofNat_toNat, hx, ob_s, bltl hy, hy, hz]
      rw [wr1 (by omega)]
      by_cases c1 : sh.getD i 0 < l.getD i 0
      · rw [if_pos c1] at ok ⊢
        rw [decide_eq_true c1, oif_t]
        rcases g3 with rfl | ⟨j, rfl, h1, h2⟩
        · rw [if_pos (by omega)] at ok ⊢
          rw [decide_eq_true (by omega), oif_t]
          exact next _ ok
        · have hyj : sh[j]? = some (sh.getD j 0) := gd (by rw [hs.1]; omega)
          have hzj : w[j]? = some (w.getD j 0) := gd (by rw [hwl]; omega)
          have b1 := hs.2 i hlt
          have b2 := hs.2 j (by omega)
          have b3 := gd_in hl hlt
          have b4 := gd_in hl (show j < l.length by omega)
          have b5 := gd_in hw (show i < w.length by omega)
          have b6 := gd_in hw (show j < w.length by omega)
          have m1 := mulb (a := sh.getD i 0 + 1) (b := w.getD j 0) (by omega) (by omega) (by omega) (by omega)
          have m2 := mulb (a := sh.getD j 0 + 1) (b := w.getD i 0) (by omega) (by omega) (by omega) (by omega)
          rw [if_neg (show ¬ (j : Int) < 0 by omega)] at ok ⊢
          rw [decide_eq_false (show ¬ (j : Int) < 0 by omega), oif_f]
          simp only [nn, oif_t, ofNat_toNat, hyj, hzj, bltl hyj, ob_s] at ok ⊢
          rw [wr (n := sh.getD i 0 + 1) (by omega) (by omega), wr (n := sh.getD j 0 + 1) (by omega) (by omega), wr (n := (sh.getD i 0 + 1) * w.getD j 0) (by omega) (by omega), wr (n := (sh.getD j 0 + 1) * w.getD i 0) (by omega) (by omega)]
          by_cases c2 : (sh.getD i 0 + 1) * w.getD j 0 < (sh.getD j 0 + 1) * w.getD i 0
          · rw [if_pos c2] at ok ⊢
            rw [decide_eq_true c2, oif_t]; exact next _ ok
          · rw [if_neg c2] at ok ⊢
            rw [decide_eq_false c2, oif_f]; exact next _ ok
      · rw [if_neg c1] at ok ⊢
        rw [decide_eq_false c1, oif_f]; exact next _ ok

theorem ws_i {d : Nat} {l w : List Int} (hl : ∀ x ∈ l, 0 ≤ x ∧ x ≤ 1000000) (hw : ∀ x ∈ w, 1 ≤ x ∧ x ≤ 100) (hwl : w.length = l.length) (h40 : l.length ≤ 40) : ∀ (n fuel : Nat) (s : List Int), n < fuel → n ≤ 10000 → sOk l s → iterP (l104_1 d l w (j104_0 d)) fuel ((n : Int), s) = some (wsF l w n s, true) := by
  intro n
  induction n with
  | zero =>
    intro fuel s g1 _ _
    cases fuel with
    | zero => omega
    | succ f =>
      simp only [iterP, l104_1, l104_1_b, j104_0, wsF]
      rw [decide_eq_false (by omega), oif_f]
  | succ n ih =>
    intro fuel s g1 g2 g3
    cases fuel with
    | zero => omega
    | succ f =>
      have hb := best_in (w := w) l.length 0 (-1) (l := l) (sh := s) (.inl rfl)
      simp only [iterP, l104_1, l104_1_b]
      rw [decide_eq_true (by omega), oif_t]
      refine (best_i hl hw hwl g3 h40 l.length fuelN 0 (-1) (by omega) (by rw [fuelN_eq]; omega) (.inl rfl)).trans ?_
      simp only [wsF]
      unfold j104_1
      rcases hb with e | ⟨j, e, h1, h2⟩
      · rw [e, if_pos (by omega), decide_eq_true (by omega), oif_t]; rfl
      · have hj : j < l.length := by omega
        have hyj : s[j]? = some (s.getD j 0) := gd (by rw [g3.1]; exact hj)
        have b2 := g3.2 j hj
        have b4 := gd_in hl hj
        rw [e, if_neg (by omega), decide_eq_false (by omega), oif_f]
        simp only [nn, oif_t, ofNat_toNat, hyj, bltl hyj, ob_s]
        rw [wr (n := s.getD j 0 + 1) (by omega) (by omega), show IntKind.i64.wrap (((n + 1 : Nat) : Int) - 1) = (n : Int) by rw [wr (by omega) (by omega)]; omega]
        exact ih f _ (by omega) (by omega) (sOk_add g3 hj h2)

theorem best_s {d : Nat} {l w sh : List Int} {K : Int → Int → Option (List Int × Bool)} (hl : ∀ x ∈ l, 0 ≤ x ∧ x ≤ 1000000) (hw : ∀ x ∈ w, 1 ≤ x ∧ x ≤ 100) (hwl : w.length = l.length) (hs : sOk l sh) (h40 : l.length ≤ 40) : ∀ (k fuel i : Nat) (b : Int), i + k = l.length → k < fuel → bOk l sh b i → iterP (l105_1 d l w sh K) fuel (b, (i : Int)) = K (bestF l w sh k i b) ((l.length : Nat) : Int) := by
  intro k
  induction k with
  | zero =>
    intro fuel i b g1 g2 g3
    cases fuel with
    | zero => omega
    | succ f =>
      have : i = l.length := by omega
      subst this
      simp only [iterP, l105_1, l105_1_b, bestF]
      rw [ltn, oif_f]
  | succ k ih =>
    intro fuel i b g1 g2 g3
    cases fuel with
    | zero => omega
    | succ f =>
      have hlt : i < l.length := by omega
      have hx : l[i]? = some (l.getD i 0) := gd hlt
      have hy : sh[i]? = some (sh.getD i 0) := gd (by rw [hs.1]; exact hlt)
      have hz : w[i]? = some (w.getD i 0) := gd (by rw [hwl]; exact hlt)
      have next := fun b h => ih f (i + 1) b (by omega) (by omega) h
      have ok := bOk_step (w := w) g3
      simp only [bestF]
      simp only [iterP, l105_1, l105_1_b, ltl hx, nn, oif_t, ofNat_toNat, hx, ob_s, bltl hy, hy, hz]
      rw [wr1 (by omega)]
      by_cases c1 : sh.getD i 0 < l.getD i 0
      · rw [if_pos c1] at ok ⊢
        rw [decide_eq_true c1, oif_t]
        rcases g3 with rfl | ⟨j, rfl, h1, h2⟩
        · rw [if_pos (by omega)] at ok ⊢
          rw [decide_eq_true (by omega), oif_t]
          exact next _ ok
        · have hyj : sh[j]? = some (sh.getD j 0) := gd (by rw [hs.1]; omega)
          have hzj : w[j]? = some (w.getD j 0) := gd (by rw [hwl]; omega)
          have b1 := hs.2 i hlt
          have b2 := hs.2 j (by omega)
          have b3 := gd_in hl hlt
          have b4 := gd_in hl (show j < l.length by omega)
          have b5 := gd_in hw (show i < w.length by omega)
          have b6 := gd_in hw (show j < w.length by omega)
          have m1 := mulb (a := sh.getD i 0 + 1) (b := w.getD j 0) (by omega) (by omega) (by omega) (by omega)
          have m2 := mulb (a := sh.getD j 0 + 1) (b := w.getD i 0) (by omega) (by omega) (by omega) (by omega)
          rw [if_neg (show ¬ (j : Int) < 0 by omega)] at ok ⊢
          rw [decide_eq_false (show ¬ (j : Int) < 0 by omega), oif_f]
          simp only [nn, oif_t, ofNat_toNat, hyj, hzj, bltl hyj, ob_s] at ok ⊢
          rw [wr (n := sh.getD i 0 + 1) (by omega) (by omega), wr (n := sh.getD j 0 + 1) (by omega) (by omega), wr (n := (sh.getD i 0 + 1) * w.getD j 0) (by omega) (by omega), wr (n := (sh.getD j 0 + 1) * w.getD i 0) (by omega) (by omega)]
          by_cases c2 : (sh.getD i 0 + 1) * w.getD j 0 < (sh.getD j 0 + 1) * w.getD i 0
          · rw [if_pos c2] at ok ⊢
            rw [decide_eq_true c2, oif_t]; exact next _ ok
          · rw [if_neg c2] at ok ⊢
            rw [decide_eq_false c2, oif_f]; exact next _ ok
      · rw [if_neg c1] at ok ⊢
        rw [decide_eq_false c1, oif_f]; exact next _ ok

theorem ws_s {d : Nat} {l w : List Int} (hl : ∀ x ∈ l, 0 ≤ x ∧ x ≤ 1000000) (hw : ∀ x ∈ w, 1 ≤ x ∧ x ≤ 100) (hwl : w.length = l.length) (h40 : l.length ≤ 40) : ∀ (n fuel : Nat) (s : List Int), n < fuel → n ≤ 10000 → sOk l s → iterP (l105_0 d l w (j105_0 d)) fuel ((n : Int), s) = some (wsF l w n s, true) := by
  intro n
  induction n with
  | zero =>
    intro fuel s g1 _ _
    cases fuel with
    | zero => omega
    | succ f =>
      simp only [iterP, l105_0, l105_0_b, j105_0, wsF]
      rw [decide_eq_false (by omega), oif_f]
  | succ n ih =>
    intro fuel s g1 g2 g3
    cases fuel with
    | zero => omega
    | succ f =>
      have hb := best_in (w := w) l.length 0 (-1) (l := l) (sh := s) (.inl rfl)
      simp only [iterP, l105_0, l105_0_b]
      rw [decide_eq_true (by omega), oif_t]
      refine (best_s hl hw hwl g3 h40 l.length fuelN 0 (-1) (by omega) (by rw [fuelN_eq]; omega) (.inl rfl)).trans ?_
      simp only [wsF]
      unfold j105_1
      rcases hb with e | ⟨j, e, h1, h2⟩
      · rw [e, if_pos (by omega), decide_eq_true (by omega), oif_t]; rfl
      · have hj : j < l.length := by omega
        have hyj : s[j]? = some (s.getD j 0) := gd (by rw [g3.1]; exact hj)
        have b2 := g3.2 j hj
        have b4 := gd_in hl hj
        rw [e, if_neg (by omega), decide_eq_false (by omega), oif_f]
        simp only [nn, oif_t, ofNat_toNat, hyj, bltl hyj, ob_s]
        rw [wr (n := s.getD j 0 + 1) (by omega) (by omega), show IntKind.i64.wrap (((n + 1 : Nat) : Int) - 1) = (n : Int) by rw [wr (by omega) (by omega)]; omega]
        exact ih f _ (by omega) (by omega) (sOk_add g3 hj h2)

theorem ble_self (n : Nat) : Nat.ble n n = true := by rw [Nat.ble_eq]; exact Nat.le_refl n

theorem q_WeightedShares {d : Nat} {l w : List Int} {n : Int} (hl : l.length < 4194304) (hw : w.length < 4194304) : g104 (d + 2) l w n = some (wsV l w n) := by
  rw [e104, q_areShares hl, ob_s]; unfold wsV wsOk j104_3
  cases hs : shOk l with
  | false => rfl
  | true =>
  obtain ⟨s1, s2, s3⟩ := sh_in hs
  rw [Bool.not_true, oif_f, Bool.true_and]
  by_cases h1 : ((w.length : Nat) : Int) = ((l.length : Nat) : Int)
  case neg =>
    rw [show (((w.length : Nat) : Int) != ((l.length : Nat) : Int)) = true by rw [bne_iff_ne]; exact h1, decide_eq_false h1]; rfl
  rw [show (((w.length : Nat) : Int) != ((l.length : Nat) : Int)) = false by rw [bne_eq_false_iff_eq]; exact h1, oif_f, decide_eq_true h1, Bool.true_and]
  by_cases h2 : 0 ≤ n ∧ n ≤ 10000
  case neg =>
    rw [decide_eq_false h2, Bool.false_and, Bool.and_false, if_neg (by simp)]
    by_cases h3 : n < 0
    · rw [decide_eq_true h3]; rfl
    · rw [decide_eq_false h3, decide_eq_true (show n > 10000 by omega)]; rfl
  rw [decide_eq_true h2, Bool.true_and, decide_eq_false (show ¬ n < 0 by omega), oif_f, decide_eq_false (show ¬ n > 10000 by omega), oif_f, q_sumInts (by omega) (fun x hx => by have := s1 x hx; omega), ob_s]
  by_cases h3 : l.sum ≤ 10000
  case neg =>
    rw [decide_eq_false h3, Bool.and_false, if_neg (by simp), decide_eq_true (show l.sum > 10000 by omega)]; rfl
  rw [decide_eq_true h3, Bool.and_true, decide_eq_false (show ¬ l.sum > 10000 by omega), oif_f]
  have chk : ∀ (k fuel i : Nat) (K : Bool → List Int → Option (List Int × Bool)), i + k = w.length → k < fuel → iterP (l104_0 (d + 1) w K) fuel (([] : List Int), false, (i : Int)) = oif ((w.drop i).all fun x => decide (1 ≤ x ∧ x ≤ 100)) (K false []) (some ([], false)) := by
    intro k
    induction k with
    | zero =>
      intro fuel i K g1 g2
      cases fuel with
      | zero => omega
      | succ f =>
        have : i = w.length := by omega
        subst this
        simp only [iterP, l104_0, l104_0_b]
        rw [ltn, oif_f, List.drop_length]; rfl
    | succ k ih =>
      intro fuel i K g1 g2
      cases fuel with
      | zero => omega
      | succ f =>
        have hlt : i < w.length := by omega
        have hx : w[i]? = some w[i] := List.getElem?_eq_getElem hlt
        simp only [iterP, l104_0, l104_0_b]
        rw [ltl hx, oif_t, nn, oif_t, ofNat_toNat, hx, ob_s, List.drop_eq_getElem_cons hlt, List.all_cons]
        by_cases c1 : w[i] < 1
        · rw [decide_eq_true c1, oif_t, decide_eq_false (by omega), Bool.false_and, oif_f]
        · by_cases c2 : w[i] > 100
          · rw [decide_eq_false c1, oif_f, decide_eq_true c2, oif_t, decide_eq_false (by omega), Bool.false_and, oif_f]
          · rw [decide_eq_false c1, oif_f, decide_eq_false c2, oif_f, decide_eq_true (by omega), Bool.true_and, wr1 (by omega)]
            exact ih f (i + 1) K (by omega) (by omega)
  refine (chk w.length fuelN 0 _ (by omega) (by rw [fuelN_eq]; exact hw)).trans ?_
  rw [List.drop_zero]
  cases ha : w.all fun x => decide (1 ≤ x ∧ x ≤ 100) with
  | false => rfl
  | true =>
  have hw1 : ∀ x ∈ w, 1 ≤ x ∧ x ≤ 100 := by simpa [List.all_eq_true] using ha
  have hrm : Nat.ble (l.length * 8) roomMax = true := by have := room (n := l.length) (m := 0) (w := 8) (by omega); rwa [Nat.add_zero] at this
  rw [oif_t, if_pos rfl]
  unfold j104_2
  simp only [nn, oif_t, ofNat_toNat, ble_self, hrm, Bool.and_self]
  have := ws_i (d := d + 1) s1 hw1 (by omega) s3 n.toNat fuelN (List.replicate l.length 0) (by rw [fuelN_eq]; omega) (by omega) (sOk_zero s1)
  rw [show ((n.toNat : Nat) : Int) = n by omega] at this
  exact this

theorem q_stWeights {d : Nat} {l w : List Int} {n : Int} (hl : l.length < 4194304) (hw : w.length < 4194304) : g272 (d + 4) l w n = some (wsOk l w n) := by
  rw [e272, q_stGood hl, ob_s]; unfold wsOk
  cases hs : shOk l with
  | false => rfl
  | true =>
  obtain ⟨s1, s2, s3⟩ := sh_in hs
  rw [oif_t, Bool.true_and]
  by_cases h1 : ((w.length : Nat) : Int) = ((l.length : Nat) : Int)
  case neg =>
    rw [show (((w.length : Nat) : Int) == ((l.length : Nat) : Int)) = false by rw [beq_eq_false_iff_ne]; exact h1, decide_eq_false h1]; rfl
  rw [show (((w.length : Nat) : Int) == ((l.length : Nat) : Int)) = true by rw [beq_iff_eq]; exact h1, oif_t, decide_eq_true h1, Bool.true_and, q_l1All hw, ob_s]
  cases w.all fun x => decide (1 ≤ x ∧ x ≤ 100) with
  | false => rfl
  | true =>
  rw [oif_t, Bool.true_and, q_l1In, ob_s]
  cases decide (0 ≤ n ∧ n ≤ 10000) with
  | false => rfl
  | true =>
  rw [oif_t, Bool.true_and, q_stSum (by omega) (fun x hx => by have := s1 x hx; omega), ob_s]

theorem q_sWeightedShares {d : Nat} {l w : List Int} {n : Int} (hl : l.length < 4194304) (hw : w.length < 4194304) : g105 (d + 5) l w n = some (wsV l w n) := by
  rw [e105, q_stWeights hl hw, ob_s]; unfold wsV
  cases hk : wsOk l w n with
  | false => rfl
  | true =>
  unfold wsOk at hk
  simp only [Bool.and_eq_true, decide_eq_true_eq, List.all_eq_true] at hk
  obtain ⟨hs, h1, hw1, h2, h3⟩ := hk
  obtain ⟨s1, s2, s3⟩ := sh_in hs
  have hrm : Nat.ble (l.length * 8) roomMax = true := by have := room (n := l.length) (m := 0) (w := 8) (by omega); rwa [Nat.add_zero] at this
  rw [Bool.not_true, oif_f, if_pos rfl]
  simp only [nn, oif_t, ofNat_toNat, ble_self, hrm, Bool.and_self]
  have := ws_s (d := d + 4) s1 hw1 (by omega) s3 n.toNat fuelN (List.replicate l.length 0) (by rw [fuelN_eq]; omega) (by omega) (sOk_zero s1)
  rw [show ((n.toNat : Nat) : Int) = n by omega] at this
  exact this

def lsF (l sh : List Int) : Nat → Nat → Int → Int
  | 0, _, b => b
  | k + 1, i, b => lsF l sh k (i + 1) (if sh.getD i 0 < l.getD i 0 then (if b < 0 then (i : Int) else if sh.getD i 0 < sh.getD b.toNat 0 then (i : Int) else b) else b)

theorem ls_step {l sh : List Int} {b : Int} {i : Nat} (h : bOk l sh b i) : bOk l sh (if sh.getD i 0 < l.getD i 0 then (if b < 0 then (i : Int) else if sh.getD i 0 < sh.getD b.toNat 0 then (i : Int) else b) else b) (i + 1) := by
  have keep : bOk l sh b (i + 1) := by
    rcases h with h | ⟨j, h1, h2, h3⟩
    · exact .inl h
    · exact .inr ⟨j, h1, by omega, h3⟩
  split
  · rename_i hc
    split
    · exact .inr ⟨i, rfl, by omega, hc⟩
    · split
      · exact .inr ⟨i, rfl, by omega, hc⟩
      · exact keep
  · exact keep

def pairOk (l s : List Int) : Bool := shOk l && (shOk s && decide (((s.length : Nat) : Int) = ((l.length : Nat) : Int)))

def lsR (b : Int) : Int × Bool := if b < 0 then (0, false) else (b, true)

def lsV (l s : List Int) : Int × Bool := if pairOk l s = true then lsR (lsF l s l.length 0 (-1)) else (0, false)

theorem pair_in {l s : List Int} (h : pairOk l s = true) : shOk l = true ∧ shOk s = true ∧ s.length = l.length := by
  simp only [pairOk, Bool.and_eq_true, decide_eq_true_eq] at h
  exact ⟨h.1, h.2.1, by omega⟩

theorem q_stPair {d : Nat} {l s : List Int} (hl : l.length < 4194304) (hs : s.length < 4194304) : g273 (d + 4) l s = some (pairOk l s) := by
  rw [e273, q_stGood hl, ob_s]; unfold pairOk
  cases shOk l with
  | false => rfl
  | true =>
  rw [oif_t, Bool.true_and, q_stGood hs, ob_s]
  cases shOk s with
  | false => rfl
  | true =>
  rw [oif_t, Bool.true_and]; rfl

theorem ls_i {d : Nat} {l s : List Int} (hsl : s.length = l.length) (h40 : l.length ≤ 40) : ∀ (k fuel i : Nat) (b : Int), i + k = l.length → k < fuel → bOk l s b i → iterP (l110_0 d l s (j110_0 d)) fuel (b, (i : Int)) = some (lsR (lsF l s k i b)) := by
  intro k
  induction k with
  | zero =>
    intro fuel i b g1 g2 g3
    cases fuel with
    | zero => omega
    | succ f =>
      have : l.length = i := by omega
      simp only [iterP, l110_0, l110_0_b, j110_0, lsF]
      rw [this, ltn, oif_f]
      by_cases hb : b < 0
      · rw [decide_eq_true hb, oif_t]; unfold lsR; rw [if_pos hb]
      · rw [decide_eq_false hb, oif_f]; unfold lsR; rw [if_neg hb]
  | succ k ih =>
    intro fuel i b g1 g2 g3
    cases fuel with
    | zero => omega
    | succ f =>
      have hlt : i < l.length := by omega
      have hx : l[i]? = some (l.getD i 0) := gd hlt
      have hy : s[i]? = some (s.getD i 0) := gd (by omega)
      have next := fun b h => ih f (i + 1) b (by omega) (by omega) h
      have ok := ls_step g3
      simp only [lsF]
      simp only [iterP, l110_0, l110_0_b, ltl hx, ltl hy, nn, oif_t, ofNat_toNat, hx, ob_s, hy]
      rw [wr1 (by omega)]
      by_cases c1 : s.getD i 0 < l.getD i 0
      · rw [if_pos c1] at ok ⊢
        rw [decide_eq_true c1, oif_t]
        rcases g3 with rfl | ⟨j, rfl, h1, h2⟩
        · rw [if_pos (by omega)] at ok ⊢
          rw [decide_eq_true (by omega), oif_t]
          exact next _ ok
        · have hyj : s[j]? = some (s.getD j 0) := gd (by omega)
          rw [if_neg (show ¬ (j : Int) < 0 by omega)] at ok ⊢
          rw [decide_eq_false (show ¬ (j : Int) < 0 by omega), oif_f]
          simp only [nn, oif_t, ofNat_toNat, hyj, ob_s] at ok ⊢
          by_cases c2 : s.getD i 0 < s.getD j 0
          · rw [if_pos c2] at ok ⊢
            rw [decide_eq_true c2, oif_t]; exact next _ ok
          · rw [if_neg c2] at ok ⊢
            rw [decide_eq_false c2, oif_f]; exact next _ ok
      · rw [if_neg c1] at ok ⊢
        rw [decide_eq_false c1, oif_f]; exact next _ ok

theorem ls_s {d : Nat} {l s : List Int} (hsl : s.length = l.length) (h40 : l.length ≤ 40) : ∀ (k fuel i : Nat) (b : Int), i + k = l.length → k < fuel → bOk l s b i → iterP (l111_0 d l s (j111_0 d)) fuel (b, (i : Int)) = some (lsR (lsF l s k i b)) := by
  intro k
  induction k with
  | zero =>
    intro fuel i b g1 g2 g3
    cases fuel with
    | zero => omega
    | succ f =>
      have : s.length = i := by omega
      simp only [iterP, l111_0, l111_0_b, j111_0, lsF]
      rw [this, ltn, oif_f]
      by_cases hb : b < 0
      · rw [decide_eq_true hb, oif_t]; unfold lsR; rw [if_pos hb]
      · rw [decide_eq_false hb, oif_f]; unfold lsR; rw [if_neg hb]
  | succ k ih =>
    intro fuel i b g1 g2 g3
    cases fuel with
    | zero => omega
    | succ f =>
      have hlt : i < l.length := by omega
      have hx : l[i]? = some (l.getD i 0) := gd hlt
      have hy : s[i]? = some (s.getD i 0) := gd (by omega)
      have next := fun b h => ih f (i + 1) b (by omega) (by omega) h
      have ok := ls_step g3
      simp only [lsF]
      simp only [iterP, l111_0, l111_0_b, ltl hx, ltl hy, nn, oif_t, ofNat_toNat, hx, ob_s, hy]
      rw [wr1 (by omega)]
      by_cases c1 : s.getD i 0 < l.getD i 0
      · rw [if_pos c1] at ok ⊢
        rw [decide_eq_true c1, oif_t]
        rcases g3 with rfl | ⟨j, rfl, h1, h2⟩
        · rw [if_pos (by omega)] at ok ⊢
          rw [decide_eq_true (by omega), oif_t]
          exact next _ ok
        · have hyj : s[j]? = some (s.getD j 0) := gd (by omega)
          rw [if_neg (show ¬ (j : Int) < 0 by omega)] at ok ⊢
          rw [decide_eq_false (show ¬ (j : Int) < 0 by omega), oif_f]
          simp only [nn, oif_t, ofNat_toNat, hyj, ob_s] at ok ⊢
          by_cases c2 : s.getD i 0 < s.getD j 0
          · rw [if_pos c2] at ok ⊢
            rw [decide_eq_true c2, oif_t]; exact next _ ok
          · rw [if_neg c2] at ok ⊢
            rw [decide_eq_false c2, oif_f]; exact next _ ok
      · rw [if_neg c1] at ok ⊢
        rw [decide_eq_false c1, oif_f]; exact next _ ok

theorem q_LeastServed {d : Nat} {l s : List Int} (hl : l.length < 4194304) (hs : s.length < 4194304) : g110 (d + 2) l s = some (lsV l s) := by
  rw [e110, q_areShares hl, ob_s]; unfold lsV j110_1
  cases hk : pairOk l s with
  | true =>
    obtain ⟨a, b, e⟩ := pair_in hk
    rw [a, Bool.not_true, oif_f, q_areShares hs, ob_s, b, Bool.not_true, oif_f, e, bne_self_eq_false, oif_f, if_pos rfl]
    exact ls_i e (sh_in a).2.2 l.length fuelN 0 (-1) (by omega) (by rw [fuelN_eq]; omega) (.inl rfl)
  | false =>
    rw [if_neg (by simp), q_areShares hs, ob_s]
    unfold pairOk at hk
    cases ha : shOk l with
    | false => rfl
    | true =>
    cases hb : shOk s with
    | false => rfl
    | true =>
    rw [ha, hb, Bool.true_and, Bool.true_and, decide_eq_false_iff_not] at hk
    rw [show (((s.length : Nat) : Int) != ((l.length : Nat) : Int)) = true by rw [bne_iff_ne]; exact hk]; rfl

theorem q_sLeastServed {d : Nat} {l s : List Int} (hl : l.length < 4194304) (hs : s.length < 4194304) : g111 (d + 5) l s = some (lsV l s) := by
  rw [e111, q_stPair hl hs, ob_s]; unfold lsV
  cases hk : pairOk l s with
  | true =>
    obtain ⟨a, b, e⟩ := pair_in hk
    rw [Bool.not_true, oif_f, if_pos rfl]
    exact ls_s e (sh_in a).2.2 l.length fuelN 0 (-1) (by omega) (by rw [fuelN_eq]; omega) (.inl rfl)
  | false => rfl

def fairP (l s : List Int) : Prop := ∀ i, i < l.length → s.getD i 0 ≤ l.getD i 0 ∧ ∀ j, j < l.length → s.getD i 0 < l.getD i 0 → s.getD j 0 ≤ s.getD i 0 + 1

theorem is_in {d : Nat} {s : List Int} {i : Nat} {li : Int} {K : Bool → Bool → Int → Option (Bool × Bool)} (hi : i < s.length) (hb : ∀ x ∈ s, 0 ≤ x ∧ x ≤ 1000000) (h40 : s.length ≤ 40) : ∀ (k fuel j : Nat), j + k = s.length → k < fuel →
    ((∀ j', j ≤ j' → j' < s.length → s.getD i 0 < li → s.getD j' 0 ≤ s.getD i 0 + 1) ∧ iterP (l107_1 d s (i : Int) li K) fuel (false, false, (j : Int)) = K false false ((s.length : Nat) : Int)) ∨
    (¬ (∀ j', j ≤ j' → j' < s.length → s.getD i 0 < li → s.getD j' 0 ≤ s.getD i 0 + 1) ∧ iterP (l107_1 d s (i : Int) li K) fuel (false, false, (j : Int)) = some (false, true)) := by
  intro k
  induction k with
  | zero =>
    intro fuel j g1 g2
    cases fuel with
    | zero => omega
    | succ f =>
      have : j = s.length := by omega
      subst this
      refine .inl ⟨fun j' h1 h2 => by omega, ?_⟩
      simp only [iterP, l107_1, l107_1_b]
      rw [ltn, oif_f]
  | succ k ih =>
    intro fuel j g1 g2
    cases fuel with
    | zero => omega
    | succ f =>
      have hlt : j < s.length := by omega
      have hx : s[j]? = some (s.getD j 0) := gd hlt
      have hy : s[i]? = some (s.getD i 0) := gd hi
      have bi := gd_in hb hi
      simp only [iterP, l107_1, l107_1_b, ltl hx, nn, oif_t, ofNat_toNat, hx, hy, ob_s]
      rw [wr1 (by omega), wr (n := s.getD i 0 + 1) (by omega) (by omega)]
      by_cases c1 : s.getD i 0 < li
      · rw [decide_eq_true c1, oif_t]
        by_cases c2 : s.getD j 0 > s.getD i 0 + 1
        · rw [decide_eq_true c2, oif_t]
          exact .inr ⟨fun h => by have := h j (Nat.le_refl _) hlt c1; omega, rfl⟩
        · rw [decide_eq_false c2, oif_f]
          rcases ih f (j + 1) (by omega) (by omega) with ⟨h1, h2⟩ | ⟨h1, h2⟩
          · refine .inl ⟨fun j' g3 g4 g5 => ?_, h2⟩
            rcases Nat.eq_or_lt_of_le g3 with rfl | g6
            · omega
            · exact h1 j' g6 g4 g5
          · exact .inr ⟨fun h => h1 fun j' g3 g4 g5 => h j' (by omega) g4 g5, h2⟩
      · rw [decide_eq_false c1, oif_f]
        rcases ih f (j + 1) (by omega) (by omega) with ⟨h1, h2⟩ | ⟨h1, h2⟩
        · exact .inl ⟨fun j' _ _ g5 => absurd g5 c1, h2⟩
        · exact .inr ⟨fun h => h1 fun j' g3 g4 g5 => h j' (by omega) g4 g5, h2⟩

theorem is_out {d : Nat} {l s : List Int} (hl : s.length = l.length) (hb : ∀ x ∈ s, 0 ≤ x ∧ x ≤ 1000000) (h40 : s.length ≤ 40) : ∀ (k fuel i : Nat), i + k = l.length → k < fuel →
    ((∀ i', i ≤ i' → i' < l.length → s.getD i' 0 ≤ l.getD i' 0 ∧ ∀ j, j < l.length → s.getD i' 0 < l.getD i' 0 → s.getD j 0 ≤ s.getD i' 0 + 1) ∧ iterP (l107_0 d l s (j107_0 d)) fuel (false, false, (i : Int)) = some (true, true)) ∨
    (¬ (∀ i', i ≤ i' → i' < l.length → s.getD i' 0 ≤ l.getD i' 0 ∧ ∀ j, j < l.length → s.getD i' 0 < l.getD i' 0 → s.getD j 0 ≤ s.getD i' 0 + 1) ∧ iterP (l107_0 d l s (j107_0 d)) fuel (false, false, (i : Int)) = some (false, true)) := by
  intro k
  induction k with
  | zero =>
    intro fuel i g1 g2
    cases fuel with
    | zero => omega
    | succ f =>
      have : i = l.length := by omega
      subst this
      refine .inl ⟨fun j' h1 h2 => by omega, ?_⟩
      simp only [iterP, l107_0, l107_0_b, j107_0]
      rw [ltn, oif_f]
  | succ k ih =>
    intro fuel i g1 g2
    cases fuel with
    | zero => omega
    | succ f =>
      have hlt : i < l.length := by omega
      have hx : l[i]? = some (l.getD i 0) := gd hlt
      have hy : s[i]? = some (s.getD i 0) := gd (by omega)
      simp only [iterP, l107_0, l107_0_b, ltl hx, nn, oif_t, ofNat_toNat, hx, hy, ob_s]
      by_cases c1 : s.getD i 0 > l.getD i 0
      · rw [decide_eq_true c1, oif_t]
        exact .inr ⟨fun h => by have := (h i (Nat.le_refl _) hlt).1; omega, rfl⟩
      · rw [decide_eq_false c1, oif_f]
        rcases is_in (d := d) (s := s) (i := i) (li := l.getD i 0) (K := j107_1 d (iterP (l107_0 d l s (j107_0 d)) f) (i : Int)) (by omega) hb h40 s.length fuelN 0 (by omega) (by rw [fuelN_eq]; omega) with ⟨h1, h2⟩ | ⟨h1, h2⟩
        · have e : j107_1 d (iterP (l107_0 d l s (j107_0 d)) f) (i : Int) false false ((s.length : Nat) : Int) = iterP (l107_0 d l s (j107_0 d)) f (false, false, ((i + 1 : Nat) : Int)) := by
            unfold j107_1; rw [wr1 (by omega)]
          rcases ih f (i + 1) (by omega) (by omega) with ⟨p1, p2⟩ | ⟨p1, p2⟩
          · refine .inl ⟨fun i' g3 g4 => ?_, h2.trans (e.trans p2)⟩
            rcases Nat.eq_or_lt_of_le g3 with rfl | g6
            · exact ⟨by omega, fun j hj g => h1 j (Nat.zero_le _) (by omega) g⟩
            · exact p1 i' g6 g4
          · exact .inr ⟨fun h => p1 fun i' g3 g4 => h i' (by omega) g4, h2.trans (e.trans p2)⟩
        · exact .inr ⟨fun h => h1 fun j _ hj g => (h i (Nat.le_refl _) hlt).2 j (by omega) g, h2⟩

theorem it_in {d : Nat} {l s : List Int} {sj : Int} {K : Bool → Bool → Int → Option (Bool × Bool)} (hl : s.length = l.length) (hb : ∀ x ∈ s, 0 ≤ x ∧ x ≤ 1000000) (h40 : s.length ≤ 40) : ∀ (k fuel i : Nat), i + k = s.length → k < fuel →
    ((∀ i', i ≤ i' → i' < s.length → s.getD i' 0 < l.getD i' 0 → sj ≤ s.getD i' 0 + 1) ∧ iterP (l108_1 d l s sj K) fuel (false, false, (i : Int)) = K false false ((s.length : Nat) : Int)) ∨
    (¬ (∀ i', i ≤ i' → i' < s.length → s.getD i' 0 < l.getD i' 0 → sj ≤ s.getD i' 0 + 1) ∧ iterP (l108_1 d l s sj K) fuel (false, false, (i : Int)) = some (false, true)) := by
  intro k
  induction k with
  | zero =>
    intro fuel j g1 g2
    cases fuel with
    | zero => omega
    | succ f =>
      have : j = s.length := by omega
      subst this
      refine .inl ⟨fun j' h1 h2 => by omega, ?_⟩
      simp only [iterP, l108_1, l108_1_b]
      rw [ltn, oif_f]
  | succ k ih =>
    intro fuel i g1 g2
    cases fuel with
    | zero => omega
    | succ f =>
      have hlt : i < s.length := by omega
      have hx : s[i]? = some (s.getD i 0) := gd hlt
      have hy : l[i]? = some (l.getD i 0) := gd (by omega)
      have bi := gd_in hb hlt
      simp only [iterP, l108_1, l108_1_b, ltl hx, nn, oif_t, ofNat_toNat, hx, hy, ob_s]
      rw [wr1 (by omega), wr (n := s.getD i 0 + 1) (by omega) (by omega)]
      by_cases c1 : s.getD i 0 < l.getD i 0
      · rw [decide_eq_true c1, oif_t]
        by_cases c2 : sj > s.getD i 0 + 1
        · rw [decide_eq_true c2, oif_t]
          exact .inr ⟨fun h => by have := h i (Nat.le_refl _) hlt c1; omega, rfl⟩
        · rw [decide_eq_false c2, oif_f]
          rcases ih f (i + 1) (by omega) (by omega) with ⟨h1, h2⟩ | ⟨h1, h2⟩
          · refine .inl ⟨fun j' g3 g4 g5 => ?_, h2⟩
            rcases Nat.eq_or_lt_of_le g3 with rfl | g6
            · omega
            · exact h1 j' g6 g4 g5
          · exact .inr ⟨fun h => h1 fun j' g3 g4 g5 => h j' (by omega) g4 g5, h2⟩
      · rw [decide_eq_false c1, oif_f]
        rcases ih f (i + 1) (by omega) (by omega) with ⟨h1, h2⟩ | ⟨h1, h2⟩
        · refine .inl ⟨fun j' g3 g4 g5 => ?_, h2⟩
          rcases Nat.eq_or_lt_of_le g3 with rfl | g6
          · exact absurd g5 c1
          · exact h1 j' g6 g4 g5
        · exact .inr ⟨fun h => h1 fun j' g3 g4 g5 => h j' (by omega) g4 g5, h2⟩

theorem it_out {d : Nat} {l s : List Int} {K : Bool → Bool → Option (Bool × Bool)} (hl : s.length = l.length) (hb : ∀ x ∈ s, 0 ≤ x ∧ x ≤ 1000000) (h40 : s.length ≤ 40) : ∀ (k fuel j : Nat), j + k = l.length → k < fuel →
    ((∀ j', j ≤ j' → j' < l.length → s.getD j' 0 ≤ l.getD j' 0 ∧ ∀ i, i < l.length → s.getD i 0 < l.getD i 0 → s.getD j' 0 ≤ s.getD i 0 + 1) ∧ iterP (l108_0 d l s K) fuel (false, false, (j : Int)) = K false false) ∨
    (¬ (∀ j', j ≤ j' → j' < l.length → s.getD j' 0 ≤ l.getD j' 0 ∧ ∀ i, i < l.length → s.getD i 0 < l.getD i 0 → s.getD j' 0 ≤ s.getD i 0 + 1) ∧ iterP (l108_0 d l s K) fuel (false, false, (j : Int)) = some (false, true)) := by
  intro k
  induction k with
  | zero =>
    intro fuel j g1 g2
    cases fuel with
    | zero => omega
    | succ f =>
      have : s.length = j := by omega
      refine .inl ⟨fun j' h1 h2 => by omega, ?_⟩
      simp only [iterP, l108_0, l108_0_b]
      rw [this, ltn, oif_f]
  | succ k ih =>
    intro fuel j g1 g2
    cases fuel with
    | zero => omega
    | succ f =>
      have hlt : j < l.length := by omega
      have hx : l[j]? = some (l.getD j 0) := gd hlt
      have hy : s[j]? = some (s.getD j 0) := gd (by omega)
      simp only [iterP, l108_0, l108_0_b, ltl hy, nn, oif_t, ofNat_toNat, hx, hy, ob_s]
      by_cases c1 : s.getD j 0 > l.getD j 0
      · rw [decide_eq_true c1, oif_t]
        exact .inr ⟨fun h => by have := (h j (Nat.le_refl _) hlt).1; omega, rfl⟩
      · rw [decide_eq_false c1, oif_f]
        rcases it_in (d := d) (l := l) (s := s) (sj := s.getD j 0) (K := j108_1 d (iterP (l108_0 d l s K) f) (j : Int)) hl hb h40 s.length fuelN 0 (by omega) (by rw [fuelN_eq]; omega) with ⟨h1, h2⟩ | ⟨h1, h2⟩
        · have e : j108_1 d (iterP (l108_0 d l s K) f) (j : Int) false false ((s.length : Nat) : Int) = iterP (l108_0 d l s K) f (false, false, ((j + 1 : Nat) : Int)) := by
            unfold j108_1; rw [wr1 (by omega)]
          rcases ih f (j + 1) (by omega) (by omega) with ⟨p1, p2⟩ | ⟨p1, p2⟩
          · refine .inl ⟨fun i' g3 g4 => ?_, h2.trans (e.trans p2)⟩
            rcases Nat.eq_or_lt_of_le g3 with rfl | g6
            · exact ⟨by omega, fun i hi g => h1 i (Nat.zero_le _) (by omega) g⟩
            · exact p1 i' g6 g4
          · exact .inr ⟨fun h => p1 fun i' g3 g4 => h i' (by omega) g4, h2.trans (e.trans p2)⟩
        · exact .inr ⟨fun h => h1 fun i _ hi g => (h j (Nat.le_refl _) hlt).2 i (by omega) g, h2⟩

noncomputable def isV (l s : List Int) (c : Int) : Bool × Bool := if (pairOk l s && cpOk c) = true then (@decide (s.sum = min l.sum c ∧ fairP l s) (Classical.propDecidable _), true) else (false, false)

theorem q_IsFairShare {d : Nat} {l s : List Int} {c : Int} (hl : l.length < 4194304) (hs : s.length < 4194304) : g107 (d + 2) l s c = some (isV l s c) := by
  rw [e107, q_areShares hl, ob_s]; unfold isV j107_2
  cases hk : pairOk l s with
  | false =>
    rw [Bool.false_and, if_neg (by simp), q_areShares hs, ob_s]
    unfold pairOk at hk
    cases ha : shOk l with
    | false => rfl
    | true =>
    cases hb : shOk s with
    | false => rfl
    | true =>
    rw [ha, hb, Bool.true_and, Bool.true_and, decide_eq_false_iff_not] at hk
    rw [show (((s.length : Nat) : Int) != ((l.length : Nat) : Int)) = true by rw [bne_iff_ne]; exact hk]; rfl
  | true =>
  obtain ⟨a, b, e⟩ := pair_in hk
  obtain ⟨a1, a2, a3⟩ := sh_in a
  obtain ⟨b1, b2, b3⟩ := sh_in b
  rw [a, Bool.not_true, oif_f, q_areShares hs, ob_s, b, Bool.not_true, oif_f, e, bne_self_eq_false, oif_f, q_isCapacity, ob_s]
  cases cpOk c with
  | false => rfl
  | true =>
  rw [Bool.not_true, oif_f, Bool.and_self, if_pos rfl, q_sumInts (by omega) (fun x hx => by have := b1 x hx; omega), ob_s, q_sumInts (by omega) (fun x hx => by have := a1 x hx; omega), ob_s, mn]
  by_cases h1 : s.sum = min l.sum c
  · rw [show (s.sum != min l.sum c) = false by rw [bne_eq_false_iff_eq]; exact h1, oif_f]
    rcases is_out (d := d + 1) e b1 b3 l.length fuelN 0 (by omega) (by rw [fuelN_eq]; omega) with ⟨p, q⟩ | ⟨p, q⟩
    · refine q.trans ?_
      rw [@decide_eq_true _ (Classical.propDecidable _) ⟨h1, fun i hi => p i (Nat.zero_le _) hi⟩]
    · refine q.trans ?_
      rw [@decide_eq_false _ (Classical.propDecidable _) (fun h => p fun i _ hi => h.2 i hi)]
  · rw [show (s.sum != min l.sum c) = true by rw [bne_iff_ne]; exact h1, oif_t, @decide_eq_false _ (Classical.propDecidable _) (fun h => h1 h.1)]

theorem q_sIsFairShare {d : Nat} {l s : List Int} {c : Int} (hl : l.length < 4194304) (hs : s.length < 4194304) : g108 (d + 5) l s c = some (isV l s c) := by
  rw [e108, q_stPair hl hs, ob_s]; unfold isV j108_2
  cases hk : pairOk l s with
  | false => rfl
  | true =>
  obtain ⟨a, b, e⟩ := pair_in hk
  obtain ⟨a1, a2, a3⟩ := sh_in a
  obtain ⟨b1, b2, b3⟩ := sh_in b
  rw [Bool.not_true, oif_f, q_stCapacity, ob_s]
  cases cpOk c with
  | false => rfl
  | true =>
  rw [Bool.not_true, oif_f, Bool.and_self, if_pos rfl]
  have key : (∀ j', 0 ≤ j' → j' < l.length → s.getD j' 0 ≤ l.getD j' 0 ∧ ∀ i, i < l.length → s.getD i 0 < l.getD i 0 → s.getD j' 0 ≤ s.getD i 0 + 1) ↔ fairP l s :=
    ⟨fun h i hi => ⟨(h i (Nat.zero_le _) hi).1, fun j hj g => (h j (Nat.zero_le _) hj).2 i hi g⟩, fun h j _ hj => ⟨(h j hj).1, fun i hi g => (h i hi).2 j hj g⟩⟩
  rcases it_out (d := d + 4) (K := j108_0 (d + 4) l s c) e b1 b3 l.length fuelN 0 (by omega) (by rw [fuelN_eq]; omega) with ⟨p, q⟩ | ⟨p, q⟩
  · refine q.trans ?_
    unfold j108_0
    rw [q_stSum (by omega) (fun x hx => by have := b1 x hx; omega), ob_s, q_stSum (by omega) (fun x hx => by have := a1 x hx; omega), ob_s, q_l1Least, ob_s, Int.min_comm]
    by_cases h1 : s.sum = min l.sum c
    · rw [show (s.sum == min l.sum c) = true by rw [beq_iff_eq]; exact h1, @decide_eq_true _ (Classical.propDecidable _) ⟨h1, key.1 p⟩]
    · rw [show (s.sum == min l.sum c) = false by rw [beq_eq_false_iff_ne]; exact h1, @decide_eq_false _ (Classical.propDecidable _) (fun h => h1 h.1)]
  · refine q.trans ?_
    rw [@decide_eq_false _ (Classical.propDecidable _) (fun h => p (key.2 h.2))]

theorem p_valset {d : Nat} {m0 : Nat} {l : List Int} {r13 : Int × (List Int × Int × Int)} (hc : CurOk m0 r13.2) (hl : l.length ≤ 41) : ∀ (k fuel i : Nat) (s : List Int), i + k = l.length → k < fuel → s.length = l.length → Ok (iterP (l261_1 d l (j261_0 d r13)) fuel ((i : Int), s)) fun r => r.1.length ≤ 41 ∧ CurOk m0 r.2 := by
  intro k
  induction k with
  | zero =>
    intro fuel i s g1 g2 g3
    cases fuel with
    | zero => omega
    | succ f =>
      have : i = l.length := by omega
      subst this
      simp only [iterP, l261_1, l261_1_b, j261_0]
      rw [ltn, oif_f]
      exact Ok.some ⟨by simp only; omega, hc⟩
  | succ k ih =>
    intro fuel i s g1 g2 g3
    cases fuel with
    | zero => omega
    | succ f =>
      have hlt : i < l.length := by omega
      have hx : l[i]? = some l[i] := List.getElem?_eq_getElem hlt
      have hy : s[i]? = some (s.getD i 0) := gd (by omega)
      simp only [iterP, l261_1, l261_1_b, ltl hx, nn, oif_t, ofNat_toNat, bltl hy, hy, ob_s]
      rw [wr1 (by omega)]
      exact ih f (i + 1) _ (by omega) (by omega) (by rw [List.length_set, g3])

theorem p_val1 {d m : Nat} {l : List Int} {c : List Int × Int × Int} (hc : CurOk m c) (hm : m + 100 < 4611686018427387904) (h0 : 1 ≤ l.length) (hl : l.length ≤ 41) : Ok (j261_1 (d + 3) c.1 c.2.1 c.2.2 l) fun r => r.1.length ≤ 41 ∧ CurOk (m + 10) r.2 := by
  unfold j261_1
  refine Ok.bind (p_pick (c := c) hc (by omega)) fun r hr => ?_
  refine Ok.oif (fun _ => ?_) (fun _ => ?_)
  · refine Ok.bind (p_pick hr.2.2 (by omega)) fun q hq => ?_
    refine Ok.bind (p_among hq.2.2 (by omega) (by simp)) fun v hv => ?_
    obtain ⟨a1, a2, _⟩ := hq
    have hlt : q.1.toNat < l.length := by omega
    rw [decide_eq_true a1, oif_t, blt_of hlt, oif_t, List.getElem?_eq_getElem hlt, ob_s]
    exact Ok.some ⟨by simp only [List.length_set]; exact hl, hv.2.mono (by omega)⟩
  refine Ok.oif (fun _ => Ok.some ⟨by simp, hr.2.2.mono (by omega)⟩) (fun _ => ?_)
  refine Ok.oif (fun _ => ?_) (fun _ => Ok.some ⟨hl, hr.2.2.mono (by omega)⟩)
  exact Ok.mono (p_valset hr.2.2 hl l.length fuelN 0 l (by omega) (by rw [fuelN_eq]; omega) rfl) fun r h => ⟨h.1, h.2.mono (by omega)⟩

theorem p_val2 {d m : Nat} {n : Int} {c : List Int × Int × Int} (hc : CurOk m c) (hm : m + 400 < 4611686018427387904) (h0 : 1 ≤ n) (hn : n ≤ 41) : Ok (j261_2 (d + 3) n c.1 c.2.1 c.2.2) fun r => r.1.length ≤ 41 ∧ CurOk (m + 200) r.2 := by
  unfold j261_2
  refine iter_ok (fun k s => k = (n - (s.1.length : Int)).toNat ∧ s.1.length ≤ 41 ∧ CurOk (m + 4 * s.1.length) s.2) ?_ fuelN (n - 0).toNat ([], (c.1, c.2.1, c.2.2)) (by rw [fuelN_eq]; omega) ⟨by simp, by simp, by simpa using hc⟩
  rintro k ⟨out, y⟩ ag ⟨h1, h2, h3⟩ hag
  simp only at h1 h2 h3
  simp only [l261_0, l261_0_b]
  refine Ok.oif (fun hlt => ?_) (fun hge => ?_)
  · simp only [decide_eq_true_eq] at hlt
    refine Ok.bind (p_pick h3 (by omega)) fun r hr => ?_
    refine Ok.bind (p_among hr.2.2 (by omega) (by simp)) fun v hv => ?_
    have hlen : (out ++ [v.1]).length = out.length + 1 := by rw [List.length_append, List.length_singleton]
    have hrm : Nat.ble ((out.length + [v.1].length) * 8) roomMax = true := room (by rw [List.length_singleton]; omega)
    rw [hrm, oif_t]
    exact hag ((n - ((out.length + 1 : Nat) : Int)).toNat) _ (by omega) ⟨by simp only [hlen], by simp only [hlen]; omega, by simp only [hlen]; exact hv.2.mono (by omega)⟩
  · simp only [decide_eq_false_iff_not] at hge
    exact Ok.mono (p_val1 h3 (by omega) (by omega) h2) fun r h => ⟨h.1, h.2.mono (by omega)⟩

theorem p_values {d m : Nat} {c : List Int × Int × Int} (hc : CurOk m c) (hm : m + 500 < 4611686018427387904) : Ok (g261 (d + 4) c) fun r => r.1.length ≤ 41 ∧ CurOk (m + 300) r.2 := by
  rw [e261]
  refine Ok.bind (p_pick hc (by omega)) fun r2 h2 => ?_
  refine Ok.bind (p_one h2.2.2 (by omega)) fun r3 h3 => ?_
  obtain ⟨b1, b2, _⟩ := h2
  refine Ok.oif (fun _ => ?_) (fun _ => ?_)
  · refine Ok.bind (p_pick h3 (by omega)) fun r4 h4 => ?_
    obtain ⟨a1, a2, a3⟩ := h4
    exact Ok.mono (p_val2 a3 (by omega) (by rw [wr (by omega) (by omega)]; omega) (by rw [wr (by omega) (by omega)]; omega)) fun r h => ⟨h.1, h.2.mono (by omega)⟩
  · exact Ok.mono (p_val2 h3 (by omega) (by rw [wr (by omega) (by omega)]; omega) (by rw [wr (by omega) (by omega)]; omega)) fun r h => ⟨h.1, h.2.mono (by omega)⟩

theorem p_capacity {d m : Nat} {c : List Int × Int × Int} {l : List Int} (hc : CurOk m c) (hm : m + 50 < 4611686018427387904) (hl : l.length < 4194304) : Ok (g262 (d + 4) c l) fun r => CurOk (m + 10) r.2 := by
  rw [e262]
  refine Ok.bind (p_pick hc (by omega)) fun r3 h3 => ?_
  refine Ok.bind (p_stSum hl) fun r4 _ => ?_
  rw [q_l1Least, ob_s]
  refine Ok.bind (p_stSum hl) fun r6 _ => ?_
  rw [q_l1Most, ob_s]
  exact Ok.bind (p_among h3.2.2 (by omega) (by simp)) fun r8 h8 => Ok.some (h8.2.mono (by omega))

theorem p_DrawFairShares {d : Nat} {x : List Int} (hx : Bytes x) : Ok (g100 (d + 5) x) fun r => r.1.length ≤ 41 := by
  rw [e100]
  refine Ok.bind (p_values (CurOk.new hx) (by omega)) fun r2 h2 => ?_
  exact Ok.bind (p_capacity h2.2 (by omega) (by omega)) fun r3 h3 => Ok.some h2.1

theorem p_ws0 {d m : Nat} {a b : List Int} {c : List Int × Int × Int} (hc : CurOk m c) (hm : m + 50 < 4611686018427387904) (ha : a.length ≤ 41) (hb : b.length ≤ 42) : Ok (j103_0 (d + 4) c.1 c.2.1 c.2.2 a b) fun r => r.1.length ≤ 41 ∧ r.2.1.length ≤ 42 := by
  unfold j103_0
  refine Ok.bind (p_pick (c := c) hc (by omega)) fun r3 h3 => ?_
  refine Ok.bind (p_stSum (by omega)) fun r4 _ => ?_
  exact Ok.bind (p_among h3.2.2 (by omega) (by simp)) fun r8 h8 => Ok.some ⟨ha, hb⟩

theorem p_ws1 {d m : Nat} {r2 : List Int × (List Int × Int × Int)} {b : List Int} {c : List Int × Int × Int} (hc : CurOk m c) (hm : m + 100 < 4611686018427387904) (ha : r2.1.length ≤ 41) (hb : b.length ≤ 42) : Ok (j103_1 (d + 4) r2 c.1 c.2.1 c.2.2 b) fun r => r.1.length ≤ 41 ∧ r.2.1.length ≤ 42 := by
  unfold j103_1
  refine Ok.bind (p_one (c := c) hc (by omega)) fun r3 h3 => ?_
  refine Ok.oif (fun _ => ?_) (fun _ => p_ws0 h3 (by omega) ha hb)
  exact Ok.bind (p_pick h3 (by omega)) fun r4 h4 => p_ws0 h4.2.2 (by omega) (by simp) (by simp)

theorem p_ws2 {d m : Nat} {r2 : List Int × (List Int × Int × Int)} {b : List Int} {c : List Int × Int × Int} (hc : CurOk m c) (hm : m + 200 < 4611686018427387904) (ha : r2.1.length ≤ 41) (hb : b.length ≤ 41) : Ok (j103_2 (d + 4) r2 c.1 c.2.1 c.2.2 b) fun r => r.1.length ≤ 41 ∧ r.2.1.length ≤ 42 := by
  unfold j103_2
  refine Ok.bind (p_pick (c := c) hc (by omega)) fun r hr => ?_
  refine Ok.oif (fun _ => ?_) (fun _ => ?_)
  · have hrm : Nat.ble ((b.length + [(1 : Nat)].length) * 8) roomMax = true := room (by rw [List.length_singleton]; omega)
    rw [hrm, oif_t]
    exact p_ws1 hr.2.2 (by omega) ha (by rw [List.length_append, List.length_singleton]; omega)
  refine Ok.oif (fun _ => ?_) (fun _ => p_ws1 hr.2.2 (by omega) ha (by omega))
  refine Ok.oif (fun h => ?_) (fun _ => p_ws1 hr.2.2 (by omega) ha (by omega))
  simp only [decide_eq_true_eq] at h
  refine Ok.bind (p_among hr.2.2 (by omega) (by simp)) fun v hv => ?_
  have hlt : 0 < b.length := by omega
  rw [blt_of hlt, oif_t, List.getElem?_eq_getElem hlt, ob_s]
  exact p_ws1 hv.2 (by omega) ha (by rw [List.length_set]; omega)

theorem p_DrawWeightedShares {d : Nat} {x : List Int} (hx : Bytes x) : Ok (g103 (d + 5) x) fun r => r.1.length ≤ 41 ∧ r.2.1.length ≤ 42 := by
  rw [e103]
  refine Ok.bind (p_values (CurOk.new hx) (by omega)) fun r2 h2 => ?_
  obtain ⟨a1, a2⟩ := h2
  refine iter_ok (fun k s => ∃ i : Nat, s.2.1 = (i : Int) ∧ i + k = r2.1.length ∧ s.1.length = i ∧ CurOk (300 + 2 * i) s.2.2) ?_ fuelN r2.1.length ([], 0, r2.2) (by rw [fuelN_eq]; omega) ⟨0, rfl, by omega, rfl, a2.mono (by omega)⟩
  rintro k ⟨out, n, y⟩ ag ⟨i, h1, h2, h3, h4⟩ hag
  simp only at h1 h2 h3 h4
  subst h1
  simp only [l103_0, l103_0_b]
  refine Ok.oif (fun hlt => ?_) (fun _ => p_ws2 h4 (by omega) a1 (by omega))
  simp only [decide_eq_true_eq] at hlt
  refine Ok.bind (p_among h4 (by omega) (by simp)) fun v hv => ?_
  have hrm : Nat.ble ((out.length + [v.1].length) * 8) roomMax = true := room (by rw [List.length_singleton]; omega)
  rw [hrm, oif_t, wr1 (by omega)]
  exact hag (k - 1) _ (by omega) ⟨i + 1, rfl, by omega, by simp only; rw [List.length_append, List.length_singleton, h3], hv.2.mono (by omega)⟩

theorem p_DrawIsFairShare {d : Nat} {x : List Int} (hx : Bytes x) : Ok (g106 (d + 5) x) fun r => r.1.length ≤ 41 ∧ r.2.1.length ≤ 41 := by
  rw [e106]
  refine Ok.bind (p_values (CurOk.new hx) (by omega)) fun r2 h2 => ?_
  refine Ok.bind (p_capacity h2.2 (by omega) (by omega)) fun r3 h3 => ?_
  obtain ⟨a1, a2⟩ := h2
  rw [q_sFairShares (by omega), ob_s]
  have hf := fsV_len (l := r2.1) (c := r3.1)
  refine Ok.oif (fun _ => Ok.some ⟨a1, a1⟩) (fun hok => ?_)
  have hpos : 1 ≤ (fsV r2.1 r3.1).1.length := by
    unfold fsV at hok ⊢
    split
    · rename_i hc
      simp only [Bool.and_eq_true] at hc
      have := (sh_in hc.1).2.1
      rw [giveF_len]; exact this
    · rename_i hc; rw [if_neg hc] at hok; simp at hok
  refine Ok.bind (p_one h3 (by omega)) fun r5 h5 => ?_
  refine Ok.oif (fun _ => ?_) (fun _ => ?_)
  · refine Ok.bind (p_pick h5 (by omega)) fun r6 h6 => ?_
    obtain ⟨b1, b2, b3⟩ := h6
    have hlt : r6.1.toNat < (fsV r2.1 r3.1).1.length := by omega
    rw [decide_eq_true b1, oif_t, blt_of hlt, oif_t, List.getElem?_eq_getElem hlt, ob_s]
    refine Ok.bind (p_among b3 (by omega) (by simp)) fun r8 h8 => ?_
    rw [q_l1Most, ob_s, oif_t, oif_t, ob_s]
    exact Ok.bind (p_pick h8.2 (by omega)) fun r11 _ => Ok.some ⟨a1, by simp only [List.length_set]; omega⟩
  · exact Ok.bind (p_pick h5 (by omega)) fun r12 _ => Ok.some ⟨a1, by simp only; omega⟩

theorem p_DrawLeastServed {d : Nat} {x : List Int} (hx : Bytes x) : Ok (g109 (d + 6) x) fun r => r.1.length ≤ 41 ∧ r.2.length ≤ 41 := by
  rw [e109]
  exact Ok.bind (p_DrawIsFairShare hx) fun r hr => Ok.some hr

end Go.Proofs.Ytcoojpojnmnboaa
