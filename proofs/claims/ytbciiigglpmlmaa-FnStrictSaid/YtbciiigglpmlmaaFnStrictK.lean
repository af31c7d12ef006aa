/-
  What the cursor's functions and the small ones give by value.
  Conditions: the cursor has not been moved 2^62 times.
  Comparing and adding up lists of numbers; ranges.
  Conditions: the lists are shorter than the fuel.
  Bands: maps, marks, the order of sending, in both packages; the draws.
  Conditions: the lists are shorter than the fuel.
  Runs of bands: the state of a run, what holds of it, both loops; what is asked of arrivals.
  Conditions: the lists are short where said.
  Runs of bands: both loops give the same, and what holds of it.
  Conditions: what is asked of a run.
  Runs of bands: the functions in both packages, and the draws.
  Conditions: the lists are short.
  Nothing is given for functions outside.
  Conditions: none.
-/
import Derived.Test.YtbciiigglpmlmaaFnStrictRes
import Derived.Test.YtbciiigglpmlmaaPKit2
set_option linter.all false
namespace Go.Proofs.Ytbciiigglpmlmaa
open Go.Ev Go.Pv

theorem p_next {d m : Nat} {c : List Int × Int × Int} (hc : CurOk m c) (hm : m < 4611686018427387904) : Ok (g72 (d + 1) c) fun r => 0 ≤ r.1 ∧ r.1 < 256 ∧ CurOk (m + 1) r.2 := by
  obtain ⟨hb, h0, h1⟩ := hc
  obtain ⟨code, at', seed⟩ := c
  simp only at hb h0 h1
  have hw : IntKind.i64.wrap (at' + 1) = at' + 1 := wr (by omega) (by omega)
  rw [e72]
  have fin : ∀ n : Int, (at' < code.length → 0 ≤ n ∧ n < 256) → Ok (j72_0 d (code, at', seed) n) fun r => 0 ≤ r.1 ∧ r.1 < 256 ∧ CurOk (m + 1) r.2 := by
    intro n hn
    unfold j72_0
    simp only [hw]
    refine Ok.oif (fun h => ?_) (fun h => ?_)
    · simp only [decide_eq_true_eq] at h
      obtain ⟨a, b⟩ := hn (by omega)
      exact Ok.some ⟨a, b, hb, by simp only; omega, by simp only; omega⟩
    · exact Ok.some ⟨(seedByte _).1, (seedByte _).2, hb, by simp only; omega, by simp only; omega⟩
  refine Ok.oif (fun h => ?_) (fun h => ?_)
  · simp only [decide_eq_true_eq] at h
    refine Ok.oif (fun _ => ?_) (fun h2 => by simp only [decide_eq_false_iff_not] at h2; omega)
    have hlt : at'.toNat < code.length := by omega
    simp only
    rw [List.getElem?_eq_getElem hlt]
    have hx := hb _ (List.getElem_mem hlt)
    refine Ok.bind (Ok.some rfl) (fun a ha => ?_)
    subst ha
    exact fin _ (fun _ => by rw [wr (by omega) (by omega)]; exact hx)
  · simp only [decide_eq_false_iff_not] at h
    exact fin 0 (fun h' => absurd h' h)

theorem p_pick {d m : Nat} {c : List Int × Int × Int} {n : Int} (hc : CurOk m c) (hm : m + 1 < 4611686018427387904) : Ok (g47 (d + 2) c n) fun r => 0 ≤ r.1 ∧ (r.1 < n ∨ r.1 = 0) ∧ CurOk (m + 2) r.2 := by
  rw [e47]
  refine Ok.oif (fun h => ?_) (fun h => ?_)
  · exact Ok.some ⟨by simp, .inr rfl, hc.mono (by omega)⟩
  · simp only [decide_eq_false_iff_not] at h
    refine Ok.bind (p_next hc (by omega)) (fun r hr => ?_)
    obtain ⟨h1, h2, h3⟩ := hr
    have hn : (n == 0) = false := by simp; omega
    refine Ok.oif (fun h4 => ?_) (fun h4 => ?_)
    · refine Ok.bind (p_next h3 (by omega)) (fun q hq => ?_)
      obtain ⟨h5, h6, h7⟩ := hq
      rw [hn]
      rw [wr (n := r.1 * 256) (by omega) (by omega), wr (by omega) (by omega)]
      exact Ok.some ⟨Int.tmod_nonneg _ (by omega), .inl (Int.tmod_lt_of_pos _ (by omega)), h7.mono (by omega)⟩
    · rw [hn]
      exact Ok.some ⟨Int.tmod_nonneg _ (by omega), .inl (Int.tmod_lt_of_pos _ (by omega)), h3.mono (by omega)⟩

theorem p_among {d m : Nat} {c : List Int × Int × Int} {l : List Int} (hc : CurOk m c) (hm : m + 1 < 4611686018427387904) (hl : 0 < l.length) : Ok (g65 (d + 3) c l) fun r => r.1 ∈ l ∧ CurOk (m + 2) r.2 := by
  rw [e65]
  refine Ok.bind (p_pick hc hm) (fun r hr => ?_)
  obtain ⟨h1, h2, h3⟩ := hr
  refine Ok.oif (fun _ => ?_) (fun h => by simp only [decide_eq_false_iff_not] at h; omega)
  have hlt : r.1.toNat < l.length := by omega
  rw [List.getElem?_eq_getElem hlt]
  exact Ok.bind (Ok.some rfl) (fun a ha => by subst ha; exact Ok.some ⟨List.getElem_mem hlt, h3⟩)

theorem p_one {d m : Nat} {c : List Int × Int × Int} {n : Int} (hc : CurOk m c) (hm : m + 1 < 4611686018427387904) : Ok (g49 (d + 3) c n) fun r => CurOk (m + 2) r.2 := by
  rw [e49]
  exact Ok.bind (p_pick hc hm) (fun r hr => Ok.some hr.2.2)

theorem q_l1In {d : Nat} {x y z : Int} : g48 (d + 1) x y z = some (decide (y ≤ x ∧ x ≤ z)) := by
  rw [e48]; simp only [oif_ss]; congr 1; rw [Bool.eq_iff_iff]; simp

theorem q_isTicks {d : Nat} {x : Int} : g52 (d + 1) x = some (decide (0 ≤ x ∧ x ≤ 100000)) := by
  rw [e52]; simp only [oif_ss]; congr 1; rw [Bool.eq_iff_iff]; simp

def szOk (s : Int) : Bool := decide (1 ≤ s ∧ s ≤ 1500)

theorem q_l1Most {d : Nat} {x y : Int} : g40 (d + 1) x y = some (max x y) := by
  rw [e40]; simp only [oif_ss]; congr 1; simp only [decide_eq_true_eq]; split <;> omega

theorem q_qInts {d : Nat} {l : List Int} (hl : l.length < 4194304) : g19 (d + 1) l l = some true := by
  rw [e19, bne_self_eq_false, oif_f]
  refine (range_eq (fun (t : Bool) (i : Int) => (t, i)) l (fun x i t k => k t) (j19_0 d) ?_ ?_ (by rw [fuelN_eq]; exact hl) false).trans ?_
  · intro ag t i x hx; have hi := (List.getElem?_eq_some_iff.1 hx).1; simp only [l19_0, l19_0_b, ltl hx, bltl hx, nn, ofNat_toNat, hx, ob_s, oif_t]; rw [wr1 (by omega)]
    simp only [bne_self_eq_false, oif_f]
  · intro ag t; simp only [l19_0, l19_0_b, ltn, oif_f]
  · rw [rangeR_fold (f := fun _ _ t => t)]; rfl

theorem q_l1All {d : Nat} {l : List Int} {a b : Int} (hl : l.length < 4194304) : g71 (d + 2) l a b = some (l.all fun x => decide (a ≤ x ∧ x ≤ b)) := by
  rw [e71]
  refine (range_eq (fun (t : Bool) (i : Int) => (t, i)) l (fun x _ t k => oif (decide (a ≤ x ∧ x ≤ b)) (k t) (some false)) (j71_0 (d + 1)) ?_ ?_ (by rw [fuelN_eq]; exact hl) false).trans ?_
  · intro ag t i x hx; have hi := (List.getElem?_eq_some_iff.1 hx).1; simp only [l71_0, l71_0_b, ltl hx, bltl hx, nn, ofNat_toNat, hx, ob_s, oif_t]; rw [wr1 (by omega)]
    rw [q_l1In, ob_s]; cases decide (a ≤ x ∧ x ≤ b) <;> rfl
  · intro ag t; simp only [l71_0, l71_0_b, ltn, oif_f]
  · rw [rangeR_all (p := fun x => decide (a ≤ x ∧ x ≤ b))]; cases l.all _ <;> rfl

def bmOk (l : List Int) : Bool := l.all (fun x => decide (0 ≤ x ∧ x ≤ 7)) && (((l.length : Nat) : Int) == 16)

def mkOk (n : Int) : Bool := decide (0 ≤ n ∧ n ≤ 65535)

def mksOk (l : List Int) : Bool := l.all mkOk && decide (((l.length : Nat) : Int) ≤ 40)

def bandAt (l : List Int) (m : Int) : Int := l.getD (m.tmod 16).toNat 0

theorem bmOk_len {l : List Int} (h : bmOk l = true) : l.length = 16 := by
  simp only [bmOk, Bool.and_eq_true, beq_iff_eq] at h; omega

theorem bandAt_in {l : List Int} (h : bmOk l = true) {m : Int} (hm : mkOk m = true) : decide (0 ≤ m.tmod 16) = true ∧ l[(m.tmod 16).toNat]? = some (bandAt l m) ∧ 0 ≤ bandAt l m ∧ bandAt l m ≤ 7 := by
  have hl := bmOk_len h
  simp only [mkOk, decide_eq_true_eq] at hm
  have h1 : 0 ≤ m.tmod 16 := Int.tmod_nonneg _ hm.1
  have h2 : m.tmod 16 < 16 := Int.tmod_lt_of_pos _ (by omega)
  have h3 : (m.tmod 16).toNat < l.length := by omega
  have e : bandAt l m = l[(m.tmod 16).toNat] := by unfold bandAt; simp [List.getD, List.getElem?_eq_getElem h3]
  refine ⟨by simpa using h1, by rw [e]; exact List.getElem?_eq_getElem h3, ?_⟩
  simp only [bmOk, Bool.and_eq_true, List.all_eq_true] at h
  have := h.1 _ (List.getElem_mem h3)
  rw [e]; simpa using this

theorem q_IsBandMap {d : Nat} {l : List Int} (hl : l.length < 4194304) : g42 (d + 1) l = some (bmOk l) := by
  rw [e42]
  refine (range_eq (fun (t : Bool) (i : Int) => (t, i)) l (fun x _ t k => oif (decide (0 ≤ x ∧ x ≤ 7)) (k t) (some false)) (j42_0 d l) ?_ ?_ (by rw [fuelN_eq]; exact hl) false).trans ?_
  · intro ag t i x hx; have hi := (List.getElem?_eq_some_iff.1 hx).1; simp only [l42_0, l42_0_b, ltl hx, bltl hx, nn, ofNat_toNat, hx, ob_s, oif_t]; rw [wr1 (by omega)]
    simp only [oif_ite, decide_eq_true_eq]
    by_cases h1 : x < 0 <;> by_cases h2 : x ≥ 8 <;> simp [h1, h2] <;> omega
  · intro ag t; simp only [l42_0, l42_0_b, ltn, oif_f]
  · rw [rangeR_all (p := fun x => decide (0 ≤ x ∧ x ≤ 7))]; unfold bmOk j42_0; cases l.all _ <;> rfl

theorem q_isMark {d : Nat} {n : Int} : g70 (d + 1) n = some (mkOk n) := by
  rw [e70]; simp only [oif_ss]; congr 1; rw [Bool.eq_iff_iff]; simp [mkOk]

theorem q_bdMark {d : Nat} {n : Int} : g83 (d + 2) n = some (mkOk n) := by
  rw [e83, q_l1In, ob_s]; rfl

theorem q_bdMap {d : Nat} {l : List Int} (hl : l.length < 4194304) : g45 (d + 3) l = some (bmOk l) := by
  rw [e45]; simp only [q_l1All hl, ob_s]; unfold bmOk; rw [Bool.and_comm]; cases (((l.length : Nat) : Int) == 16) <;> rfl

def boV (l : List Int) (m : Int) : Int × Bool := if bmOk l && mkOk m then (bandAt l m, true) else (0, false)

/-- The places of the marks of a band. -/
def ofBand (l ms : List Int) (b : Int) : List Int := selI (fun x _ => bandAt l x == b) (fun _ i => (i : Int)) ms 0

def sendV (l ms : List Int) : List Int := (List.range 8).flatMap fun b : Nat => ofBand l ms (b : Int)

def soV (l ms : List Int) : List Int × Bool := if bmOk l && mksOk ms then (sendV l ms, true) else ([], false)

theorem p_bandMap {d m : Nat} {c : List Int × Int × Int} (hc : CurOk m c) (hm : m < 100000) : Ok (g32 (d + 4) c) fun r => r.1.length ≤ 17 ∧ CurOk (m + 100) r.2 := by
  rw [e32]
  have e0 : (Nat.ble 16 16 && Nat.ble (16 * 8) roomMax) = true := by simp [roomMax]
  rw [e0, oif_t]
  refine Ok.bind (p_pick hc (by omega)) fun r hr => ?_
  obtain ⟨a1, a2, a3⟩ := hr
  refine iter_ok (fun n s => ∃ i : Nat, s.1 = (i : Int) ∧ i + n = 16 ∧ CurOk (m + 2 + 2 * i) s.2.1 ∧ s.2.2.length = 16) ?_ _ 16 _ (by rw [fuelN_eq]; omega) ⟨0, rfl, rfl, by simpa using a3, by simp⟩
  rintro n ⟨_, x, l⟩ ag ⟨i, rfl, hin, hx, hl⟩ hag
  simp only at hx hl
  simp only [l32_0, l32_0_b]
  refine Ok.oif (fun h => ?_) (fun h => ?_)
  · simp at h
    refine Ok.bind (p_pick hx (by omega)) fun q hq => ?_
    have hlt : i < l.length := by omega
    simp only [nn, ofNat_toNat, oif_t, blt_of hlt]
    rw [List.getElem?_eq_getElem hlt, ob_s, wr1 (by omega)]
    exact hag (n - 1) _ (by omega) ⟨i + 1, rfl, by omega, hq.2.2.mono (by omega), by simpa using hl⟩
  · simp at h
    unfold j32_0
    refine Ok.bind (p_pick (m := m + 2 + 2 * i) (c := (x.1, x.2.1, x.2.2)) hx (by omega)) fun q hq => ?_
    refine Ok.oif (fun _ => ?_) (fun _ => Ok.oif (fun _ => ?_) (fun _ => Ok.oif (fun _ => ?_) (fun _ => ?_)))
    · refine Ok.bind (p_pick hq.2.2 (by omega)) fun u hu => ?_
      refine Ok.bind (p_among hu.2.2 (by omega) (by simp)) fun v hv => ?_
      have hlt : u.1.toNat < l.length := by omega
      have e1 : decide (0 ≤ u.1) = true := by simpa using hu.1
      simp only [e1, oif_t, blt_of hlt]
      rw [List.getElem?_eq_getElem hlt, ob_s]
      exact Ok.some ⟨by simp; omega, hv.2.mono (by omega)⟩
    · have e1 : Nat.ble 15 l.length = true := by rw [Nat.ble_eq]; omega
      rw [e1, oif_t]
      exact Ok.some ⟨by simp; omega, hq.2.2.mono (by omega)⟩
    · rw [room (by simp; omega), oif_t]
      exact Ok.some ⟨by simp; omega, hq.2.2.mono (by omega)⟩
    · exact Ok.some ⟨by simp only; omega, hq.2.2.mono (by omega)⟩

theorem p_marks1 {d m : Nat} {c : List Int × Int × Int} {l : List Int} (hc : CurOk m c) (hm : m < 200000) (hl : l.length ≤ 41) : Ok (j67_1 (d + 3) c.1 c.2.1 c.2.2 l) fun r => r.1.length ≤ 41 ∧ CurOk (m + 10) r.2 := by
  unfold j67_1 j67_0
  refine Ok.oif (fun h => ?_) (fun h => Ok.some ⟨hl, hc.mono (by omega)⟩)
  simp at h
  refine Ok.bind (p_one hc (by omega)) fun q hq => ?_
  refine Ok.oif (fun _ => ?_) (fun _ => Ok.some ⟨hl, hq.mono (by omega)⟩)
  refine Ok.bind (p_among (c := (q.2.1, q.2.2.1, q.2.2.2)) hq (by omega) (by simp)) fun u hu => ?_
  have hlt : 0 < l.length := by omega
  rw [blt_of hlt, oif_t, List.getElem?_eq_getElem hlt, ob_s]
  exact Ok.some ⟨by simpa using hl, hu.2.mono (by omega)⟩

theorem p_marks {d m : Nat} {c : List Int × Int × Int} (hc : CurOk m c) (hm : m < 100000) : Ok (g67 (d + 4) c) fun r => r.1.length ≤ 41 ∧ CurOk (m + 200) r.2 := by
  rw [e67]
  refine Ok.bind (p_pick hc (by omega)) fun r hr => ?_
  refine Ok.bind (p_one hr.2.2 (by omega)) fun q hq => ?_
  have key : ∀ (n : Int) (c : List Int × Int × Int), n ≤ 41 → CurOk (m + 50) c → Ok (j67_2 (d + 3) n c.1 c.2.1 c.2.2) fun r => r.1.length ≤ 41 ∧ CurOk (m + 200) r.2 := by
    intro n c hn hc
    unfold j67_2
    refine iter_ok (fun k s => s.1.length + k = 41 ∧ CurOk (m + 50 + 2 * s.1.length) s.2) ?_ _ 41 _ (by rw [fuelN_eq]; omega) ⟨by simp, by simpa using hc⟩
    rintro k ⟨l, x⟩ ag ⟨h1, h2⟩ hag
    simp only at h1 h2
    simp only [l67_0, l67_0_b]
    refine Ok.oif (fun h => ?_) (fun h => ?_)
    · simp at h
      refine Ok.bind (p_pick h2 (by omega)) fun u hu => ?_
      rw [room (by simp; omega), oif_t]
      exact hag (k - 1) _ (by omega) ⟨by simp; omega, by simpa using hu.2.2.mono (by omega)⟩
    · exact (p_marks1 h2 (by omega) (by omega)).mono fun r hr => ⟨hr.1, hr.2.mono (by omega)⟩
  refine Ok.oif (fun _ => ?_) (fun _ => ?_)
  · refine Ok.bind (p_pick hq (by omega)) fun u hu => ?_
    refine key _ u.2 ?_ (hu.2.2.mono (by omega))
    rw [wr (by omega) (by omega)]; omega
  · exact key r.1 q.2 (by omega) (hq.mono (by omega))

abbrev Ar := List (Int × Int)
abbrev Rw := List (List Int)

def anyI {α : Type} (q : α → Nat → Bool) : List α → Nat → Bool
  | [], _ => false
  | x :: r, i => q x i || anyI q r (i + 1)

theorem rangeR_any {α τ β : Type} {q : α → Nat → Bool} {no : Option β} {fin : τ → Option β} : ∀ (l : List α) (i : Nat) (t : τ), rangeR (fun x i t k => oif (q x i) no (k t)) fin l i t = oif (anyI q l i) no (fin t)
  | [], i, t => rfl
  | x :: r, i, t => by
    simp only [rangeR, anyI]
    rw [rangeR_any r (i + 1) t]
    cases q x i <;> rfl

theorem anyI_false {α : Type} {q : α → Nat → Bool} : ∀ (l : List α) (i : Nat), anyI q l i = false ↔ ∀ j x, l[j]? = some x → q x (i + j) = false
  | [], i => by simp [anyI]
  | y :: r, i => by
    simp only [anyI, Bool.or_eq_false_iff, anyI_false r (i + 1)]
    constructor
    · rintro ⟨h1, h2⟩ j x hj
      cases j with
      | zero => simp at hj; subst hj; exact h1
      | succ j => simp at hj; have := h2 j x hj; rw [show i + (j + 1) = i + 1 + j by omega]; exact this
    · intro h
      exact ⟨h 0 y rfl, fun j x hj => by have := h (j + 1) x (by simpa using hj); rw [show i + 1 + j = i + (j + 1) by omega]; exact this⟩

def arBad (l : Ar) (x : Int × Int) (i : Nat) : Bool := !(decide (0 ≤ x.1 ∧ x.1 ≤ 100000)) || (!(mkOk x.2) || (decide (0 < i) && decide (x.1 < (l.getD (i - 1) (0, 0)).1)))

def arOk (l : Ar) : Bool := !anyI (arBad l) l 0 && decide (l.length ≤ 40)

def tk (a : Ar) (i : Nat) : Int := (a.getD i (0, 0)).1

def bN (l : List Int) (a : Ar) (i : Nat) : Nat := (bandAt l (a.getD i (0, 0)).2).toNat

def cOk (l : List Int) (a : Ar) (lim : Int) : Bool := bmOk l && (arOk a && decide (1 ≤ lim ∧ lim ≤ 40))

theorem arOk_len {a : Ar} (h : arOk a = true) : a.length ≤ 40 := by
  unfold arOk at h
  simp only [Bool.and_eq_true, decide_eq_true_eq] at h; exact h.2

theorem arOk_at {a : Ar} (h : arOk a = true) {i : Nat} {x : Int × Int} (hx : a[i]? = some x) : (0 ≤ x.1 ∧ x.1 ≤ 100000) ∧ mkOk x.2 = true ∧ (0 < i → tk a (i - 1) ≤ x.1) ∧ tk a i = x.1 ∧ a.getD i (0, 0) = x := by
  unfold arOk at h
  simp only [Bool.and_eq_true, Bool.not_eq_true'] at h
  have h1 := (anyI_false _ _).1 h.1 i x hx
  have hd : a.getD i (0, 0) = x := by simp [List.getD, hx]
  unfold arBad at h1
  simp only [Bool.or_eq_false_iff, Bool.not_eq_false', decide_eq_true_eq, Bool.and_eq_false_iff, decide_eq_false_iff_not, Nat.zero_add] at h1
  refine ⟨h1.1, h1.2.1, fun h0 => ?_, by unfold tk; rw [hd], hd⟩
  rcases h1.2.2 with g | g
  · omega
  · unfold tk; omega

theorem tk_le {a : Ar} (h : arOk a = true) : ∀ {j i : Nat}, i ≤ j → j < a.length → tk a i ≤ tk a j
  | 0, i, h1, _ => by have : i = 0 := by omega
                      subst this; exact Int.le_refl _
  | j + 1, i, h1, h2 => by
    rcases Nat.lt_or_ge i (j + 1) with g | g
    · have h3 := tk_le h (j := j) (i := i) (by omega) (by omega)
      obtain ⟨_, _, h4, h5, _⟩ := arOk_at h (List.getElem?_eq_getElem h2)
      have := h4 (by omega)
      rw [Nat.add_sub_cancel] at this
      rw [h5]; omega
    · have : i = j + 1 := by omega
      subst this; exact Int.le_refl _

theorem tk_in {a : Ar} (h : arOk a = true) {i : Nat} (hi : i < a.length) : 0 ≤ tk a i ∧ tk a i ≤ 100000 := by
  obtain ⟨h1, _, _, h5, _⟩ := arOk_at h (List.getElem?_eq_getElem hi)
  rw [h5]; exact h1

theorem q_areMarked {d : Nat} {l : Ar} (hl : l.length < 4194304) : g43 (d + 2) l = some (arOk l) := by
  rw [e43]
  refine (range_eq (fun (t : Bool) (i : Int) => (t, i)) l (fun x i t k => oif (arBad l x i) (some false) (k t)) (j43_0 (d + 1) l) ?_ ?_ (by rw [fuelN_eq]; exact hl) false).trans ?_
  · intro ag t i x hx
    have hi := (List.getElem?_eq_some_iff.1 hx).1
    simp only [l43_0, l43_0_b, ltl hx, nn, ofNat_toNat, hx, ob_s, oif_t, q_isTicks, q_isMark, j43_1]
    rw [wr1 (by omega)]
    unfold arBad
    cases decide (0 ≤ x.1 ∧ x.1 ≤ 100000) with
    | false => rfl
    | true =>
      cases mkOk x.2 with
      | false => rfl
      | true =>
        by_cases h0 : 0 < i
        · rw [decide_eq_true (show (i : Int) > 0 by omega), wr (n := (i : Int) - 1) (by omega) (by omega), show (i : Int) - 1 = ((i - 1 : Nat) : Int) by omega, decide_eq_true h0]
          simp only [Bool.not_true, oif_f, oif_t, nn, ofNat_toNat, Bool.false_or, Bool.true_and]
          rw [List.getElem?_eq_getElem (show i - 1 < l.length by omega), ob_s]
          simp only [List.getD, List.getElem?_eq_getElem (show i - 1 < l.length by omega), Option.getD_some]
        · rw [decide_eq_false (show ¬ (i : Int) > 0 by omega), decide_eq_false h0]
          rfl
  · intro ag t; simp only [l43_0, l43_0_b, ltn, oif_f]
  · rw [rangeR_any]
    unfold arOk j43_0
    cases anyI (arBad l) l 0 with
    | true => rfl
    | false => simp only [oif_f, Bool.not_false, Bool.true_and]; congr 1; rw [Bool.eq_iff_iff]; simp; omega

theorem q_bdArrivals {d : Nat} {l : Ar} (hl : l.length < 4194304) : g69 (d + 3) l = some (arOk l) := by
  rw [e69]
  refine (range_eq (fun (t : Bool) (i : Int) => (t, i)) l (fun x i t k => oif (arBad l x i) (some false) (k t)) (j69_0 (d + 2) l) ?_ ?_ (by rw [fuelN_eq]; exact hl) false).trans ?_
  · intro ag t i x hx
    have hi := (List.getElem?_eq_some_iff.1 hx).1
    simp only [l69_0, l69_0_b, ltl hx, nn, ofNat_toNat, hx, ob_s, oif_t, q_l1In, q_bdMark, j69_1]
    rw [wr1 (by omega)]
    unfold arBad
    cases decide (0 ≤ x.1 ∧ x.1 ≤ 100000) with
    | false => rfl
    | true =>
      cases mkOk x.2 with
      | false => rfl
      | true =>
        by_cases h0 : 0 < i
        · rw [decide_eq_true (show (i : Int) > 0 by omega), wr (n := (i : Int) - 1) (by omega) (by omega), show (i : Int) - 1 = ((i - 1 : Nat) : Int) by omega, decide_eq_true h0]
          simp only [Bool.not_true, oif_f, oif_t, nn, ofNat_toNat, Bool.false_or, Bool.true_and]
          rw [List.getElem?_eq_getElem (show i - 1 < l.length by omega), ob_s]
          simp only [List.getD, List.getElem?_eq_getElem (show i - 1 < l.length by omega), Option.getD_some]
        · rw [decide_eq_false (show ¬ (i : Int) > 0 by omega), decide_eq_false h0]
          rfl
  · intro ag t; simp only [l69_0, l69_0_b, ltn, oif_f]
  · rw [rangeR_any]
    unfold arOk j69_0
    cases anyI (arBad l) l 0 with
    | true => rfl
    | false => simp only [oif_f, Bool.not_false, Bool.true_and]; congr 1; rw [Bool.eq_iff_iff]; simp; omega

theorem q_canRunBands {d : Nat} {l : List Int} {a : Ar} {lim : Int} (hl : l.length < 4194304) (ha : a.length < 4194304) : g35 (d + 3) l a lim = some (cOk l a lim) := by
  rw [e35, q_IsBandMap hl, ob_s]
  unfold cOk
  cases bmOk l with
  | false => rfl
  | true =>
    rw [oif_t, q_areMarked ha, ob_s]
    cases arOk a with
    | false => rfl
    | true =>
      rw [oif_t, oif_ss]
      congr 1
      by_cases h1 : 1 ≤ lim
      · rw [if_pos (decide_eq_true h1)]
        rw [Bool.eq_iff_iff]; simp; omega
      · rw [if_neg (by simpa using h1)]
        rw [Bool.eq_iff_iff]; simp; omega

theorem q_bdAsked {d : Nat} {l : List Int} {a : Ar} {lim : Int} (hl : l.length < 4194304) (ha : a.length < 4194304) : g37 (d + 4) l a lim = some (cOk l a lim) := by
  rw [e37, q_bdMap hl, ob_s]
  unfold cOk
  cases bmOk l with
  | false => rfl
  | true =>
    rw [oif_t, q_bdArrivals ha, ob_s]
    cases arOk a with
    | false => rfl
    | true => rw [oif_t, q_l1In, ob_s]; rfl

/-- Rows. -/
def row (W : Rw) (b : Nat) : List Int := W.getD b []

def cntW (W : Rw) : Nat := (W.map List.length).sum

theorem row_get {W : Rw} {b : Nat} (h : b < W.length) : W[b]? = some (row W b) := by unfold row; simp [List.getD, List.getElem?_eq_getElem h]

theorem row_out {W : Rw} {b : Nat} (h : W.length ≤ b) : row W b = [] := by unfold row; simp [List.getD, List.getElem?_eq_none h]

theorem row_set {W : Rw} {b c : Nat} {q : List Int} (h : b < W.length) : row (W.set b q) c = if c = b then q else row W c := by
  unfold row
  simp only [List.getD]
  by_cases hc : c = b
  · subst hc; rw [List.getElem?_set_self h, if_pos rfl]; rfl
  · rw [List.getElem?_set_ne (fun e => hc e.symm), if_neg hc]

theorem cnt_set : ∀ (W : Rw) (b : Nat) (q : List Int), b < W.length → cntW (W.set b q) + (row W b).length = cntW W + q.length
  | [], b, q, h => by simp at h
  | p :: W, 0, q, _ => by simp [cntW, row]; omega
  | p :: W, b + 1, q, h => by
    have := cnt_set W b q (by simpa using h)
    have e : row (p :: W) (b + 1) = row W b := by simp [row]
    rw [e]
    simp only [cntW, List.set_cons_succ, List.map_cons, List.sum_cons] at this ⊢
    omega

theorem cnt_row : ∀ (W : Rw) (b : Nat), (row W b).length ≤ cntW W
  | [], b => by simp [row]
  | p :: W, 0 => by simp [cntW, row]
  | p :: W, b + 1 => by
    have := cnt_row W b
    have e : row (p :: W) (b + 1) = row W b := by simp [row]
    rw [e]
    simp only [cntW, List.map_cons, List.sum_cons] at this ⊢
    omega

theorem cnt_zero {W : Rw} (h : cntW W = 0) (b : Nat) : row W b = [] := by
  have := cnt_row W b
  exact List.length_eq_zero_iff.1 (by omega)

theorem eight {W : Rw} (h : W.length = 8) : [row W 0, row W 1, row W 2, row W 3, row W 4, row W 5, row W 6, row W 7] = W := by
  match W, h with
  | [_, _, _, _, _, _, _, _], _ => rfl

def acc (l : List Int) (a : Ar) (lim : Int) (i : Nat) (W : Rw) : Rw := if (((row W (bN l a i)).length : Nat) : Int) < lim then W.set (bN l a i) (row W (bN l a i) ++ [(i : Int)]) else W

def arrs (l : List Int) (a : Ar) (lim now : Int) : Nat → Nat → Rw → Nat × Rw
  | 0, i, W => (i, W)
  | j + 1, i, W => if tk a i = now then arrs l a lim now j (i + 1) (acc l a lim i W) else (i, W)

def fb (W : Rw) : Nat → Nat → Option Nat
  | 0, _ => none
  | j + 1, b => if (row W b).isEmpty = true then fb W j (b + 1) else some b

theorem acc_len {l : List Int} {a : Ar} {lim : Int} {i : Nat} {W : Rw} : (acc l a lim i W).length = W.length := by unfold acc; split <;> simp

theorem acc_cnt {l : List Int} {a : Ar} {lim : Int} {i : Nat} {W : Rw} (h : bN l a i < W.length) : cntW W ≤ cntW (acc l a lim i W) ∧ cntW (acc l a lim i W) ≤ cntW W + 1 := by
  unfold acc
  split
  · have := cnt_set W (bN l a i) (row W (bN l a i) ++ [(i : Int)]) h
    simp at this; omega
  · omega

theorem bN_lt {l : List Int} {a : Ar} (hm : bmOk l = true) (ha : arOk a = true) {i : Nat} (hi : i < a.length) : bN l a i < 8 := by
  obtain ⟨_, h2, _, _, h5⟩ := arOk_at ha (List.getElem?_eq_getElem hi)
  obtain ⟨_, _, h3, h4⟩ := bandAt_in hm h2
  unfold bN; rw [h5]; omega

/-- What holds of a run at a tick: the waiting, the ones to come, the sent ones. -/
structure RI (l : List Int) (a : Ar) (now : Int) (at' : Nat) (W : Rw) (out : List Int) : Prop where
  wl : W.length = 8
  ol : out.length = a.length
  al : at' ≤ a.length
  n0 : 0 ≤ now
  sor : ∀ b, (row W b).Pairwise (· < ·)
  rows : ∀ b x, x ∈ row W b → ∃ i : Nat, x = (i : Int) ∧ i < at' ∧ bN l a i = b ∧ out[i]? = some (-1) ∧ tk a i ≤ now
  fut : ∀ i, at' ≤ i → i < a.length → out[i]? = some (-1) ∧ now ≤ tk a i
  snt : ∀ (i : Nat) (t : Int), out[i]? = some t → t = -1 ∨ (tk a i ≤ t ∧ t < now ∧ 0 ≤ t)
  dis : ∀ (i k : Nat) (t : Int), out[i]? = some t → out[k]? = some t → t = -1 ∨ i = k
  str : ∀ (k : Nat) (t : Int), out[k]? = some t → 0 ≤ t → ∀ i : Nat, ((∃ b, (i : Int) ∈ row W b) ∨ (at' ≤ i ∧ i < a.length) ∨ ∃ u, out[i]? = some u ∧ t < u) → (tk a i ≤ t → bN l a k ≤ bN l a i) ∧ (i < k → bN l a k < bN l a i)
  fst0 : 0 < at' → (∃ b, ((0 : Nat) : Int) ∈ row W b) ∨ ∃ t, out[0]? = some t ∧ 0 ≤ t

theorem RI.start (l : List Int) (a : Ar) (ha : arOk a = true) : RI l a 0 0 (List.replicate 8 []) (List.replicate a.length (-1)) := by
  have hr : ∀ b, row (List.replicate 8 ([] : List Int)) b = [] := by
    intro b
    rcases Nat.lt_or_ge b 8 with h | h
    · unfold row; rw [List.getD, List.getElem?_replicate, if_pos h]; rfl
    · exact row_out (by simpa using h)
  have ho : ∀ (i : Nat) (t : Int), (List.replicate a.length (-1 : Int))[i]? = some t → t = -1 := by
    intro i t h
    have := List.mem_of_getElem? h
    rw [List.mem_replicate] at this; exact this.2
  refine ⟨by simp, by simp, by omega, by omega, fun b => by rw [hr]; exact List.Pairwise.nil, fun b x h => by rw [hr] at h; simp at h, fun i _ hi => ⟨by simp [hi], (tk_in ha hi).1⟩, fun i t h => .inl (ho i t h), fun i k t h _ => .inl (ho i t h), fun k t h ht => ?_, fun h => by omega⟩
  have := ho k t h; omega

theorem RI.jump {l : List Int} {a : Ar} {now now1 : Int} {at' : Nat} {W : Rw} {out : List Int} (h : RI l a now at' W out) (hc : cntW W = 0) (h1 : now ≤ now1) (h2 : ∀ i, at' ≤ i → i < a.length → now1 ≤ tk a i) : RI l a now1 at' W out :=
  ⟨h.wl, h.ol, h.al, by have := h.n0; omega, h.sor, fun b x hx => by rw [cnt_zero hc] at hx; simp at hx, fun i g1 g2 => ⟨(h.fut i g1 g2).1, h2 i g1 g2⟩, fun i t g => by rcases h.snt i t g with g | g <;> omega, h.dis, h.str, h.fst0⟩

theorem RI.acc {l : List Int} {a : Ar} {now lim : Int} {i0 : Nat} {W : Rw} {out : List Int} (hm : bmOk l = true) (ha : arOk a = true) (hlim : 1 ≤ lim) (h : RI l a now i0 W out) (hi : i0 < a.length) (ht : tk a i0 = now) : RI l a now (i0 + 1) (acc l a lim i0 W) out := by
  have hb : bN l a i0 < W.length := by rw [h.wl]; exact bN_lt hm ha hi
  -- a row of the new state
  have hrow : ∀ b x, x ∈ row (Go.Proofs.Ytbciiigglpmlmaa.acc l a lim i0 W) b → x ∈ row W b ∨ (x = (i0 : Int) ∧ b = bN l a i0) := by
    intro b x hx
    unfold Go.Proofs.Ytbciiigglpmlmaa.acc at hx
    split at hx
    · rw [row_set hb] at hx
      split at hx
      · rename_i e
        rcases List.mem_append.1 hx with g | g
        · exact .inl (e ▸ g)
        · simp at g; exact .inr ⟨g, e⟩
      · exact .inl hx
    · exact .inl hx
  have hgrow : ∀ b x, x ∈ row W b → x ∈ row (Go.Proofs.Ytbciiigglpmlmaa.acc l a lim i0 W) b := by
    intro b x hx
    unfold Go.Proofs.Ytbciiigglpmlmaa.acc
    split
    · rw [row_set hb]
      split
      · rename_i e; exact List.mem_append_left _ (e ▸ hx)
      · exact hx
    · exact hx
  refine ⟨by rw [acc_len]; exact h.wl, h.ol, by omega, h.n0, fun b => ?_, fun b x hx => ?_, fun i g1 g2 => h.fut i (by omega) g2, h.snt, h.dis, fun k t g1 g2 i g3 => ?_, fun _ => ?_⟩
  · unfold Go.Proofs.Ytbciiigglpmlmaa.acc
    split
    · rw [row_set hb]
      split
      · rw [List.pairwise_append]
        refine ⟨h.sor _, List.pairwise_singleton _ _, fun x hx y hy => ?_⟩
        obtain ⟨i, rfl, g, _⟩ := h.rows _ x hx
        simp at hy; subst hy; omega
      · exact h.sor b
    · exact h.sor b
  · rcases hrow b x hx with g | ⟨rfl, rfl⟩
    · obtain ⟨i, g1, g2, g3⟩ := h.rows b x g
      exact ⟨i, g1, by omega, g3⟩
    · exact ⟨i0, rfl, by omega, rfl, (h.fut i0 (Nat.le_refl _) hi).1, by omega⟩
  · refine h.str k t g1 g2 i ?_
    rcases g3 with ⟨b, hb'⟩ | g3 | g3
    · rcases hrow b _ hb' with g | ⟨e, _⟩
      · exact .inl ⟨b, g⟩
      · have : i = i0 := by omega
        exact .inr (.inl ⟨by omega, by omega⟩)
    · exact .inr (.inl ⟨by omega, g3.2⟩)
    · exact .inr (.inr g3)
  · rcases Nat.eq_zero_or_pos i0 with e | e
    · subst e
      left
      have hnil : row W (bN l a 0) = [] := by
        cases hq : row W (bN l a 0) with
        | nil => rfl
        | cons x r =>
          obtain ⟨i, _, g, _⟩ := h.rows (bN l a 0) x (by rw [hq]; simp)
          omega
      refine ⟨bN l a 0, ?_⟩
      unfold Go.Proofs.Ytbciiigglpmlmaa.acc
      rw [hnil, if_pos (by simp; omega), row_set hb, if_pos rfl]; simp
    · rcases h.fst0 e with ⟨b, g⟩ | g
      · exact .inl ⟨b, hgrow b _ g⟩
      · exact .inr g

theorem RI.arrs {l : List Int} {a : Ar} {now lim : Int} (hm : bmOk l = true) (ha : arOk a = true) (hlim : 1 ≤ lim) {out : List Int} : ∀ (j i : Nat) (W : Rw), i + j = a.length → RI l a now i W out → cntW W ≤ i →
    RI l a now (arrs l a lim now j i W).1 (arrs l a lim now j i W).2 out ∧ (∀ k, (arrs l a lim now j i W).1 ≤ k → k < a.length → now + 1 ≤ tk a k) ∧ i ≤ (arrs l a lim now j i W).1 ∧ cntW W ≤ cntW (arrs l a lim now j i W).2 ∧
    cntW (arrs l a lim now j i W).2 + (a.length - (arrs l a lim now j i W).1) ≤ cntW W + (a.length - i) ∧ (i < a.length → tk a i = now → i < (arrs l a lim now j i W).1) ∧ cntW (arrs l a lim now j i W).2 ≤ (arrs l a lim now j i W).1
  | 0, i, W, hij, h, hc => by
    unfold Go.Proofs.Ytbciiigglpmlmaa.arrs
    exact ⟨h, fun k g1 g2 => by simp only at g1; omega, Nat.le_refl _, Nat.le_refl _, Nat.le_refl _, fun g _ => by omega, hc⟩
  | j + 1, i, W, hij, h, hc => by
    have hi : i < a.length := by omega
    unfold Go.Proofs.Ytbciiigglpmlmaa.arrs
    split
    · rename_i ht
      have hb : bN l a i < W.length := by rw [h.wl]; exact bN_lt hm ha hi
      have h1 := acc_cnt (lim := lim) hb
      obtain ⟨g1, g2, g3, g4, g5, g6, g7⟩ := RI.arrs hm ha hlim j (i + 1) (Go.Proofs.Ytbciiigglpmlmaa.acc l a lim i W) (by omega) (h.acc hm ha hlim hi ht) (by omega)
      exact ⟨g1, g2, by omega, by omega, by omega, fun _ _ => by omega, g7⟩
    · rename_i ht
      refine ⟨h, fun k g1 g2 => ?_, Nat.le_refl _, Nat.le_refl _, Nat.le_refl _, fun _ g => absurd g ht, hc⟩
      simp only at g1
      have h1 := tk_le ha g1 g2
      have h2 := (h.fut i (Nat.le_refl _) hi).2
      omega

theorem fb_some {W : Rw} : ∀ {j b b' : Nat}, fb W j b = some b' → b ≤ b' ∧ b' < b + j ∧ row W b' ≠ [] ∧ ∀ c, b ≤ c → c < b' → row W c = []
  | 0, b, b', h => by simp [fb] at h
  | j + 1, b, b', h => by
    unfold fb at h
    split at h
    · rename_i he
      obtain ⟨h1, h2, h3, h4⟩ := fb_some h
      refine ⟨by omega, by omega, h3, fun c c1 c2 => ?_⟩
      rcases Nat.lt_or_ge b c with g | g
      · exact h4 c g c2
      · have : c = b := by omega
        subst this; simpa using he
    · rename_i he
      simp only [Option.some.injEq] at h; subst h
      exact ⟨Nat.le_refl _, by omega, by simpa using he, fun c c1 c2 => by omega⟩

theorem fb_none {W : Rw} : ∀ {j b : Nat}, fb W j b = none → ∀ c, b ≤ c → c < b + j → row W c = []
  | 0, b, _, c, c1, c2 => by omega
  | j + 1, b, h, c, c1, c2 => by
    unfold fb at h
    split at h
    · rename_i he
      rcases Nat.lt_or_ge b c with g | g
      · exact fb_none h c g (by omega)
      · have : c = b := by omega
        subst this; simpa using he
    · simp at h

theorem RI.wait {l : List Int} {a : Ar} {now : Int} {at' : Nat} {W : Rw} {out : List Int} (h : RI l a now at' W out) (hf : ∀ k, at' ≤ k → k < a.length → now + 1 ≤ tk a k) : RI l a (now + 1) at' W out :=
  ⟨h.wl, h.ol, h.al, by have := h.n0; omega, h.sor, fun b x hx => by obtain ⟨i, g1, g2, g3, g4, g5⟩ := h.rows b x hx; exact ⟨i, g1, g2, g3, g4, by omega⟩, fun i g1 g2 => ⟨(h.fut i g1 g2).1, hf i g1 g2⟩, fun i t g => by rcases h.snt i t g with g | g <;> omega, h.dis, h.str, h.fst0⟩

theorem RI.send {l : List Int} {a : Ar} {now : Int} {at' : Nat} {W : Rw} {out : List Int} (h : RI l a now at' W out) (hf : ∀ k, at' ≤ k → k < a.length → now + 1 ≤ tk a k) {b : Nat} {x : Int} {r : List Int} (hb : b < 8) (hr : row W b = x :: r) (hlow : ∀ c, c < b → row W c = []) :
    RI l a (now + 1) at' (W.set b r) (out.set x.toNat now) := by
  obtain ⟨i0, rfl, i1, i2, i3, i4⟩ := h.rows b x (by rw [hr]; simp)
  have hbw : b < W.length := by rw [h.wl]; exact hb
  have hs := h.sor b
  rw [hr, List.pairwise_cons] at hs
  rw [Int.toNat_natCast]
  have hi0 : i0 < out.length := by rw [h.ol]; have := h.al; omega
  have hget : ∀ (i : Nat) (t : Int), (out.set i0 now)[i]? = some t → (i = i0 ∧ t = now) ∨ (i ≠ i0 ∧ out[i]? = some t) := by
    intro i t g
    by_cases e : i = i0
    · subst e; rw [List.getElem?_set_self hi0] at g; exact .inl ⟨rfl, by injection g with g; exact g.symm⟩
    · rw [List.getElem?_set_ne (fun e' => e e'.symm)] at g; exact .inr ⟨e, g⟩
  have hput : ∀ (i : Nat) (t : Int), i ≠ i0 → out[i]? = some t → (out.set i0 now)[i]? = some t := by
    intro i t e g; rw [List.getElem?_set_ne (fun e' => e e'.symm)]; exact g
  have hrow : ∀ c y, y ∈ row (W.set b r) c → y ∈ row W c ∧ y ≠ (i0 : Int) := by
    intro c y hy
    rw [row_set hbw] at hy
    split at hy
    · rename_i e; subst e
      refine ⟨by rw [hr]; simp [hy], fun e => ?_⟩
      have := hs.1 y hy; omega
    · rename_i e
      refine ⟨hy, fun e2 => ?_⟩
      obtain ⟨i, g1, _, g3, _⟩ := h.rows c y hy
      have : i = i0 := by omega
      subst this
      exact e (g3 ▸ i2)
  have hold : ∀ (i : Nat) (t : Int), out[i]? = some t → 0 ≤ t → t < now := by
    intro i t g g0
    rcases h.snt i t g with g | g <;> omega
  refine ⟨by simp [h.wl], by simp [h.ol], h.al, by have := h.n0; omega, fun c => ?_, fun c y hy => ?_, fun i g1 g2 => ⟨hput i _ (by omega) (h.fut i g1 g2).1, hf i g1 g2⟩, fun i t g => ?_, fun i k t g1 g2 => ?_, fun k t g1 g2 i g3 => ?_, fun g0 => ?_⟩
  · rw [row_set hbw]
    split
    · exact hs.2
    · exact h.sor c
  · obtain ⟨hy1, hy2⟩ := hrow c y hy
    obtain ⟨i, g1, g2, g3, g4, g5⟩ := h.rows c y hy1
    exact ⟨i, g1, g2, g3, hput i _ (by omega) g4, by omega⟩
  · rcases hget i t g with ⟨rfl, rfl⟩ | ⟨_, g⟩
    · right; have := h.n0; exact ⟨i4, by omega, this⟩
    · rcases h.snt i t g with g | g <;> omega
  · rcases hget i t g1 with ⟨p1, p2⟩ | ⟨e1, p3⟩ <;> rcases hget k t g2 with ⟨q1, q2⟩ | ⟨e2, q3⟩
    · exact .inr (p1.trans q1.symm)
    · rcases h.snt k t q3 with g | g <;> omega
    · rcases h.snt i t p3 with g | g <;> omega
    · exact h.dis i k t p3 q3
  · rcases hget k t g1 with ⟨rfl, rfl⟩ | ⟨e1, g1⟩
    · rcases g3 with ⟨c, hc⟩ | g3 | ⟨u, hu, hlt⟩
      · obtain ⟨hc1, hc2⟩ := hrow c _ hc
        obtain ⟨i', e, _, e3, _⟩ := h.rows c _ hc1
        have : i' = i := by omega
        subst this
        have hbc : b ≤ c := by
          rcases Nat.lt_or_ge c b with g | g
          · rw [hlow c g] at hc1; simp at hc1
          · exact g
        refine ⟨fun _ => by omega, fun hlt => ?_⟩
        rcases Nat.lt_or_ge b c with g | g
        · omega
        · have : c = b := by omega
          subst this
          rw [row_set hbw, if_pos rfl] at hc
          have := hs.1 _ hc
          omega
      · have := hf i g3.1 g3.2
        exact ⟨fun g => by omega, fun g => by omega⟩
      · rcases hget i u hu with ⟨_, rfl⟩ | ⟨_, hu⟩
        · omega
        · have := hold i u hu (by omega)
          omega
    · refine h.str k t g1 g2 i ?_
      rcases g3 with ⟨c, hc⟩ | g3 | ⟨u, hu, hlt⟩
      · exact .inl ⟨c, (hrow c _ hc).1⟩
      · exact .inr (.inl g3)
      · rcases hget i u hu with ⟨rfl, rfl⟩ | ⟨_, hu⟩
        · exact .inl ⟨b, by rw [hr]; simp⟩
        · exact .inr (.inr ⟨u, hu, hlt⟩)
  · by_cases e : i0 = 0
    · subst e
      exact .inr ⟨now, List.getElem?_set_self hi0, h.n0⟩
    · rcases h.fst0 g0 with ⟨c, hc⟩ | ⟨t, ht, ht0⟩
      · refine .inl ⟨c, ?_⟩
        rw [row_set hbw]
        split
        · rename_i e2; subst e2
          rw [hr] at hc
          rcases List.mem_cons.1 hc with g | g
          · omega
          · exact g
        · exact hc
      · exact .inr ⟨t, hput 0 t (by omega) ht, ht0⟩

def spOf (out : List Int) (i : Nat) : List Int := out.take i ++ List.replicate (out.length - i) 0

theorem sp_len {out : List Int} {i : Nat} (h : i ≤ out.length) : (spOf out i).length = out.length := by unfold spOf; simp; omega

theorem sp_get {out : List Int} {i : Nat} (h : i ≤ out.length) (k : Nat) : (spOf out i)[k]? = if k < i then out[k]? else if k < out.length then some 0 else none := by
  unfold spOf
  have hl : (out.take i).length = i := by simp; omega
  by_cases hk : k < i
  · rw [if_pos hk, List.getElem?_append_left (by omega), List.getElem?_take_of_lt hk]
  · rw [if_neg hk, List.getElem?_append_right (by omega), hl, List.getElem?_replicate]
    by_cases h2 : k < out.length
    · rw [if_pos h2, if_pos (by omega)]
    · rw [if_neg h2, if_neg (by omega)]

theorem sp_set {out : List Int} {i : Nat} (h : i < out.length) (he : out[i]? = some (-1)) : (spOf out i).set i (-1) = spOf out (i + 1) := by
  apply List.ext_getElem?; intro k
  rw [sp_get (by omega)]
  by_cases hk : k = i
  · subst hk
    rw [List.getElem?_set_self (by rw [sp_len (by omega)]; exact h), if_pos (by omega), he]
  · rw [List.getElem?_set_ne (fun e => hk e.symm), sp_get (by omega)]
    by_cases h1 : k < i
    · rw [if_pos h1, if_pos (show k < i + 1 by omega)]
    · rw [if_neg h1, if_neg (show ¬ k < i + 1 by omega)]

theorem sp_set2 {out : List Int} {i k : Nat} {t : Int} (h : i ≤ out.length) (hk : k < i) : (spOf out i).set k t = spOf (out.set k t) i := by
  apply List.ext_getElem?; intro m
  rw [sp_get (by simpa using h)]
  by_cases hm : m = k
  · subst hm
    rw [List.getElem?_set_self (by rw [sp_len h]; omega), if_pos hk, List.getElem?_set_self (by omega)]
  · rw [List.getElem?_set_ne (fun e => hm e.symm), sp_get h, List.getElem?_set_ne (fun e => hm e.symm)]
    simp

theorem sp_all (out : List Int) : spOf out out.length = out := by unfold spOf; simp

theorem arr_i {d : Nat} {l : List Int} {a : Ar} {lim now : Int} (hm : bmOk l = true) (ha : arOk a = true) (kx : Int → Int → Int → Bool → Bool → Rw → Option (List Int)) : ∀ (j f i : Nat) (W : Rw), i + j = a.length → j < f → W.length = 8 → cntW W ≤ i →
    iterP (l36_1 d l a lim now kx) f (((cntW W : Nat) : Int), ((i : Nat) : Int), W) = kx ((cntW (arrs l a lim now j i W).2 : Nat) : Int) (((arrs l a lim now j i W).1 : Nat) : Int) (((arrs l a lim now j i W).1 : Nat) : Int) (decide ((((arrs l a lim now j i W).1 : Nat) : Int) < ((a.length : Nat) : Int))) (decide ((((arrs l a lim now j i W).1 : Nat) : Int) < ((a.length : Nat) : Int))) (arrs l a lim now j i W).2
  | 0, f + 1, i, W, hij, _, hw, hc => by
    have : i = a.length := by omega
    subst this
    show _ = kx ((cntW W : Nat) : Int) ((a.length : Nat) : Int) ((a.length : Nat) : Int) (decide (((a.length : Nat) : Int) < ((a.length : Nat) : Int))) (decide (((a.length : Nat) : Int) < ((a.length : Nat) : Int))) W
    simp only [iterP, l36_1, l36_1_b]
    rw [ltn, oif_f]
    unfold j36_2
    rw [oif_f, ltn]
  | j + 1, f + 1, i, W, hij, hf, hw, hc => by
    have hi : i < a.length := by omega
    have hal := arOk_len ha
    obtain ⟨x, hx⟩ : ∃ x, a[i]? = some x := ⟨_, List.getElem?_eq_getElem hi⟩
    obtain ⟨_, hmk, _, htk, hgd⟩ := arOk_at ha hx
    obtain ⟨b1, b2, b3, b4⟩ := bandAt_in hm hmk
    have hbn : (bandAt l x.2).toNat = bN l a i := by unfold bN; rw [hgd]
    have hb8 : bN l a i < W.length := by omega
    have hrl := cnt_row W (bN l a i)
    simp only [iterP, l36_1, l36_1_b]
    rw [ltl hx, oif_t, nn, oif_t, ofNat_toNat, hx, ob_s]
    unfold j36_2 arrs
    by_cases ht : tk a i = now
    · have e1 : (x.1 == now) = true := by rw [beq_iff_eq]; omega
      have e2 : decide (0 ≤ bandAt l x.2) = true := by simpa using b3
      have e8 : (Nat.blt (bN l a i) 8 && Nat.blt (bN l a i) W.length) = true := by rw [blt_of (by omega), blt_of hb8]; rfl
      rw [e1, if_pos ht]
      simp only [oif_t, nn, ofNat_toNat, hx, ob_s, b1, b2, e2, hbn, e8, row_get hb8, Nat.beq_refl]
      by_cases hl : (((row W (bN l a i)).length : Nat) : Int) < lim
      · have hcn := cnt_set W (bN l a i) (row W (bN l a i) ++ [(i : Int)]) hb8
        have hac : acc l a lim i W = W.set (bN l a i) (row W (bN l a i) ++ [(i : Int)]) := by unfold acc; rw [if_pos hl]
        simp only [List.length_append, List.length_singleton] at hcn
        rw [decide_eq_true hl, oif_t, room (by simp; omega), oif_t, wr1 (by omega), wr1 (by omega), ← hac]
        have hc2 : cntW W + 1 = cntW (acc l a lim i W) := by rw [hac]; omega
        rw [hc2]
        exact arr_i hm ha kx j f (i + 1) (acc l a lim i W) (by omega) (by omega) (by rw [acc_len]; exact hw) (by omega)
      · have hac : acc l a lim i W = W := by unfold acc; rw [if_neg hl]
        rw [decide_eq_false hl, oif_f, wr1 (by omega), hac]
        exact arr_i hm ha kx j f (i + 1) W (by omega) (by omega) hw (by omega)
    · have e1 : (x.1 == now) = false := by rw [beq_eq_false_iff_ne]; omega
      rw [e1, if_neg ht, oif_f, ltl hx]

theorem arr_s {d : Nat} {l : List Int} {a : Ar} {lim now : Int} (hm : bmOk l = true) (ha : arOk a = true) {out : List Int} (ho : out.length = a.length) (kx : Int → Int → Int → Bool → Bool → List Int → Rw → Option (List Int)) : ∀ (j f i : Nat) (W : Rw), i + j = a.length → j < f → W.length = 8 → cntW W ≤ i → (∀ k, i ≤ k → k < a.length → out[k]? = some (-1)) →
    iterP (l38_1 d l a lim now kx) f (((cntW W : Nat) : Int), ((i : Nat) : Int), spOf out i, W) = kx ((cntW (arrs l a lim now j i W).2 : Nat) : Int) (((arrs l a lim now j i W).1 : Nat) : Int) (((arrs l a lim now j i W).1 : Nat) : Int) (decide ((((arrs l a lim now j i W).1 : Nat) : Int) < ((a.length : Nat) : Int))) (decide ((((arrs l a lim now j i W).1 : Nat) : Int) < ((a.length : Nat) : Int))) (spOf out (arrs l a lim now j i W).1) (arrs l a lim now j i W).2
  | 0, f + 1, i, W, hij, _, hw, hc, hfu => by
    have : i = a.length := by omega
    subst this
    show _ = kx ((cntW W : Nat) : Int) ((a.length : Nat) : Int) ((a.length : Nat) : Int) (decide (((a.length : Nat) : Int) < ((a.length : Nat) : Int))) (decide (((a.length : Nat) : Int) < ((a.length : Nat) : Int))) (spOf out a.length) W
    simp only [iterP, l38_1, l38_1_b]
    rw [ltn, oif_f]
    unfold j38_3
    rw [oif_f, ltn]
  | j + 1, f + 1, i, W, hij, hf, hw, hc, hfu => by
    have hi : i < a.length := by omega
    have hal := arOk_len ha
    obtain ⟨x, hx⟩ : ∃ x, a[i]? = some x := ⟨_, List.getElem?_eq_getElem hi⟩
    obtain ⟨_, hmk, _, htk, hgd⟩ := arOk_at ha hx
    obtain ⟨b1, b2, b3, b4⟩ := bandAt_in hm hmk
    have hbn : (bandAt l x.2).toNat = bN l a i := by unfold bN; rw [hgd]
    have hb8 : bN l a i < W.length := by omega
    have hrl := cnt_row W (bN l a i)
    simp only [iterP, l38_1, l38_1_b]
    rw [ltl hx, oif_t, nn, oif_t, ofNat_toNat, hx, ob_s]
    unfold j38_3 arrs
    by_cases ht : tk a i = now
    · have e1 : (x.1 == now) = true := by rw [beq_iff_eq]; omega
      have e2 : decide (0 ≤ bandAt l x.2) = true := by simpa using b3
      have e8 : Nat.blt (bN l a i) W.length = true := blt_of hb8
      have hsl : i < (spOf out i).length := by rw [sp_len (by omega)]; omega
      rw [e1, if_pos ht]
      simp only [oif_t, nn, ofNat_toNat, hx, ob_s, b1, b2, e2, hbn, e8, row_get hb8, Nat.beq_refl, blt_of hsl, List.getElem?_eq_getElem hsl, sp_set (show i < out.length by omega) (hfu i (Nat.le_refl _) hi)]
      by_cases hl : (((row W (bN l a i)).length : Nat) : Int) < lim
      · have hcn := cnt_set W (bN l a i) (row W (bN l a i) ++ [(i : Int)]) hb8
        have hac : acc l a lim i W = W.set (bN l a i) (row W (bN l a i) ++ [(i : Int)]) := by unfold acc; rw [if_pos hl]
        simp only [List.length_append, List.length_singleton] at hcn
        rw [decide_eq_true hl, oif_t, room (by simp; omega), oif_t, wr1 (by omega), wr1 (by omega), ← hac]
        have hc2 : cntW W + 1 = cntW (acc l a lim i W) := by rw [hac]; omega
        rw [hc2]
        exact arr_s hm ha ho kx j f (i + 1) (acc l a lim i W) (by omega) (by omega) (by rw [acc_len]; exact hw) (by omega) (fun k k1 k2 => hfu k (by omega) k2)
      · have hac : acc l a lim i W = W := by unfold acc; rw [if_neg hl]
        rw [decide_eq_false hl, oif_f, wr1 (by omega), hac]
        exact arr_s hm ha ho kx j f (i + 1) W (by omega) (by omega) hw (by omega) (fun k k1 k2 => hfu k (by omega) k2)
    · have e1 : (x.1 == now) = false := by rw [beq_eq_false_iff_ne]; omega
      rw [e1, if_neg ht, oif_f, ltl hx]

/-- One is sent. -/
def aft (now : Int) (W : Rw) (out : List Int) : Option Nat → Rw × List Int
  | none => (W, out)
  | some b => (W.set b ((row W b).drop 1), out.set ((row W b).headD 0).toNat now)

theorem snd_i {d : Nat} {ag : Int × Int × Int × List Int × Rw → Option (List Int)} {out : List Int} {now : Int} {i : Nat} {W : Rw} (hw : W.length = 8) (hx : ∀ b x, x ∈ row W b → 0 ≤ x ∧ x.toNat < out.length) (h0 : 0 ≤ now) (h1 : now ≤ 1000000) (hc : cntW W ≤ 1000) : ∀ (j f b : Nat), b + j = 8 → j < f →
    iterP (l36_2 d ag out now ((i : Nat) : Int) W (row W 0) (row W 1) (row W 2) (row W 3) (row W 4) (row W 5) (row W 6) (row W 7)) f (((cntW W : Nat) : Int), ((b : Nat) : Int)) = ag (((cntW (aft now W out (fb W j b)).1 : Nat) : Int), ((i : Nat) : Int), now + 1, (aft now W out (fb W j b)).2, (aft now W out (fb W j b)).1)
  | 0, f + 1, b, hb, _ => by
    have : b = 8 := by omega
    subst this
    simp only [iterP, l36_2, l36_2_b, fb, aft]
    rw [decide_eq_false (by omega), oif_f, wr (by omega) (by omega)]
  | j + 1, f + 1, b, hb, hf => by
    have hb8 : b < W.length := by omega
    have e8 : (Nat.blt b 8 && Nat.blt b W.length) = true := by rw [blt_of (by omega), blt_of hb8]; rfl
    simp only [iterP, l36_2, l36_2_b]
    rw [decide_eq_true (by omega), oif_t, nn, oif_t, ofNat_toNat, blt_of (show b < 8 by omega), oif_t, eight hw, row_get hb8, ob_s]
    unfold fb
    cases hr : row W b with
    | nil =>
      rw [decide_eq_false (by simp), oif_f, wr1 (by omega)]
      rw [if_pos (by simp)]
      exact snd_i hw hx h0 h1 hc j f (b + 1) (by omega) (by omega)
    | cons x r =>
      obtain ⟨x0, x1⟩ := hx b x (by rw [hr]; simp)
      have hcn := cnt_set W b ((row W b).drop 1) hb8
      rw [hr] at hcn
      simp only [List.length_cons, List.drop_succ_cons, List.drop_zero] at hcn
      rw [decide_eq_true (by rw [List.length_cons]; omega), oif_t, List.getElem?_cons_zero, ob_s, decide_eq_true x0, oif_t, blt_of x1, oif_t, List.getElem?_eq_getElem x1, ob_s, ble_of (show 1 ≤ (x :: r).length by simp), oif_t]
      simp only [Bool.true_and, blt_of hb8, oif_t, Nat.beq_refl, ob_s]
      rw [if_neg (by simp), wr (n := now + 1) (by omega) (by omega)]
      simp only [aft, hr, List.headD_cons, List.drop_succ_cons, List.drop_zero]
      rw [wr (by omega) (by omega), show ((cntW W : Nat) : Int) - 1 = ((cntW (W.set b r) : Nat) : Int) by omega]

theorem snd_s {d : Nat} {ag : Int × Int × Int × List Int × Rw → Option (List Int)} {out : List Int} {now : Int} {i : Nat} {W : Rw} (hi : i ≤ out.length) (hw : W.length = 8) (hx : ∀ b x, x ∈ row W b → 0 ≤ x ∧ x.toNat < i) (h0 : 0 ≤ now) (h1 : now ≤ 1000000) (hc : cntW W ≤ 1000) : ∀ (j f b : Nat), b + j = 8 → j < f →
    iterP (l38_2 d W (j38_1 d ag now ((cntW W : Nat) : Int) ((i : Nat) : Int) (spOf out i) W)) f ((b : Nat) : Int) = ag (((cntW (aft now W out (fb W j b)).1 : Nat) : Int), ((i : Nat) : Int), now + 1, spOf (aft now W out (fb W j b)).2 i, (aft now W out (fb W j b)).1)
  | 0, f + 1, b, hb, _ => by
    have : b = 8 := by omega
    subst this
    simp only [iterP, l38_2, l38_2_b, fb, aft]
    rw [decide_eq_false (by omega), oif_f]
    unfold j38_1
    rw [decide_eq_false (by omega), oif_f, wr (by omega) (by omega)]
  | j + 1, f + 1, b, hb, hf => by
    have hb8 : b < W.length := by omega
    simp only [iterP, l38_2, l38_2_b]
    rw [decide_eq_true (by omega), oif_t, nn, oif_t, ofNat_toNat, blt_of hb8, oif_t, row_get hb8, ob_s]
    unfold fb
    cases hr : row W b with
    | nil =>
      rw [show ((((([] : List Int).length : Nat) : Int)) == 0) = true from rfl, oif_t, wr1 (by omega)]
      rw [if_pos (by simp)]
      exact snd_s hi hw hx h0 h1 hc j f (b + 1) (by omega) (by omega)
    | cons x r =>
      obtain ⟨x0, x1⟩ := hx b x (by rw [hr]; simp)
      have hcn := cnt_set W b ((row W b).drop 1) hb8
      rw [hr] at hcn
      simp only [List.length_cons, List.drop_succ_cons, List.drop_zero] at hcn
      have hsl : x.toNat < (spOf out i).length := by rw [sp_len hi]; omega
      rw [show (((((x :: r).length : Nat) : Int)) == 0) = false by rw [beq_eq_false_iff_ne]; simp; omega, oif_f]
      unfold j38_1
      simp only [nn, ofNat_toNat, oif_t, blt_of hb8, row_get hb8, hr, ob_s, List.getElem?_cons_zero, decide_eq_true x0, blt_of hsl, List.getElem?_eq_getElem hsl, Nat.beq_refl, ble_of (show 1 ≤ (x :: r).length by simp), sp_set2 hi x1]
      rw [decide_eq_true (by omega), oif_t, if_neg (by simp), wr (n := now + 1) (by omega) (by omega)]
      simp only [aft, hr, List.headD_cons, List.drop_succ_cons, List.drop_zero]
      rw [wr (by omega) (by omega), show ((cntW W : Nat) : Int) - 1 = ((cntW (W.set b r) : Nat) : Int) by omega]

/-- What holds of what a run gives. -/
structure Fin' (l : List Int) (a : Ar) (r : List Int) : Prop where
  len : r.length = a.length
  snt : ∀ (i : Nat) (t : Int), r[i]? = some t → t = -1 ∨ (tk a i ≤ t ∧ 0 ≤ t ∧ t ≤ 100040)
  dis : ∀ (i k : Nat) (t : Int), r[i]? = some t → r[k]? = some t → t = -1 ∨ i = k
  str : ∀ (k i : Nat) (t u : Int), r[k]? = some t → 0 ≤ t → r[i]? = some u → t < u → (tk a i ≤ t → bN l a k ≤ bN l a i) ∧ (i < k → bN l a k < bN l a i)
  fst0 : 0 < a.length → ∃ t, r[0]? = some t ∧ 0 ≤ t

theorem RI.fin {l : List Int} {a : Ar} {now : Int} {W : Rw} {out : List Int} (h : RI l a now a.length W out) (hc : cntW W = 0) (hn : now ≤ 100041) : Fin' l a out :=
  ⟨h.ol, fun i t g => by rcases h.snt i t g with g | g <;> omega, h.dis, fun k i t u g1 g2 g3 g4 => h.str k t g1 g2 i (.inr (.inr ⟨u, g3, g4⟩)), fun g => by
    rcases h.fst0 g with ⟨b, hb⟩ | hb
    · rw [cnt_zero hc] at hb; simp at hb
    · exact hb⟩

theorem aft_ri {l : List Int} {a : Ar} {now : Int} {at' : Nat} {W : Rw} {out : List Int} (h : RI l a now at' W out) (hf : ∀ k, at' ≤ k → k < a.length → now + 1 ≤ tk a k) :
    RI l a (now + 1) at' (aft now W out (fb W 8 0)).1 (aft now W out (fb W 8 0)).2 ∧ cntW (aft now W out (fb W 8 0)).1 ≤ cntW W ∧ (0 < cntW W → cntW (aft now W out (fb W 8 0)).1 + 1 ≤ cntW W) := by
  cases hfb : fb W 8 0 with
  | none =>
    simp only [aft]
    refine ⟨h.wait hf, Nat.le_refl _, fun hp => ?_⟩
    exfalso
    have he := fb_none hfb
    have hz : ∀ V : Rw, (∀ q ∈ V, q = []) → cntW V = 0 := by
      intro V hV
      induction V with
      | nil => rfl
      | cons q r ih =>
        have h1 := hV q (by simp)
        have h2 := ih (fun p hp => hV p (by simp [hp]))
        simp only [cntW, List.map_cons, List.sum_cons] at h2 ⊢
        rw [h1, h2]; rfl
    have := hz W (fun q hq => by
      obtain ⟨c, hcl, rfl⟩ := List.mem_iff_getElem.1 hq
      have e := he c (by omega) (by rw [h.wl] at hcl; omega)
      have e2 := row_get hcl
      rw [List.getElem?_eq_getElem hcl] at e2
      injection e2 with e2
      rw [e2]; exact e)
    omega
  | some b =>
    obtain ⟨_, b1, b2, b3⟩ := fb_some hfb
    cases hr : row W b with
    | nil => exact absurd hr b2
    | cons x r =>
      have hbw : b < W.length := by rw [h.wl]; omega
      have hcn := cnt_set W b r hbw
      rw [hr] at hcn
      simp only [aft, hr, List.headD_cons, List.drop_succ_cons, List.drop_zero]
      simp only [List.length_cons] at hcn
      exact ⟨h.send hf (by omega) hr (fun c hc => b3 c (by omega) hc), by omega, fun _ => by omega⟩

/-- The tick of the next round. -/
def nowN (a : Ar) (now : Int) (i : Nat) (W : Rw) : Int := if cntW W = 0 then max now (tk a i) else now

theorem nowN_ri {l : List Int} {a : Ar} (ha : arOk a = true) {now : Int} {i : Nat} {W : Rw} {out : List Int} (h : RI l a now i W out) (hnf : ¬ (cntW W = 0 ∧ i = a.length)) : RI l a (nowN a now i W) i W out ∧ (cntW W = 0 → i < a.length ∧ tk a i = nowN a now i W) ∧ (nowN a now i W ≤ now ∨ nowN a now i W ≤ 100000) := by
  unfold nowN
  split
  · rename_i hc
    have hi : i < a.length := by have := h.al; omega
    have h2 := (h.fut i (Nat.le_refl _) hi).2
    have h3 := tk_in ha hi
    refine ⟨h.jump hc (Int.le_max_left _ _) (fun k k1 k2 => ?_), fun _ => ⟨hi, by omega⟩, by omega⟩
    have := tk_le ha k1 k2
    omega
  · rename_i hc
    exact ⟨h, fun e => absurd e hc, .inl (Int.le_refl _)⟩

theorem run_both {d e : Nat} {l : List Int} {a : Ar} {lim : Int} (hm : bmOk l = true) (ha : arOk a = true) (hlim : 1 ≤ lim) : ∀ (f : Nat) (now : Int) (i : Nat) (W : Rw) (out : List Int), RI l a now i W out → cntW W ≤ i → cntW W + (a.length - i) < f → now + ((cntW W + (a.length - i) : Nat) : Int) ≤ 100040 → cntW W + (a.length - i) ≤ 40 →
    ∃ r, iterP (l36_0 d l a lim (j36_0 d)) f (((cntW W : Nat) : Int), ((i : Nat) : Int), now, out, W) = some r ∧ iterP (l38_0 (e + 1) l a lim (j38_0 (e + 1))) f (((cntW W : Nat) : Int), ((i : Nat) : Int), now, spOf out i, W) = some r ∧ Fin' l a r
  | f + 1, now, i, W, out, h, hc, hf, hb, hmu => by
    have hal := arOk_len ha
    have hil := h.al
    have hn0 := h.n0
    by_cases hfin : cntW W = 0 ∧ i = a.length
    · obtain ⟨h1, rfl⟩ := hfin
      refine ⟨out, ?_, ?_, h.fin h1 (by omega)⟩
      · simp only [iterP, l36_0, l36_0_b]
        rw [h1, show decide ((((0 : Nat) : Int)) > 0) = false from rfl, oif_f, ltn]
        unfold j36_4
        rw [oif_f]; rfl
      · simp only [iterP, l38_0, l38_0_b]
        rw [h1, ltn, oif_f, show decide ((((0 : Nat) : Int)) > 0) = false from rfl]
        unfold j38_5
        rw [oif_f, ← h.ol, sp_all]; rfl
    · obtain ⟨r1, r2, r3⟩ := nowN_ri ha h hfin
      have ln : now ≤ nowN a now i W := by unfold nowN; split <;> omega
      obtain ⟨s1, s2, s3, s4, s5, s6, s7⟩ := RI.arrs (lim := lim) hm ha hlim (a.length - i) i W (by omega) r1 hc
      obtain ⟨t1, t2, t3⟩ := aft_ri s1 s2
      generalize hA : arrs l a lim (nowN a now i W) (a.length - i) i W = A at s1 s2 s3 s4 s5 s6 s7 t1 t2 t3
      have hA1 := s1.al
      have hdec : cntW (aft (nowN a now i W) A.2 out (fb A.2 8 0)).1 + (a.length - A.1) + 1 ≤ cntW W + (a.length - i) := by
        by_cases h0 : cntW W = 0
        · obtain ⟨g1, g2⟩ := r2 h0
          have := s6 g1 g2
          by_cases h3 : 0 < cntW A.2
          · have := t3 h3; omega
          · have : cntW A.2 = 0 := by omega
            omega
        · have := t3 (by omega); omega
      obtain ⟨r, i1, i2, i3⟩ := run_both (d := d) (e := e) hm ha hlim f (nowN a now i W + 1) A.1 (aft (nowN a now i W) A.2 out (fb A.2 8 0)).1 (aft (nowN a now i W) A.2 out (fb A.2 8 0)).2 t1 (by omega) (by omega) (by omega) (by omega)
      have hxr : ∀ b x, x ∈ row A.2 b → 0 ≤ x ∧ x.toNat < A.1 := fun b x hx => by
        obtain ⟨k, rfl, k1, _⟩ := s1.rows b x hx
        exact ⟨by omega, by omega⟩
      have key_i : j36_1 d (iterP (l36_0 d l a lim (j36_0 d)) f) out (nowN a now i W) ((cntW A.2 : Nat) : Int) ((A.1 : Nat) : Int) ((A.1 : Nat) : Int) (decide (((A.1 : Nat) : Int) < ((a.length : Nat) : Int))) (decide (((A.1 : Nat) : Int) < ((a.length : Nat) : Int))) A.2 = some r := by
        unfold j36_1
        have hw := s1.wl
        rw [row_get (W := A.2) (b := 0) (by omega), ob_s, row_get (W := A.2) (b := 1) (by omega), ob_s, row_get (W := A.2) (b := 2) (by omega), ob_s, row_get (W := A.2) (b := 3) (by omega), ob_s, row_get (W := A.2) (b := 4) (by omega), ob_s, row_get (W := A.2) (b := 5) (by omega), ob_s, row_get (W := A.2) (b := 6) (by omega), ob_s, row_get (W := A.2) (b := 7) (by omega), ob_s]
        have := snd_i (d := d) (ag := iterP (l36_0 d l a lim (j36_0 d)) f) (out := out) (now := nowN a now i W) (i := A.1) (W := A.2) hw (fun b x hx => ⟨(hxr b x hx).1, by rw [h.ol]; have := (hxr b x hx).2; omega⟩) (by omega) (by omega) (by omega) 8 fuelN 0 rfl (by rw [fuelN_eq]; omega)
        rw [show (((0 : Nat) : Int)) = 0 from rfl] at this
        rw [this]; exact i1
      have key_s : j38_2 (e + 1) (iterP (l38_0 (e + 1) l a lim (j38_0 (e + 1))) f) (nowN a now i W) ((cntW A.2 : Nat) : Int) ((A.1 : Nat) : Int) ((A.1 : Nat) : Int) (decide (((A.1 : Nat) : Int) < ((a.length : Nat) : Int))) (decide (((A.1 : Nat) : Int) < ((a.length : Nat) : Int))) (spOf out A.1) A.2 = some r := by
        unfold j38_2
        have := snd_s (d := e + 1) (ag := iterP (l38_0 (e + 1) l a lim (j38_0 (e + 1))) f) (out := out) (now := nowN a now i W) (i := A.1) (W := A.2) (by rw [h.ol]; exact hA1) s1.wl hxr (by omega) (by omega) (by omega) 8 fuelN 0 rfl (by rw [fuelN_eq]; omega)
        rw [show (((0 : Nat) : Int)) = 0 from rfl] at this
        rw [this]; exact i2
      have run_i : ∀ b, j36_3 d l a lim (iterP (l36_0 d l a lim (j36_0 d)) f) ((cntW W : Nat) : Int) ((i : Nat) : Int) out W (nowN a now i W) b = some r := by
        intro b
        unfold j36_3
        rw [arr_i hm ha _ (a.length - i) fuelN i W (by omega) (by rw [fuelN_eq]; omega) h.wl hc, hA]
        exact key_i
      have run_s : ∀ b, j38_4 (e + 1) l a lim (iterP (l38_0 (e + 1) l a lim (j38_0 (e + 1))) f) ((cntW W : Nat) : Int) ((i : Nat) : Int) (spOf out i) W (nowN a now i W) b = some r := by
        intro b
        unfold j38_4
        rw [arr_s hm ha h.ol _ (a.length - i) fuelN i W (by omega) (by rw [fuelN_eq]; omega) h.wl hc (fun k k1 k2 => (h.fut k k1 k2).1), hA]
        exact key_s
      refine ⟨r, ?_, ?_, i3⟩
      · simp only [iterP, l36_0, l36_0_b]
        unfold j36_4
        by_cases h0 : cntW W = 0
        · obtain ⟨g1, g2⟩ := r2 h0
          have hx := List.getElem?_eq_getElem g1
          have ht : tk a i = a[i].1 := by unfold tk; simp [List.getD, hx]
          rw [decide_eq_false (show ¬ ((cntW W : Nat) : Int) > 0 by omega), oif_f, ltl hx, oif_t, show (((cntW W : Nat) : Int) == 0) = true by rw [beq_iff_eq]; omega, oif_t, nn, oif_t, ofNat_toNat, hx, ob_s]
          have e1 : (if a[i].1 > now then a[i].1 else now) = nowN a now i W := by
            unfold nowN; rw [if_pos h0, ht]; split <;> omega
          rw [e1]; exact run_i true
        · have e1 : nowN a now i W = now := by unfold nowN; rw [if_neg h0]
          rw [decide_eq_true (show ((cntW W : Nat) : Int) > 0 by omega), oif_t, oif_t, show (((cntW W : Nat) : Int) == 0) = false by rw [beq_eq_false_iff_ne]; omega, oif_f]
          have := run_i false
          rw [e1] at this; exact this
      · simp only [iterP, l38_0, l38_0_b]
        unfold j38_5
        by_cases h0 : cntW W = 0
        · obtain ⟨g1, g2⟩ := r2 h0
          have hx := List.getElem?_eq_getElem g1
          have ht : tk a i = a[i].1 := by unfold tk; simp [List.getD, hx]
          rw [ltl hx, oif_t, oif_t, show (((cntW W : Nat) : Int) == 0) = true by rw [beq_iff_eq]; omega, oif_t, nn, oif_t, ofNat_toNat, hx, ob_s, q_l1Most, ob_s]
          have e1 : max now a[i].1 = nowN a now i W := by
            unfold nowN; rw [if_pos h0, ht]
          rw [e1]; exact run_s true
        · have e1 : nowN a now i W = now := by unfold nowN; rw [if_neg h0]
          have hrun := run_s false
          rw [e1] at hrun
          have e2 : (((cntW W : Nat) : Int) == 0) = false := by rw [beq_eq_false_iff_ne]; omega
          by_cases g : i < a.length
          · rw [decide_eq_true (show ((i : Nat) : Int) < ((a.length : Nat) : Int) by omega), oif_t, oif_t, e2, oif_f]; exact hrun
          · rw [decide_eq_false (show ¬ ((i : Nat) : Int) < ((a.length : Nat) : Int) by omega), oif_f, decide_eq_true (show ((cntW W : Nat) : Int) > 0 by omega), oif_t, e2, oif_f]; exact hrun

theorem q_mul1 {d n : Nat} (hn : n ≤ 40) : g82 (d + 2) (IntKind.u64.wrap ((([(-1 : Int)].length : Nat) : Int))) (IntKind.u64.wrap (n : Int)) = some (0, (n : Int)) := by
  rw [e82, e93, ob_s]
  obtain ⟨m, rfl⟩ : ∃ m : Fin 41, n = m.val := ⟨⟨n, by omega⟩, rfl⟩
  clear hn
  revert m
  decide +kernel

theorem q_Repeat1 {d n : Nat} (hn : n ≤ 40) : g68 (d + 3) [(-1)] ((n : Nat) : Int) = some (List.replicate n (-1)) := by
  rw [e68, decide_eq_false (show ¬ ((n : Nat) : Int) < 0 by omega), oif_f, q_mul1 hn, ob_s]
  simp only
  rw [show decide ((0 : Int) > 0) = false from rfl, oif_f, decide_eq_false (show ¬ ((n : Nat) : Int) > 9223372036854775807 by omega)]
  unfold j68_1
  rw [oif_f]
  simp only
  rw [wr (n := (n : Int)) (by omega) (by omega), nn, oif_t, oif_t, ofNat_toNat]
  have hroom : (Nat.ble n n && Nat.ble (n * 8) roomMax) = true := by rw [ble_of (Nat.le_refl _), ble_of (show n * 8 ≤ roomMax by unfold roomMax; omega)]; rfl
  rw [hroom, oif_t]
  refine Ok.val (iter_ok (fun j s => ∃ k : Nat, k + j = n ∧ (n = 0 ∨ 0 < k) ∧ s.1 = (k : Int) ∧ s.2 = List.replicate k (-1) ++ List.replicate (n - k) 0) ?_ _ (n - min 1 n) _ (by rw [fuelN_eq]; omega) ⟨min 1 n, by omega, by omega, by simp, ?_⟩)
  · rintro j ⟨x, l⟩ ag ⟨k, hk, hpos, h1, h2⟩ hag
    simp only at h1 h2
    subst h1
    have hl : l.length = n := by rw [h2]; simp; omega
    simp only [l68_0, l68_0_b]
    rw [hl]
    rcases Nat.lt_or_ge k n with hlt | hge
    · have e1 : (l.take k).length = k := by simp; omega
      rw [decide_eq_true (show ((k : Nat) : Int) < ((n : Nat) : Int) by omega), oif_t, nn, oif_t, ofNat_toNat, ble_of (show k ≤ n by omega), oif_t, oif_t, oif_t, Nat.zero_add, e1, wr (by omega) (by omega)]
      refine hag (n - (k + min k (n - k))) _ (by omega) ⟨k + min k (n - k), by omega, by omega, by simp, ?_⟩
      simp only [cpy]
      rw [e1, h2]
      have t1 : (List.replicate k (-1 : Int) ++ List.replicate (n - k) 0).take k = List.replicate k (-1) := by rw [List.take_left' (by simp)]
      have t2 : (List.replicate k (-1 : Int)).take (n - k) = List.replicate (min k (n - k)) (-1) := by rw [List.take_replicate, Nat.min_comm]
      have t3 : (List.replicate k (-1 : Int) ++ List.replicate (n - k) 0).drop (k + min k (n - k)) = List.replicate (n - (k + min k (n - k))) 0 := by
        rw [List.drop_append, List.drop_of_length_le (by simp), List.nil_append, List.drop_replicate]
        congr 1
        simp; omega
      rw [t1, t2, t3, ← List.replicate_append_replicate]
    · have : k = n := by omega
      subst this
      rw [ltn, oif_f]
      unfold j68_0
      exact Ok.some (by rw [h2]; simp)
  · simp only [cpy, List.take_zero, List.nil_append, Nat.zero_add]
    rcases Nat.eq_zero_or_pos n with e | e
    · subst e; rfl
    · rw [show min 1 n = 1 by omega]
      rw [List.take_of_length_le (by simp; omega), List.drop_replicate]
      simp only [List.length_replicate, List.length_singleton]
      rw [show min 1 n = 1 by omega]; rfl

theorem runs {l : List Int} {a : Ar} {lim : Int} (h : cOk l a lim = true) : ∃ r, (∀ d, g36 (d + 4) l a lim = some r) ∧ (∀ e, g38 (e + 2) l a lim = some r) ∧ Fin' l a r := by
  unfold cOk at h
  simp only [Bool.and_eq_true, decide_eq_true_eq] at h
  obtain ⟨hm, ha, hlim, _⟩ := h
  have hal := arOk_len ha
  have key : ∀ d e : Nat, ∃ r, g36 (d + 4) l a lim = some r ∧ g38 (e + 2) l a lim = some r ∧ Fin' l a r := by
    intro d e
    have c0 : cntW (List.replicate 8 ([] : List Int)) = 0 := rfl
    obtain ⟨r, h1, h2, h3⟩ := run_both (d := d + 3) (e := e) hm ha hlim fuelN 0 0 _ _ (RI.start l a ha) (by rw [c0]; omega) (by rw [c0, fuelN_eq]; omega) (by rw [c0]; omega) (by rw [c0]; omega)
    refine ⟨r, ?_, ?_, h3⟩
    · rw [e36, q_Repeat1 hal, ob_s]; exact h1
    · have hroom : (Nat.ble a.length a.length && Nat.ble (a.length * 8) roomMax) = true := by rw [ble_of (Nat.le_refl _), ble_of (show a.length * 8 ≤ roomMax by unfold roomMax; omega)]; rfl
      have hroom2 : (Nat.ble 8 8 && Nat.ble (8 * 24) roomMax) = true := by simp [roomMax]
      rw [e38, nn, oif_t, oif_t, ofNat_toNat, hroom, oif_t, hroom2, oif_t]
      have e0 : spOf (List.replicate a.length (-1)) 0 = List.replicate a.length 0 := by unfold spOf; simp
      rw [e0] at h2; exact h2
  obtain ⟨r, h1, h2, h3⟩ := key 0 0
  refine ⟨r, fun d => ?_, fun e => ?_, h3⟩
  · obtain ⟨r', g1, g2, _⟩ := key d 0
    have e := Option.some.inj (h2.symm.trans g2); subst e; exact g1
  · obtain ⟨r', g1, g2, _⟩ := key 0 e
    have e' := Option.some.inj (h1.symm.trans g1); subst e'; exact g2

noncomputable def runV (l : List Int) (a : Ar) (lim : Int) : List Int := if h : cOk l a lim = true then Classical.choose (runs h) else []

theorem runV_spec {l : List Int} {a : Ar} {lim : Int} (h : cOk l a lim = true) : (∀ d, g36 (d + 4) l a lim = some (runV l a lim)) ∧ (∀ e, g38 (e + 2) l a lim = some (runV l a lim)) ∧ Fin' l a (runV l a lim) := by
  unfold runV
  rw [dif_pos h]
  exact Classical.choose_spec (runs h)

theorem cOk_parts {l : List Int} {a : Ar} {lim : Int} (h : cOk l a lim = true) : bmOk l = true ∧ arOk a = true ∧ a.length ≤ 40 := by
  unfold cOk at h
  simp only [Bool.and_eq_true] at h
  exact ⟨h.1, h.2.1, arOk_len h.2.1⟩

noncomputable def rbV (l : List Int) (a : Ar) (lim : Int) : List Int × Bool := if cOk l a lim = true then (runV l a lim, true) else ([], false)

theorem q_RunBands {d : Nat} {l : List Int} {a : Ar} {lim : Int} (hl : l.length < 4194304) (ha : a.length < 4194304) : g6 (d + 5) l a lim = some (rbV l a lim) := by
  rw [e6, q_canRunBands hl ha, ob_s]
  unfold rbV
  cases hc : cOk l a lim with
  | false => rfl
  | true => rw [Bool.not_true, oif_f, (runV_spec hc).1 d, ob_s]; rfl

theorem q_sRunBands {d : Nat} {l : List Int} {a : Ar} {lim : Int} (hl : l.length < 4194304) (ha : a.length < 4194304) : g7 (d + 5) l a lim = some (rbV l a lim) := by
  rw [e7, q_bdAsked hl ha, ob_s]
  unfold rbV
  cases hc : cOk l a lim with
  | false => rfl
  | true => rw [Bool.not_true, oif_f, (runV_spec hc).2.1 (d + 2), ob_s]; rfl

theorem rbV_len {l : List Int} {a : Ar} {lim : Int} : (rbV l a lim).1.length ≤ 40 := by
  unfold rbV
  split
  · rename_i h
    simp only [(runV_spec h).2.2.len]
    exact (cOk_parts h).2.2
  · simp

theorem p_Max {d : Nat} {l : List Int} (hl : l.length ≤ 1000) (h0 : 0 < l.length) : Ok (g39 (d + 1) l) fun r => r ∈ l ∧ ∀ x ∈ l, x ≤ r := by
  rw [e39, decide_eq_false (show ¬ ((l.length : Nat) : Int) < 1 by omega), oif_f, List.getElem?_eq_getElem h0, ob_s]
  refine iter_ok (fun j s => ∃ k : Nat, k + j = l.length ∧ 1 ≤ k ∧ s.2 = (k : Int) ∧ s.1 ∈ l ∧ ∀ i x, i < k → l[i]? = some x → x ≤ s.1) ?_ _ (l.length - 1) _ (by rw [fuelN_eq]; omega) ⟨1, by omega, by omega, rfl, List.getElem_mem h0, fun i x hi hx => ?_⟩
  · rintro j ⟨m, n⟩ ag ⟨k, hk, h1, e1, h2, h3⟩ hag
    simp only at e1 h2 h3
    subst e1
    simp only [l39_0, l39_0_b]
    rcases Nat.lt_or_ge k l.length with hlt | hge
    · have hx := List.getElem?_eq_getElem hlt
      rw [ltl hx, oif_t, nn, oif_t, ofNat_toNat, hx, ob_s, wr1 (by omega)]
      refine hag (j - 1) _ (by omega) ⟨k + 1, by omega, by omega, rfl, ?_, fun i x hi hx2 => ?_⟩
      · simp only; split
        · exact List.getElem_mem hlt
        · exact h2
      · rcases Nat.lt_or_ge i k with g | g
        · have := h3 i x g hx2
          simp only; split <;> omega
        · have : i = k := by omega
          subst this
          rw [hx] at hx2; injection hx2 with hx2; subst hx2
          simp only; split <;> omega
    · have : k = l.length := by omega
      subst this
      rw [ltn, oif_f]
      unfold j39_0
      refine Ok.some ⟨h2, fun x hx => ?_⟩
      obtain ⟨i, hi, rfl⟩ := List.mem_iff_getElem.1 hx
      exact h3 i _ hi (List.getElem?_eq_getElem hi)
  · have : i = 0 := by omega
    subst this
    rw [List.getElem?_eq_getElem h0] at hx; injection hx with hx; subst hx; exact Int.le_refl _

theorem p_most {d : Nat} {l : List Int} (hl : l.length ≤ 1000) : Ok (iterP (l9_0 (d + 1) l (j9_0 (d + 1))) fuelN (0, 0)) fun r => r.2 = true ∧ 0 ≤ r.1 ∧ (r.1 = 0 ∨ r.1 ∈ l) ∧ ∀ x ∈ l, x ≤ r.1 := by
  refine iter_ok (fun j s => ∃ k : Nat, k + j = l.length ∧ s.2 = (k : Int) ∧ 0 ≤ s.1 ∧ (s.1 = 0 ∨ s.1 ∈ l) ∧ ∀ i x, i < k → l[i]? = some x → x ≤ s.1) ?_ _ l.length _ (by rw [fuelN_eq]; omega) ⟨0, by omega, rfl, by simp, .inl rfl, fun i x hi => by omega⟩
  rintro j ⟨m, n⟩ ag ⟨k, hk, e1, h1, h2, h3⟩ hag
  simp only at e1 h1 h2 h3
  subst e1
  simp only [l9_0, l9_0_b]
  rcases Nat.lt_or_ge k l.length with hlt | hge
  · have hx := List.getElem?_eq_getElem hlt
    rw [ltl hx, oif_t, nn, oif_t, ofNat_toNat, blt_of hlt, oif_t, hx, ob_s, q_l1Most, ob_s, wr1 (by omega)]
    refine hag (j - 1) _ (by omega) ⟨k + 1, by omega, rfl, by simp only; omega, ?_, fun i x hi hx2 => ?_⟩
    · simp only
      rcases Int.le_total m l[k] with g | g
      · rw [Int.max_eq_right g]; exact .inr (List.getElem_mem hlt)
      · rw [Int.max_eq_left g]; exact h2
    · simp only
      rcases Nat.lt_or_ge i k with g | g
      · have := h3 i x g hx2; omega
      · have : i = k := by omega
        subst this
        rw [hx] at hx2; injection hx2 with hx2; subst hx2; omega
  · have : k = l.length := by omega
    subst this
    rw [ltn, oif_f]
    unfold j9_0
    refine Ok.some ⟨rfl, h1, h2, fun x hx => ?_⟩
    obtain ⟨i, hi, rfl⟩ := List.mem_iff_getElem.1 hx
    exact h3 i _ hi (List.getElem?_eq_getElem hi)

theorem q_LastBusy {d : Nat} {l : List Int} {a : Ar} {lim : Int} (hl : l.length < 4194304) (ha : a.length < 4194304) : ∃ m : Int × Bool, g8 (d + 5) l a lim = some m ∧ g9 (d + 5) l a lim = some m ∧ (cOk l a lim = true → ∀ x ∈ runV l a lim, x ≤ m.1) := by
  rw [e8, e9, q_canRunBands hl ha, q_bdAsked hl ha, ob_s, ob_s]
  unfold j9_1
  cases hc : cOk l a lim with
  | false => exact ⟨(0, false), rfl, rfl, fun h => by simp at h⟩
  | true =>
    obtain ⟨r1, r2, r3⟩ := runV_spec hc
    obtain ⟨_, _, hal⟩ := cOk_parts hc
    rw [Bool.not_true, oif_f, oif_f]
    cases ha0 : (((a.length : Nat) : Int) == 0) with
    | true =>
      refine ⟨(0, false), rfl, rfl, fun _ x hx => ?_⟩
      rw [beq_iff_eq] at ha0
      have : (runV l a lim).length = 0 := by rw [r3.len]; omega
      rw [List.length_eq_zero_iff.1 this] at hx; simp at hx
    | false =>
      rw [beq_eq_false_iff_ne] at ha0
      rw [oif_f, oif_f, r1 d, r2 (d + 2), ob_s, ob_s]
      have hlen := r3.len
      obtain ⟨M, h1, h2, h3⟩ := p_Max (d := d + 3) (l := runV l a lim) (by omega) (by omega)
      obtain ⟨⟨m, b⟩, h4, h5, h6, h7, h8⟩ := p_most (d := d + 3) (l := runV l a lim) (by omega)
      simp only at h5 h6 h7 h8
      subst h5
      obtain ⟨t, ht, ht0⟩ := r3.fst0 (by omega)
      have hm := h3 t (List.mem_of_getElem? ht)
      have hM := h8 M h2
      have : M = m := by
        rcases h7 with h7 | h7
        · omega
        · have := h3 m h7; omega
      subst this
      refine ⟨(M, true), by rw [h1, ob_s], h4, fun _ => h3⟩

/-- What is asked of sent ticks. -/
def sfBad (a : Ar) (x : Int) (i : Nat) : Bool := (x != -1) && (decide (x < tk a i) || decide (x > 200000))

def sfOk (a : Ar) (s : List Int) : Bool := !(((s.length : Nat) : Int) != ((a.length : Nat) : Int)) && !anyI (sfBad a) s 0

theorem tk_get {a : Ar} {i : Nat} {x : Int × Int} (h : a[i]? = some x) : tk a i = x.1 := by unfold tk; simp [List.getD, h]

theorem q_sentFits {d : Nat} {a : Ar} {s : List Int} (hs : s.length < 4194304) : g44 (d + 1) a s = some (sfOk a s) := by
  rw [e44]
  unfold sfOk
  cases hb : (((s.length : Nat) : Int) != ((a.length : Nat) : Int)) with
  | true => rfl
  | false =>
    have hlen : s.length = a.length := by simp at hb; omega
    rw [oif_f]
    refine (range_eq (fun (t : Bool) (i : Int) => (t, i)) s (fun x i t k => oif (sfBad a x i) (some false) (k t)) (j44_0 d) ?_ ?_ (by rw [fuelN_eq]; exact hs) false).trans ?_
    · intro ag t i x hx; have hi := (List.getElem?_eq_some_iff.1 hx).1; simp only [l44_0, l44_0_b, ltl hx, bltl hx, nn, ofNat_toNat, hx, ob_s, oif_t]; rw [wr1 (by omega)]
      have hy := List.getElem?_eq_getElem (show i < a.length by omega)
      simp only [hy, ob_s]
      unfold sfBad
      rw [tk_get hy]
      cases (x != -1) with
      | false => rfl
      | true =>
        rw [oif_t, Bool.true_and]
        cases decide (x < a[i].1) <;> cases decide (x > 200000) <;> rfl
    · intro ag t; simp only [l44_0, l44_0_b, ltn, oif_f]
    · rw [rangeR_any]; unfold j44_0; cases anyI (sfBad a) s 0 <;> rfl

theorem q_bdSent {d : Nat} {a : Ar} {s : List Int} (ha : a.length < 4194304) (hs : s.length < 4194304) : g46 (d + 4) a s = some (arOk a && sfOk a s) := by
  rw [e46, q_bdArrivals ha, ob_s]
  unfold j46_1
  cases arOk a with
  | false => rfl
  | true =>
    rw [Bool.not_true, oif_f, Bool.true_and]
    unfold sfOk
    cases hb : (((s.length : Nat) : Int) != ((a.length : Nat) : Int)) with
    | true => rfl
    | false =>
      have hlen : s.length = a.length := by simp at hb; omega
      rw [oif_f]
      refine (range_eq (fun (t : Bool) (i : Int) => (t, i)) s (fun x i t k => oif (sfBad a x i) (some false) (k t)) (j46_0 (d + 3)) ?_ ?_ (by rw [fuelN_eq]; exact hs) false).trans ?_
      · intro ag t i x hx; have hi := (List.getElem?_eq_some_iff.1 hx).1; simp only [l46_0, l46_0_b, ltl hx, bltl hx, nn, ofNat_toNat, hx, ob_s, oif_t]; rw [wr1 (by omega)]
        have hy := List.getElem?_eq_getElem (show i < a.length by omega)
        simp only [hy, ob_s, q_l1In]
        unfold sfBad
        rw [tk_get hy]
        cases (x != -1) with
        | false => rfl
        | true =>
          rw [oif_t, Bool.true_and]
          by_cases h1 : x < a[i].1
          · rw [decide_eq_true h1, decide_eq_false (show ¬ (a[i].1 ≤ x ∧ x ≤ 200000) by omega)]; rfl
          · by_cases h2 : x > 200000
            · rw [decide_eq_true h2, decide_eq_false (show ¬ (a[i].1 ≤ x ∧ x ≤ 200000) by omega), Bool.or_true]; rfl
            · rw [decide_eq_false h1, decide_eq_false h2, decide_eq_true (show (a[i].1 ≤ x ∧ x ≤ 200000) by omega)]; rfl
      · intro ag t; simp only [l46_0, l46_0_b, ltn, oif_f]
      · rw [rangeR_any]; unfold j46_0; cases anyI (sfBad a) s 0 <;> rfl

theorem sfOk_at {a : Ar} {s : List Int} (h : sfOk a s = true) : s.length = a.length ∧ ∀ i x, s[i]? = some x → x = -1 ∨ (tk a i ≤ x ∧ x ≤ 200000) := by
  unfold sfOk at h
  simp only [Bool.and_eq_true, Bool.not_eq_true'] at h
  refine ⟨by have := h.1; simp at this; omega, fun i x hx => ?_⟩
  have := (anyI_false _ _).1 h.2 i x hx
  unfold sfBad at this
  simp only [Nat.zero_add, Bool.and_eq_false_iff, Bool.or_eq_false_iff, decide_eq_false_iff_not, bne_eq_false_iff_eq] at this
  omega

theorem sfOk_of {a : Ar} {s : List Int} (h1 : s.length = a.length) (h2 : ∀ i x, s[i]? = some x → x = -1 ∨ (tk a i ≤ x ∧ x ≤ 200000)) : sfOk a s = true := by
  unfold sfOk
  rw [Bool.and_eq_true, Bool.not_eq_true', Bool.not_eq_true']
  refine ⟨by simp; omega, (anyI_false _ _).2 fun i x hx => ?_⟩
  have := h2 i x hx
  unfold sfBad
  simp only [Nat.zero_add, Bool.and_eq_false_iff, Bool.or_eq_false_iff, decide_eq_false_iff_not, bne_eq_false_iff_eq]
  omega

/-- Waits. -/
def wiE (a : Ar) (x : Int) (i : Nat) : Int := if x = -1 then -1 else x - tk a i

def wiV (a : Ar) (s : List Int) : List Int × Bool := if (arOk a && sfOk a s) = true then (selI (fun _ _ => true) (wiE a) s 0, true) else ([], false)

theorem wiV_len {a : Ar} {s : List Int} : (wiV a s).1.length ≤ s.length := by
  unfold wiV
  split
  · exact selI_len s 0
  · simp

theorem q_WaitsIn {d : Nat} {a : Ar} {s : List Int} (ha : a.length < 4194304) (hs : s.length < 4194304) : g14 (d + 4) a s = some (wiV a s) := by
  rw [e14, q_areMarked ha, ob_s]
  unfold j14_1 wiV
  cases hA : arOk a with
  | false => rfl
  | true =>
    rw [Bool.not_true, oif_f, q_sentFits hs, ob_s, Bool.true_and]
    cases hB : sfOk a s with
    | false => rfl
    | true =>
      obtain ⟨h1, h2⟩ := sfOk_at hB
      have hal := arOk_len hA
      rw [Bool.not_true, oif_f, if_pos rfl]
      refine (range_eq (fun (t : List Int) (i : Int) => (t, i)) s (fun x i t k => oif true (oif (Nat.ble ((t.length + [wiE a x i].length) * 8) roomMax) (k (t ++ [wiE a x i])) none) (k t)) (j14_0 (d + 3)) ?_ ?_ (by rw [fuelN_eq]; exact hs) []).trans ?_
      · intro ag t i x hx; have hi := (List.getElem?_eq_some_iff.1 hx).1; simp only [l14_0, l14_0_b, ltl hx, bltl hx, nn, ofNat_toNat, hx, ob_s, oif_t]; rw [wr1 (by omega)]
        have hia : i < a.length := by omega
        have hy := List.getElem?_eq_getElem hia
        have htk := tk_in hA hia
        simp only [hy, ob_s]
        unfold wiE
        by_cases e : x = -1
        · subst e; rfl
        · have := h2 i x hx
          rw [show (x != -1) = true by simpa using e, oif_t, if_neg e, tk_get hy, wr (by rw [← tk_get hy]; omega) (by rw [← tk_get hy]; omega)]
      · intro ag t; simp only [l14_0, l14_0_b, ltn, oif_f]
      · rw [rangeR_sel (c := fun _ _ => true) (e := wiE a) s 0 [] (by simp; omega)]; rfl

theorem q_sWaitsIn {d : Nat} {a : Ar} {s : List Int} (ha : a.length < 4194304) (hs : s.length < 4194304) : g15 (d + 5) a s = some (wiV a s) := by
  rw [e15, q_bdSent ha hs, ob_s]
  unfold wiV
  cases hA : arOk a with
  | false => rfl
  | true =>
    rw [Bool.true_and]
    cases hB : sfOk a s with
    | false => rfl
    | true =>
      obtain ⟨h1, h2⟩ := sfOk_at hB
      have hal := arOk_len hA
      rw [Bool.not_true, oif_f, if_pos rfl]
      refine (range_eq (fun (t : List Int) (i : Int) => (t, i)) s (fun x i t k => oif true (oif (Nat.ble ((t.length + [wiE a x i].length) * 8) roomMax) (k (t ++ [wiE a x i])) none) (k t)) (j15_0 (d + 4)) ?_ ?_ (by rw [fuelN_eq]; exact hs) []).trans ?_
      · intro ag t i x hx; have hi := (List.getElem?_eq_some_iff.1 hx).1; simp only [l15_0, l15_0_b, ltl hx, bltl hx, nn, ofNat_toNat, hx, ob_s, oif_t]; rw [wr1 (by omega)]
        have hia : i < a.length := by omega
        have hy := List.getElem?_eq_getElem hia
        have htk := tk_in hA hia
        simp only [hy, ob_s]
        unfold wiE
        by_cases e : x = -1
        · subst e; rfl
        · have := h2 i x hx
          rw [decide_eq_true (show x ≥ 0 by omega), oif_t, if_neg e, tk_get hy, wr (by rw [← tk_get hy]; omega) (by rw [← tk_get hy]; omega)]
      · intro ag t; simp only [l15_0, l15_0_b, ltn, oif_f]
      · rw [rangeR_sel (c := fun _ _ => true) (e := wiE a) s 0 [] (by simp; omega)]; rfl

/-- What breaks the order of bands. -/
def stC (l : List Int) (s : List Int) (x : Int × Int) (i : Nat) (y : Int × Int) (k : Nat) : Bool := decide (s.getD i 0 ≥ 0) && (decide (s.getD k 0 > s.getD i 0) && (decide (y.1 ≤ s.getD i 0) && decide (bandAt l y.2 < bandAt l x.2)))

def isV (l : List Int) (a : Ar) (s : List Int) : Bool × Bool := if (bmOk l && (arOk a && sfOk a s)) = true then (!anyI (fun x i => anyI (stC l s x i) a 0) a 0, true) else (false, false)

theorem q_IsStrict {d : Nat} {l : List Int} {a : Ar} {s : List Int} (hl : l.length < 4194304) (ha : a.length < 4194304) (hs : s.length < 4194304) : g11 (d + 4) l a s = some (isV l a s) := by
  rw [e11, q_IsBandMap hl, ob_s]
  unfold j11_3 isV
  cases hm : bmOk l with
  | false => rfl
  | true =>
    rw [Bool.not_true, oif_f, q_areMarked ha, ob_s, Bool.true_and]
    cases hA : arOk a with
    | false => rfl
    | true =>
      rw [Bool.not_true, oif_f, q_sentFits hs, ob_s, Bool.true_and]
      cases hB : sfOk a s with
      | false => rfl
      | true =>
        obtain ⟨h1, h2⟩ := sfOk_at hB
        rw [Bool.not_true, oif_f, if_pos rfl]
        refine (range_eq (fun (t : Bool × Bool) (i : Int) => (t.1, t.2, i)) a (fun x i t k => oif (anyI (stC l s x i) a 0) (some (false, true)) (k t)) (fun t => j11_0 (d + 3) t.1 t.2) ?_ ?_ (by rw [fuelN_eq]; exact ha) (false, false)).trans ?_
        · intro ag t i x hx
          have hi := (List.getElem?_eq_some_iff.1 hx).1
          have hsi := List.getElem?_eq_getElem (show i < s.length by omega)
          have gi : s.getD i 0 = s[i] := by simp [List.getD, hsi]
          obtain ⟨bx1, bx2, _⟩ := bandAt_in hm (arOk_at hA hx).2.1
          simp only [l11_0, l11_0_b, ltl hx, nn, ofNat_toNat, hx, ob_s, oif_t]
          refine (range_eq (fun (u : Bool × Bool) (k : Int) => (u.1, u.2, k)) a (fun y k u K => oif (stC l s x i y k) (some (false, true)) (K u)) (fun u => ag (u.1, u.2, ((i + 1 : Nat) : Int))) ?_ ?_ (by rw [fuelN_eq]; exact ha) (t.1, t.2)).trans ?_
          · intro ag2 u k y hy
            have hk := (List.getElem?_eq_some_iff.1 hy).1
            have hsk := List.getElem?_eq_getElem (show k < s.length by omega)
            have gk : s.getD k 0 = s[k] := by simp [List.getD, hsk]
            obtain ⟨by1, by2, _⟩ := bandAt_in hm (arOk_at hA hy).2.1
            simp only [l11_1, l11_1_b, ltl hy, nn, ofNat_toNat, hy, hsi, hsk, ob_s, oif_t, bx1, bx2, by1, by2, j11_2]
            rw [wr1 (by omega)]
            unfold stC
            rw [gi, gk]
            cases decide (s[i] ≥ 0) <;> cases decide (s[k] > s[i]) <;> cases decide (y.1 ≤ s[i]) <;> cases decide (bandAt l y.2 < bandAt l x.2) <;> rfl
          · intro ag2 u
            simp only [l11_1, l11_1_b, ltn, oif_f, j11_1]
            rw [wr1 (by omega)]
          · rw [rangeR_any]
        · intro ag t
          simp only [l11_0, l11_0_b, ltn, oif_f]
        · rw [rangeR_any]; unfold j11_0; cases anyI (fun x i => anyI (stC l s x i) a 0) a 0 <;> rfl

theorem q_sIsStrict {d : Nat} {l : List Int} {a : Ar} {s : List Int} (hl : l.length < 4194304) (ha : a.length < 4194304) (hs : s.length < 4194304) : g12 (d + 5) l a s = some (isV l a s) := by
  rw [e12, q_bdMap hl, ob_s]
  unfold j12_3 isV
  cases hm : bmOk l with
  | false => rfl
  | true =>
    rw [Bool.not_true, oif_f, q_bdSent ha hs, ob_s, Bool.true_and]
    cases hA : arOk a with
    | false => rfl
    | true =>
      rw [Bool.true_and]
      cases hB : sfOk a s with
      | false => rfl
      | true =>
        obtain ⟨h1, h2⟩ := sfOk_at hB
        rw [Bool.not_true, oif_f, if_pos rfl]
        refine (range_eq (fun (t : Bool × Bool) (i : Int) => (t.1, t.2, i)) a (fun x i t k => oif (anyI (stC l s x i) a 0) (some (false, true)) (k t)) (fun t => j12_0 (d + 4) t.1 t.2) ?_ ?_ (by rw [fuelN_eq]; exact ha) (false, false)).trans ?_
        · intro ag t i x hx
          have hi := (List.getElem?_eq_some_iff.1 hx).1
          have hsi := List.getElem?_eq_getElem (show i < s.length by omega)
          have gi : s.getD i 0 = s[i] := by simp [List.getD, hsi]
          obtain ⟨bx1, bx2, _⟩ := bandAt_in hm (arOk_at hA hx).2.1
          simp only [l12_0, l12_0_b, ltl hx, nn, ofNat_toNat, hx, ob_s, oif_t]
          refine (range_eq (fun (u : Bool × Bool) (k : Int) => (u.1, u.2, k)) a (fun y k u K => oif (stC l s x i y k) (some (false, true)) (K u)) (fun u => ag (u.1, u.2, ((i + 1 : Nat) : Int))) ?_ ?_ (by rw [fuelN_eq]; exact ha) (t.1, t.2)).trans ?_
          · intro ag2 u k y hy
            have hk := (List.getElem?_eq_some_iff.1 hy).1
            have hsk := List.getElem?_eq_getElem (show k < s.length by omega)
            have gk : s.getD k 0 = s[k] := by simp [List.getD, hsk]
            obtain ⟨by1, by2, _⟩ := bandAt_in hm (arOk_at hA hy).2.1
            simp only [l12_1, l12_1_b, ltl hy, nn, ofNat_toNat, hy, hsi, hsk, ob_s, oif_t, bx1, bx2, by1, by2, j12_2]
            rw [wr1 (by omega)]
            unfold stC
            rw [gi, gk]
            cases decide (s[i] ≥ 0) <;> cases decide (s[k] > s[i]) <;> cases decide (y.1 ≤ s[i]) <;> cases decide (bandAt l y.2 < bandAt l x.2) <;> rfl
          · intro ag2 u
            simp only [l12_1, l12_1_b, ltn, oif_f, j12_1]
            rw [wr1 (by omega)]
          · rw [rangeR_any]
        · intro ag t
          simp only [l12_0, l12_0_b, ltn, oif_f]
        · rw [rangeR_any]; unfold j12_0; cases anyI (fun x i => anyI (stC l s x i) a 0) a 0 <;> rfl

/-- The overtakers. -/
noncomputable def ovV (l : List Int) (a : Ar) (lim : Int) (i : Int) : List Int × Bool := if cOk l a lim = true ∧ 0 ≤ i ∧ i < ((a.length : Nat) : Int) then (if (runV l a lim).getD i.toNat 0 < 0 then ([], false) else (selI (fun x _ => decide (x ≥ 0) && decide (x < (runV l a lim).getD i.toNat 0)) (fun _ k => (k : Int)) ((runV l a lim).drop (i.toNat + 1)) (i.toNat + 1), true)) else ([], false)

theorem ovV_len {l : List Int} {a : Ar} {lim i : Int} : (ovV l a lim i).1.length ≤ 40 := by
  unfold ovV
  split
  · rename_i h
    split
    · simp
    · refine Nat.le_trans (selI_len _ _) ?_
      have := (runV_spec h.1).2.2.len
      have := (cOk_parts h.1).2.2
      simp; omega
  · simp

theorem ov_loop {d : Nat} {l : List Int} {a : Ar} {lim : Int} {i : Nat} (hc : cOk l a lim = true) (hi : i < a.length) : iterP (l17_0 d a ((i : Nat) : Int) (runV l a lim) (j17_0 d)) fuelN (([] : List Int), ((i + 1 : Nat) : Int)) = some (selI (fun x _ => decide (x ≥ 0) && decide (x < (runV l a lim).getD i 0)) (fun _ k => (k : Int)) ((runV l a lim).drop (i + 1)) (i + 1), true) := by
  have hlen := (runV_spec hc).2.2.len
  have hal := (cOk_parts hc).2.2
  have hsi := List.getElem?_eq_getElem (show i < (runV l a lim).length by omega)
  have gi : (runV l a lim).getD i 0 = (runV l a lim)[i] := by simp [List.getD, hsi]
  refine (range_from (fun (t : List Int) (k : Int) => (t, k)) (runV l a lim) (fun x k t K => oif (decide (x ≥ 0) && decide (x < (runV l a lim).getD i 0)) (oif (Nat.ble ((t.length + [(k : Int)].length) * 8) roomMax) (K (t ++ [(k : Int)])) none) (K t)) (j17_0 d) ?_ ?_ fuelN (i + 1) [] (by rw [fuelN_eq]; omega) (by omega)).trans ?_
  · intro ag t k x hx
    have hk := (List.getElem?_eq_some_iff.1 hx).1
    simp only [l17_0, l17_0_b]
    rw [decide_eq_true (show ((k : Nat) : Int) < ((a.length : Nat) : Int) by omega)]
    simp only [nn, ofNat_toNat, oif_t, blt_of hk, hx, ob_s, blt_of (show i < (runV l a lim).length by omega), hsi, j17_1]
    rw [wr1 (by omega), gi]
    cases decide (x ≥ 0) <;> cases decide (x < (runV l a lim)[i]) <;> rfl
  · intro ag t
    simp only [l17_0, l17_0_b]
    rw [hlen, ltn, oif_f]
  · rw [rangeR_sel (c := fun x _ => decide (x ≥ 0) && decide (x < (runV l a lim).getD i 0)) (e := fun _ k => (k : Int)) _ _ [] (by simp; omega)]
    rfl

theorem ov_loops {d : Nat} {a : Ar} {n : Int} {r : List Int} : l18_0 d a n r (j18_0 d) = l17_0 d a n r (j17_0 d) := rfl

theorem q_OvertakenBy {d : Nat} {l : List Int} {a : Ar} {lim i : Int} (hl : l.length < 4194304) (ha : a.length < 4194304) : g17 (d + 5) l a lim i = some (ovV l a lim i) := by
  rw [e17, q_canRunBands hl ha, ob_s]
  unfold j17_2
  cases hc : cOk l a lim with
  | false =>
    have : ovV l a lim i = ([], false) := by unfold ovV; rw [if_neg (by rw [hc]; simp)]
    rw [this]; rfl
  | true =>
    rw [Bool.not_true, oif_f]
    by_cases h0 : i < 0
    · have : ovV l a lim i = ([], false) := by unfold ovV; rw [if_neg (by omega)]
      rw [decide_eq_true h0, oif_t, oif_t, this]
    · rw [decide_eq_false h0, oif_f]
      by_cases h1 : i ≥ ((a.length : Nat) : Int)
      · have : ovV l a lim i = ([], false) := by unfold ovV; rw [if_neg (by omega)]
        rw [decide_eq_true h1, oif_t, this]
      · obtain ⟨n, rfl⟩ : ∃ n : Nat, i = (n : Int) := ⟨i.toNat, by omega⟩
        obtain ⟨r1, r2, r3⟩ := runV_spec hc
        have hlen := r3.len
        have hal := (cOk_parts hc).2.2
        have hn : n < (runV l a lim).length := by omega
        have hsi := List.getElem?_eq_getElem hn
        have gi : (runV l a lim).getD n 0 = (runV l a lim)[n] := by simp [List.getD, hsi]
        rw [decide_eq_false h1, oif_f, r1 d, ob_s, nn, oif_t, ofNat_toNat, blt_of hn, oif_t, hsi, ob_s]
        unfold ovV
        rw [if_pos ⟨hc, by omega, by omega⟩, Int.toNat_natCast, gi]
        by_cases h2 : (runV l a lim)[n] < 0
        · rw [decide_eq_true h2, oif_t, if_pos h2]
        · rw [decide_eq_false h2, oif_f, if_neg h2, wr1 (by omega), ← gi]
          exact ov_loop hc (by omega)

theorem q_sOvertakenBy {d : Nat} {l : List Int} {a : Ar} {lim i : Int} (hl : l.length < 4194304) (ha : a.length < 4194304) : g18 (d + 5) l a lim i = some (ovV l a lim i) := by
  rw [e18, q_bdAsked hl ha, ob_s]
  unfold j18_2
  cases hc : cOk l a lim with
  | false =>
    have : ovV l a lim i = ([], false) := by unfold ovV; rw [if_neg (by rw [hc]; simp)]
    rw [this]; rfl
  | true =>
    rw [Bool.not_true, oif_f, q_l1In, ob_s, wr (by omega) (by omega)]
    by_cases h0 : 0 ≤ i ∧ i ≤ ((a.length : Nat) : Int) - 1
    · obtain ⟨n, rfl⟩ : ∃ n : Nat, i = (n : Int) := ⟨i.toNat, by omega⟩
      obtain ⟨r1, r2, r3⟩ := runV_spec hc
      have hlen := r3.len
      have hal := (cOk_parts hc).2.2
      have hn : n < (runV l a lim).length := by omega
      have hsi := List.getElem?_eq_getElem hn
      have gi : (runV l a lim).getD n 0 = (runV l a lim)[n] := by simp [List.getD, hsi]
      rw [decide_eq_true h0, Bool.not_true, oif_f, r2 (d + 2), ob_s, nn, oif_t, ofNat_toNat, blt_of hn, oif_t, hsi, ob_s]
      unfold ovV
      rw [if_pos ⟨hc, by omega, by omega⟩, Int.toNat_natCast, gi]
      by_cases h2 : (runV l a lim)[n] < 0
      · rw [decide_eq_true h2, oif_t, if_pos h2]
      · rw [decide_eq_false h2, oif_f, if_neg h2, wr1 (by omega), ← gi, ov_loops]
        exact ov_loop hc (by omega)
    · have : ovV l a lim i = ([], false) := by unfold ovV; rw [if_neg (by omega)]
      rw [decide_eq_false h0, this]; rfl

/-- The draws. -/
theorem p_arrivals {d m : Nat} {c : List Int × Int × Int} (hc : CurOk m c) (hm : m < 50000) : Ok (g33 (d + 5) c) fun r => r.1.length ≤ 41 ∧ CurOk (m + 1000) r.2 := by
  rw [e33]
  refine Ok.bind (p_marks hc (by omega)) fun r hr => ?_
  obtain ⟨h1, h2⟩ := hr
  refine iter_ok (fun j s => ∃ k : Nat, k + j = r.1.length ∧ s.1.length = k ∧ s.2.2.1 = (k : Int) ∧ CurOk (m + 200 + 2 * k) s.2.2.2) ?_ _ r.1.length _ (by rw [fuelN_eq]; omega) ⟨0, by omega, rfl, rfl, by simpa using h2⟩
  rintro j ⟨l, t, n, x⟩ ag ⟨k, hk, e1, e2, e3⟩ hag
  simp only at e1 e2 e3
  subst e2
  simp only [l33_0, l33_0_b]
  rcases Nat.lt_or_ge k r.1.length with hlt | hge
  · have hx := List.getElem?_eq_getElem hlt
    rw [ltl hx, oif_t, nn, oif_t, ofNat_toNat, blt_of hlt, oif_t, hx, ob_s]
    refine Ok.bind (p_among e3 (by omega) (by simp)) fun u hu => ?_
    rw [room (by simp; omega), oif_t, wr1 (by omega)]
    exact hag (j - 1) _ (by omega) ⟨k + 1, by omega, by simp [e1], rfl, hu.2.mono (by omega)⟩
  · have : k = r.1.length := by omega
    subst this
    rw [ltn, oif_f]
    unfold j33_0
    refine Ok.oif (fun h => ?_) (fun _ => Ok.some ⟨by simp only; omega, e3.mono (by omega)⟩)
    have hpos : 0 < l.length := by have h := of_decide_eq_true h; omega
    refine Ok.bind (p_pick (c := (x.1, x.2.1, x.2.2)) e3 (by omega)) fun u hu => ?_
    refine Ok.oif (fun _ => ?_) (fun _ => Ok.some ⟨by simp only; omega, hu.2.2.mono (by omega)⟩)
    refine Ok.bind (p_among hu.2.2 (by omega) (by simp)) fun v hv => ?_
    rw [wr (n := ((l.length : Nat) : Int) - 1) (by omega) (by omega), show ((l.length : Nat) : Int) - 1 = ((l.length - 1 : Nat) : Int) by omega, nn, oif_t, ofNat_toNat, blt_of (by omega), oif_t, List.getElem?_eq_getElem (show l.length - 1 < l.length by omega), ob_s]
    exact Ok.some ⟨by simp; omega, hv.2.mono (by omega)⟩

theorem p_waitLimit {d m : Nat} {c : List Int × Int × Int} (hc : CurOk m c) (hm : m < 100000) : Ok (g34 (d + 4) c) fun r => CurOk (m + 2) r.2 := by
  rw [e34]
  exact Ok.bind (p_among hc (by omega) (by simp)) fun u hu => Ok.some hu.2

theorem p_DrawRunBands {d : Nat} {x : List Int} (hx : Bytes x) : Ok (g5 (d + 6) x) fun r => r.1.length ≤ 17 ∧ r.2.1.length ≤ 41 := by
  rw [e5]
  refine Ok.bind (p_bandMap (CurOk.new hx) (by omega)) fun r hr => ?_
  refine Ok.bind (p_arrivals hr.2 (by omega)) fun q hq => ?_
  exact Ok.bind (p_waitLimit hq.2 (by omega)) fun u hu => Ok.some ⟨hr.1, hq.1⟩

theorem p_sentTicks {d m : Nat} {c : List Int × Int × Int} {l : List Int} {a : Ar} (hc : CurOk m c) (hm : m < 50000) (hl : l.length ≤ 17) (ha : a.length ≤ 41) : Ok (g41 (d + 5) c l a) fun r => r.1.length ≤ 42 := by
  rw [e41, q_bdAsked (by omega) (by omega), ob_s]
  cases hk : cOk l a 40 with
  | false =>
    have hroom : (Nat.ble a.length a.length && Nat.ble (a.length * 8) roomMax) = true := by rw [ble_of (Nat.le_refl _), ble_of (show a.length * 8 ≤ roomMax by unfold roomMax; omega)]; rfl
    rw [Bool.not_false, oif_t, nn, oif_t, oif_t, ofNat_toNat, hroom, oif_t]
    exact Ok.some (by simp; omega)
  | true =>
    rw [Bool.not_true, oif_f]
    refine Ok.bind (p_pick hc (by omega)) fun u hu => ?_
    obtain ⟨u1, u2, u3⟩ := hu
    have hk2 : cOk l a (1 + u.1) = true := by
      unfold cOk at hk ⊢
      simp only [Bool.and_eq_true] at hk ⊢
      exact ⟨hk.1, hk.2.1, decide_eq_true (by omega)⟩
    obtain ⟨r1, r2, r3⟩ := runV_spec hk2
    have hlen := r3.len
    rw [wr (by omega) (by omega), r2 (d + 2), ob_s]
    have tail : ∀ (s : List Int) (c : List Int × Int × Int), s.length ≤ 41 → CurOk (m + 20) c → Ok (j41_0 (d + 4) c.1 c.2.1 c.2.2 s) fun r => r.1.length ≤ 42 := by
      intro s c hs hc
      unfold j41_0
      refine Ok.bind (p_one hc (by omega)) fun q hq => ?_
      refine Ok.oif (fun _ => ?_) (fun _ => Ok.some (by simp only; omega))
      rw [room (by simp; omega), oif_t]
      exact Ok.some (by simp; omega)
    refine Ok.oif (fun h => ?_) (fun _ => ?_)
    · have hpos : 0 < (runV l a (1 + u.1)).length := by have h := of_decide_eq_true h; omega
      refine Ok.bind (p_one u3 (by omega)) fun q hq => ?_
      unfold j41_1
      refine Ok.oif (fun _ => ?_) (fun _ => tail _ (q.2.1, q.2.2.1, q.2.2.2) (by omega) (CurOk.mono hq (by omega)))
      refine Ok.bind (p_pick (c := (q.2.1, q.2.2.1, q.2.2.2)) hq (by omega)) fun v hv => ?_
      refine Ok.bind (p_among hv.2.2 (by omega) (by simp)) fun w hw => ?_
      have hlt : v.1.toNat < (runV l a (1 + u.1)).length := by
        have h1 := hv.1; have h2 := hv.2.1; omega
      rw [decide_eq_true hv.1, oif_t, blt_of hlt, oif_t, List.getElem?_eq_getElem hlt, ob_s]
      exact tail _ w.2 (by simp; omega) (hw.2.mono (by omega))
    · unfold j41_1
      rw [oif_f]
      exact tail _ u.2 (by omega) (u3.mono (by omega))

theorem p_DrawIsStrict {d : Nat} {x : List Int} (hx : Bytes x) : Ok (g10 (d + 6) x) fun r => r.1.length ≤ 17 ∧ r.2.1.length ≤ 41 ∧ r.2.2.length ≤ 42 := by
  rw [e10]
  refine Ok.bind (p_bandMap (CurOk.new hx) (by omega)) fun r hr => ?_
  refine Ok.bind (p_arrivals hr.2 (by omega)) fun q hq => ?_
  exact Ok.bind (p_sentTicks hq.2 (by omega) hr.1 hq.1) fun u hu => Ok.some ⟨hr.1, hq.1, hu⟩

theorem p_DrawWaitsIn {d : Nat} {x : List Int} (hx : Bytes x) : Ok (g13 (d + 6) x) fun r => r.1.length ≤ 41 ∧ r.2.length ≤ 42 := by
  rw [e13]
  refine Ok.bind (p_arrivals (CurOk.new hx) (by omega)) fun r hr => ?_
  refine Ok.bind (p_bandMap hr.2 (by omega)) fun q hq => ?_
  exact Ok.bind (p_sentTicks hq.2 (by omega) hq.1 hr.1) fun u hu => Ok.some ⟨hr.1, hu⟩

theorem p_DrawOvertakenBy {d : Nat} {x : List Int} (hx : Bytes x) : Ok (g16 (d + 6) x) fun r => r.1.length ≤ 17 ∧ r.2.1.length ≤ 41 := by
  rw [e16]
  refine Ok.bind (p_arrivals (CurOk.new hx) (by omega)) fun r hr => ?_
  refine Ok.bind (p_bandMap hr.2 (by omega)) fun q hq => ?_
  refine Ok.bind (p_waitLimit hq.2 (by omega)) fun u hu => ?_
  refine Ok.bind (p_pick hu (by omega)) fun v hv => ?_
  exact Ok.bind (p_pick hv.2.2 (by omega)) fun w hw => Ok.some ⟨hq.1, hr.1⟩

theorem extAll : ExtAll Try.prog pvAnn := ExtAll.no (fun _ => rfl) (fun _ => rfl)

end Go.Proofs.Ytbciiigglpmlmaa
