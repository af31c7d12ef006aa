/-
  What the cursor's functions and the small ones give by value.
  Conditions: the cursor has not been moved 2^62 times.
  Comparing and adding up lists of numbers; ranges.
  Conditions: the lists are shorter than the fuel.
  Texts: their elements, and the draws of texts.
  Conditions: none, but those of the cursor for the draws.
  The draws of configurations: their classes, with a leaf among them.
  Conditions: those of the cursor.
  Number data, items with their numbers, the texts of attributes.
  Conditions: none, but those of the cursor for the draws.
-/
import Derived.Test.YtaggjheabeoohaaFnDataRes
import Derived.Test.YtaggjheabeoohaaPKit2
import Derived.Laws.Strings
set_option linter.all false
namespace Go.Proofs.Ytaggjheabeoohaa
open Go.Ev Go.Pv

theorem p_next {d m : Nat} {c : List Int × Int × Int} (hc : CurOk m c) (hm : m < 4611686018427387904) : Ok (g260 (d + 1) c) fun r => 0 ≤ r.1 ∧ r.1 < 256 ∧ CurOk (m + 1) r.2 := by
  obtain ⟨hb, h0, h1⟩ := hc
  obtain ⟨code, at', seed⟩ := c
  simp only at hb h0 h1
  have hw : IntKind.i64.wrap (at' + 1) = at' + 1 := wr (by omega) (by omega)
  rw [e260]
  have fin : ∀ n : Int, (at' < code.length → 0 ≤ n ∧ n < 256) → Ok (j260_0 d (code, at', seed) n) fun r => 0 ≤ r.1 ∧ r.1 < 256 ∧ CurOk (m + 1) r.2 := by
    intro n hn
    unfold j260_0
    simp only [hw]
    refine Ok.oif (fun h => ?_) (fun h => ?_)
    · simp only [decide_eq_true_eq] at h
      obtain ⟨a, b⟩ := hn (by omega)
      exact Ok.some ⟨a, b, hb, by simp only; omega, by simp only; omega⟩
    · exact Ok.some ⟨(seedByte _).1, (seedByte _).2, hb, by simp only; omega, by simp only; omega⟩
  refine Ok.oif (fun h => ?_) (fun h => ?_)
  · simp only [decide_eq_true_eq] at h
    refine Ok.oif (fun _ => ?_) (fun h2 => by simp only [decide_eq_false_iff_not] at h2; omega)
    have hlt : at'.toNat < code.length := by omega
    simp only
    rw [List.getElem?_eq_getElem hlt]
    have hx := hb _ (List.getElem_mem hlt)
    refine Ok.bind (Ok.some rfl) (fun a ha => ?_)
    subst ha
    exact fin _ (fun _ => by rw [wr (by omega) (by omega)]; exact hx)
  · simp only [decide_eq_false_iff_not] at h
    exact fin 0 (fun h' => absurd h' h)

theorem p_pick {d m : Nat} {c : List Int × Int × Int} {n : Int} (hc : CurOk m c) (hm : m + 1 < 4611686018427387904) : Ok (g124 (d + 2) c n) fun r => 0 ≤ r.1 ∧ (r.1 < n ∨ r.1 = 0) ∧ CurOk (m + 2) r.2 := by
  rw [e124]
  refine Ok.oif (fun h => ?_) (fun h => ?_)
  · exact Ok.some ⟨by simp, .inr rfl, hc.mono (by omega)⟩
  · simp only [decide_eq_false_iff_not] at h
    refine Ok.bind (p_next hc (by omega)) (fun r hr => ?_)
    obtain ⟨h1, h2, h3⟩ := hr
    have hn : (n == 0) = false := by simp; omega
    refine Ok.oif (fun h4 => ?_) (fun h4 => ?_)
    · refine Ok.bind (p_next h3 (by omega)) (fun q hq => ?_)
      obtain ⟨h5, h6, h7⟩ := hq
      rw [hn]
      rw [wr (n := r.1 * 256) (by omega) (by omega), wr (by omega) (by omega)]
      exact Ok.some ⟨Int.tmod_nonneg _ (by omega), .inl (Int.tmod_lt_of_pos _ (by omega)), h7.mono (by omega)⟩
    · rw [hn]
      exact Ok.some ⟨Int.tmod_nonneg _ (by omega), .inl (Int.tmod_lt_of_pos _ (by omega)), h3.mono (by omega)⟩

theorem p_among {d m : Nat} {c : List Int × Int × Int} {l : List Int} (hc : CurOk m c) (hm : m + 1 < 4611686018427387904) (hl : 0 < l.length) : Ok (g141 (d + 3) c l) fun r => r.1 ∈ l ∧ CurOk (m + 2) r.2 := by
  rw [e141]
  refine Ok.bind (p_pick hc hm) (fun r hr => ?_)
  obtain ⟨h1, h2, h3⟩ := hr
  refine Ok.oif (fun _ => ?_) (fun h => by simp only [decide_eq_false_iff_not] at h; omega)
  have hlt : r.1.toNat < l.length := by omega
  rw [List.getElem?_eq_getElem hlt]
  exact Ok.bind (Ok.some rfl) (fun a ha => by subst ha; exact Ok.some ⟨List.getElem_mem hlt, h3⟩)

theorem p_one {d m : Nat} {c : List Int × Int × Int} {n : Int} (hc : CurOk m c) (hm : m + 1 < 4611686018427387904) : Ok (g125 (d + 3) c n) fun r => CurOk (m + 2) r.2 := by
  rw [e125]
  exact Ok.bind (p_pick hc hm) (fun r hr => Ok.some hr.2.2)

theorem q_l1In {d : Nat} {x y z : Int} : g142 (d + 1) x y z = some (decide (y ≤ x ∧ x ≤ z)) := by
  rw [e142]; simp only [oif_ss]; congr 1; rw [Bool.eq_iff_iff]; simp

theorem q_l1Least {d : Nat} {x y : Int} : g265 (d + 1) x y = some (min x y) := by
  rw [e265]; simp only [oif_ss]; congr 1; split <;> simp_all <;> omega

def szOk (s : Int) : Bool := decide (1 ≤ s ∧ s ≤ 1500)

theorem q_l1Most {d : Nat} {x y : Int} : g143 (d + 1) x y = some (max x y) := by
  rw [e143]; simp only [oif_ss]; congr 1; simp only [decide_eq_true_eq]; split <;> omega

theorem q_l1All {d : Nat} {l : List Int} {a b : Int} (hl : l.length < 4194304) : g264 (d + 2) l a b = some (l.all fun x => decide (a ≤ x ∧ x ≤ b)) := by
  rw [e264]
  refine (range_eq (fun (t : Bool) (i : Int) => (t, i)) l (fun x _ t k => oif (decide (a ≤ x ∧ x ≤ b)) (k t) (some false)) (j264_0 (d + 1)) ?_ ?_ (by rw [fuelN_eq]; exact hl) false).trans ?_
  · intro ag t i x hx; have hi := (List.getElem?_eq_some_iff.1 hx).1; simp only [l264_0, l264_0_b, ltl hx, bltl hx, nn, ofNat_toNat, hx, ob_s, oif_t]; rw [wr1 (by omega)]
    rw [q_l1In, ob_s]; cases decide (a ≤ x ∧ x ≤ b) <;> rfl
  · intro ag t; simp only [l264_0, l264_0_b, ltn, oif_f]
  · rw [rangeR_all (p := fun x => decide (a ≤ x ∧ x ≤ b))]; cases l.all _ <;> rfl

theorem q_big {d : Nat} {x y : List Int} : ∃ b, g53 (d + 1) x y = some b := by
  rw [e53]; simp only [oif_ss]; exact ⟨_, rfl⟩

abbrev By := ByteArray

def bl (s : ByteArray) : List UInt8 := s.data.toList

theorem bl_len (s : ByteArray) : s.size = (bl s).length := rfl

theorem bl_def (s : ByteArray) : s.data.toList = bl s := rfl

theorem bl_app (a b : ByteArray) : bl (a ++ b) = bl a ++ bl b := by simp [bl]

theorem bl_ext (s : ByteArray) (a b : Nat) : bl (s.extract a b) = ((bl s).drop a).take (b - a) := by simp [bl]

theorem bl_lit (l : List UInt8) : bl ⟨l.toArray⟩ = l := by simp [bl]

theorem bl_inj {a b : ByteArray} : bl a = bl b ↔ a = b := by
  constructor
  · intro h
    cases a with | mk a => cases b with | mk b =>
      simp only [bl] at h
      rw [Array.toList_inj.1 h]
  · intro h; rw [h]

theorem bl_eq (a b : ByteArray) : (a.toList == b.toList) = decide (bl a = bl b) := by
  rw [ByteArray.toList_eq, ByteArray.toList_eq]
  by_cases h : bl a = bl b
  · rw [decide_eq_true h]; simpa [bl] using h
  · rw [decide_eq_false h]; simpa [bl] using h

theorem strL_len (l : List Int) : (strL l).size = l.length := by rw [bl_len]; simp [bl, strL]

theorem ble_t {a b : Nat} (h : a ≤ b) : Nat.ble a b = true := by rw [Nat.ble_eq]; exact h

theorem slice_t {α : Type} {a b n : Nat} {x y : Option α} (h1 : a ≤ b) (h2 : b ≤ n) : oif (Nat.ble a b && Nat.ble b n) x y = x := by rw [ble_t h1, ble_t h2]; rfl

theorem room2 {α : Type} {a b : Nat} {x y : Option α} (h : a + b ≤ 9223372036854775807) : oif (Nat.ble (a + b) 9223372036854775807) x y = x := by rw [ble_t h]; rfl

theorem p_of {d m : Nat} {c : List Int × Int × Int} {l : List ByteArray} (hc : CurOk m c) (hm : m + 1 < 4611686018427387904) (hl : 0 < l.length) : Ok (g175 (d + 3) c l) fun r => r.1 ∈ l ∧ CurOk (m + 2) r.2 := by
  rw [e175]
  refine Ok.bind (p_pick hc hm) (fun r hr => ?_)
  obtain ⟨h1, h2, h3⟩ := hr
  refine Ok.oif (fun _ => ?_) (fun h => by simp only [decide_eq_false_iff_not] at h; omega)
  have hlt : r.1.toNat < l.length := by omega
  rw [List.getElem?_eq_getElem hlt]
  exact Ok.bind (Ok.some rfl) (fun a ha => by subst ha; exact Ok.some ⟨List.getElem_mem hlt, h3⟩)

theorem p_value {d m : Nat} {c : List Int × Int × Int} (hc : CurOk m c) (hm : m + 40 < 4611686018427387904) : Ok (g170 (d + 4) c) fun r => -1 ≤ r.1 ∧ r.1 ≤ 1000000001 ∧ CurOk (m + 10) r.2 := by
  rw [e170]
  refine Ok.bind (p_pick hc (by omega)) fun r hr => ?_
  refine Ok.bind (p_pick hr.2.2 (by omega)) fun s hs => ?_
  refine Ok.bind (p_pick hs.2.2 (by omega)) fun t ht => ?_
  refine Ok.bind (p_among ht.2.2 (by omega) (by simp)) fun u hu => ?_
  refine Ok.bind (p_among hu.2 (by omega) (by simp)) fun v hv => ?_
  refine Ok.some ⟨?_, ?_, hv.2.mono (by omega)⟩
  · have h1 := hr.1; have h2 := hs.1; have h3 := ht.1; have h4 := ht.2.1; have h5 := hu.1; have h6 := hv.1
    rw [wr (n := 1000 * t.1) (by omega) (by omega)] at h6
    simp only [List.mem_cons, List.not_mem_nil, or_false] at h5 h6
    omega
  · have h1 := hr.2.1; have h2 := hs.2.1; have h3 := ht.1; have h4 := ht.2.1; have h5 := hu.1; have h6 := hv.1
    rw [wr (n := 1000 * t.1) (by omega) (by omega)] at h6
    simp only [List.mem_cons, List.not_mem_nil, or_false] at h5 h6
    omega

theorem q_nuValue {d : Nat} {n : Int} : g173 (d + 2) n = some (decide (0 ≤ n ∧ n ≤ 1000000000)) := by rw [e173, q_l1In, ob_s]

abbrev Cl := Int × Int × Int × Int × Int × Int × Int × Int
abbrev Fl := Int × Int × Int × Int × Int
abbrev Cf := ByteArray × List Cl × List Fl × Int
abbrev Cur := List Int × Int × Int

theorem get_ok {α β : Type} {l : List α} {i : Nat} (h : i < l.length) {K : α → Option β} {Q : β → Prop} (k : ∀ x, l[i]? = some x → Ok (K x) Q) : Ok (obind (l[i]?) K) Q := by
  rw [List.getElem?_eq_getElem h]; exact k _ (List.getElem?_eq_getElem h)

def hasLeaf (l : List Cl) : Prop := ∃ x ∈ l, ∀ y ∈ l, y.2.1 ≠ x.1

/-- Classes whose Ids are known and whose parents are not the last one. -/
def KP (l : List Cl) (ids : List Int) (L : Int) : Prop := l.map (fun x => x.1) = ids ∧ ∀ x ∈ l, x.2.1 ≠ L

theorem KP.len {l : List Cl} {ids : List Int} {L : Int} (h : KP l ids L) : l.length = ids.length := by rw [← h.1]; simp

theorem KP.set {l : List Cl} {ids : List Int} {L : Int} (h : KP l ids L) {i : Nat} {x y : Cl} (hx : l[i]? = some x) (h1 : y.1 = x.1) (h2 : y.2.1 ≠ L) : KP (l.set i y) ids L := by
  obtain ⟨hi, rfl⟩ := List.getElem?_eq_some_iff.1 hx
  refine ⟨?_, fun z hz => ?_⟩
  · rw [← h.1, List.map_set, h1]
    apply List.ext_getElem (by simp)
    intro k hk1 hk2
    rw [List.getElem_set]
    split
    · rename_i e; subst e; simp
    · rfl
  · rcases List.mem_or_eq_of_mem_set hz with hz | rfl
    · exact h.2 z hz
    · exact h2

theorem KP.get {l : List Cl} {ids : List Int} {L : Int} (h : KP l ids L) {i : Nat} {x : Cl} (hx : l[i]? = some x) : ids[i]? = some x.1 := by
  rw [← h.1, List.getElem?_map, hx]; rfl

theorem mem_get {α : Type} {l : List α} {i : Nat} {x : α} (hx : l[i]? = some x) : x ∈ l := by
  obtain ⟨hi, rfl⟩ := List.getElem?_eq_some_iff.1 hx; exact List.getElem_mem hi

theorem p_cl1 {d m i : Nat} {c : Cur} {l : List Cl} {ids : List Int} {L : Int} {b : Bool} {ag : Int × Cur × List Cl → Option (List Cl × Cur)} {Q : List Cl × Cur → Prop} (hc : CurOk m c) (hm : m + 20 < 4611686018427387904) (hk : KP l ids L) (hi : i < ids.length) (hb : i < 1000)
    (hag : ∀ c' l', CurOk (m + 8) c' → KP l' ids L → Ok (ag (((i + 1 : Nat) : Int), c', l')) Q) : Ok (j278_1 (d + 3) ag (i : Int) c b l) Q := by
  unfold j278_1
  have hl := hk.len
  simp only [nn, ofNat_toNat, oif_t]
  rw [blt_of (by omega), oif_t]
  refine get_ok (by omega) fun x1 g1 => ?_
  refine Ok.bind (p_among hc (by omega) (by simp)) fun r1 hr1 => ?_
  rw [q_l1Least, ob_s]
  refine get_ok (by omega) fun x2 g2 => ?_
  refine Ok.bind (p_among hr1.2 (by omega) (by simp)) fun r2 hr2 => ?_
  have k1 := hk.set g2 (y := (x2.1, x2.2.1, x2.2.2.1, min 100000 (IntKind.i64.wrap (x1.2.2.1 + r1.1)), x2.2.2.2.2)) rfl (hk.2 x2 (mem_get g2))
  generalize hl1 : l.set i (x2.1, x2.2.1, x2.2.2.1, min 100000 (IntKind.i64.wrap (x1.2.2.1 + r1.1)), x2.2.2.2.2) = l1 at k1 ⊢
  have e1 := k1.len
  rw [blt_of (by omega), oif_t]
  refine get_ok (by omega) fun x3 g3 => ?_
  refine Ok.bind (p_among hr2.2 (by omega) (by simp)) fun r3 hr3 => ?_
  have k2 := k1.set g3 (y := (x3.1, x3.2.1, x3.2.2.1, x3.2.2.2.1, r2.1, x3.2.2.2.2.2)) rfl (k1.2 x3 (mem_get g3))
  generalize hl2 : l1.set i (x3.1, x3.2.1, x3.2.2.1, x3.2.2.2.1, r2.1, x3.2.2.2.2.2) = l2 at k2 ⊢
  have e2 := k2.len
  rw [blt_of (by omega), oif_t]
  refine get_ok (by omega) fun x4 g4 => ?_
  refine Ok.bind (p_pick hr3.2 (by omega)) fun r4 hr4 => ?_
  have k3 := k2.set g4 (y := (x4.1, x4.2.1, x4.2.2.1, x4.2.2.2.1, x4.2.2.2.2.1, r3.1, x4.2.2.2.2.2.2)) rfl (k2.2 x4 (mem_get g4))
  generalize hl3 : l2.set i (x4.1, x4.2.1, x4.2.2.1, x4.2.2.2.1, x4.2.2.2.2.1, r3.1, x4.2.2.2.2.2.2) = l3 at k3 ⊢
  have e3 := k3.len
  rw [blt_of (by omega), oif_t]
  refine get_ok (by omega) fun x5 g5 => ?_
  rw [wr1 (by omega)]
  exact hag _ _ (hr4.2.2.mono (by omega)) (k3.set g5 rfl (k3.2 x5 (mem_get g5)))

/-- Parents and the other fields. -/
theorem p_cl3 {d m n : Nat} {c : Cur} {ps : List Int} {l l0 : List Cl} {ids : List Int} {L : Int} (hc : CurOk m c) (hm : m + 1000 < 4611686018427387904) (hk : KP l ids L) (hn : ids.length = n) (hn1 : n ≤ 30) (hp : ps.length = n) (hl0 : l0.length = n)
    (hpar : ∀ (i : Nat) x, ps[i]? = some x → x < (i : Int)) (hL : ∀ k : Nat, k + 1 < n → ids[k]? ≠ some L) :
    Ok (iterP (l278_3 (d + 3) ps l0 (j278_0 (d + 3))) fuelN (0, c, l)) fun r => KP r.1 ids L ∧ CurOk (m + 400) r.2 := by
  refine iter_ok (fun j s => ∃ i : Nat, s.1 = (i : Int) ∧ i + j = n ∧ CurOk (m + 10 * i) s.2.1 ∧ KP s.2.2 ids L) ?_ _ n _ (by rw [fuelN_eq]; omega) ⟨0, rfl, by omega, hc.mono (by omega), hk⟩
  rintro j ⟨_, c', l'⟩ ag ⟨i, rfl, h1, h2, h3⟩ hag
  simp only at h2 h3
  simp only [l278_3, l278_3_b]
  have hl := h3.len
  rw [hl0]
  rcases Nat.lt_or_ge i n with hi | hi
  · rw [decide_eq_true (show (i : Int) < ((n : Nat) : Int) by omega), oif_t]
    simp only [nn, ofNat_toNat, oif_t]
    rw [blt_of (by omega), oif_t]
    have next : ∀ c'' l'', CurOk (m + 10 * i + 8) c'' → KP l'' ids L → Ok (ag (((i + 1 : Nat) : Int), c'', l'')) fun r => KP r.1 ids L ∧ CurOk (m + 400) r.2 := fun c'' l'' g1 g2 => hag (j - 1) _ (by omega) ⟨i + 1, rfl, by omega, g1.mono (by omega), g2⟩
    refine get_ok (by omega) fun p g => ?_
    refine Ok.oif (fun hp0 => ?_) (fun _ => p_cl1 h2 (by omega) h3 (by omega) (by omega) next)
    simp only [decide_eq_true_eq] at hp0
    refine get_ok (by omega) fun q g' => ?_
    rw [g] at g'; injection g' with g'; subst g'
    have hpi := hpar i p g
    rw [decide_eq_true (show 0 ≤ p by omega), oif_t, blt_of (show p.toNat < l'.length by omega), oif_t]
    refine get_ok (by omega) fun x gx => ?_
    rw [blt_of (by omega), oif_t]
    refine get_ok (by omega) fun y gy => ?_
    refine p_cl1 h2 (by omega) (h3.set gy rfl ?_) (by omega) (by omega) next
    simp only
    intro e
    have := h3.get gx
    rw [e] at this
    exact hL p.toNat (by omega) this
  · have : i = n := by omega
    subst this
    rw [ltn, oif_f]
    unfold j278_0
    exact Ok.some ⟨h3, h2.mono (by omega)⟩

/-- A place turned. -/
theorem turn_mod {a n : Int} (h0 : 0 ≤ a) (h1 : a < 2 * n) : a % n = if a < n then a else a - n := by
  split
  · rw [Int.emod_eq_of_lt h0 (by omega)]
  · rw [← Int.sub_emod_right, Int.emod_eq_of_lt (by omega) (by omega)]

def IdOk (T S n k id : Int) : Prop := ∃ e, (e = 0 ∨ e = (S - 1) / 2) ∧ id = 1 + S * ((k + T) % n) + e

theorem idOk_apart {T S n k a b : Int} (hT : 0 ≤ T) (hT1 : T < n) (hS : 1 ≤ S) (hS1 : S ≤ 9) (hk0 : 0 ≤ k) (hk : k < n - 1) (ha : IdOk T S n k a) (hb : IdOk T S n (n - 1) b) : a ≠ b := by
  obtain ⟨e, he, rfl⟩ := ha
  obtain ⟨f, hf, rfl⟩ := hb
  rw [turn_mod (a := k + T) (by omega) (by omega), turn_mod (a := n - 1 + T) (by omega) (by omega)]
  have hc : S = 1 ∨ S = 2 ∨ S = 3 ∨ S = 4 ∨ S = 5 ∨ S = 6 ∨ S = 7 ∨ S = 8 ∨ S = 9 := by omega
  rcases hc with rfl | rfl | rfl | rfl | rfl | rfl | rfl | rfl | rfl <;> split <;> split <;> omega

theorem idOk_pos {T S n k a : Int} (hn : 0 < n) (hS : 1 ≤ S) (ha : IdOk T S n k a) : 1 ≤ a := by
  obtain ⟨e, he, rfl⟩ := ha
  have h1 := Int.emod_nonneg (k + T) (show n ≠ 0 by omega)
  have := Int.mul_nonneg (show 0 ≤ S by omega) h1
  omega

theorem p_clsFin {d m n : Nat} {c : Cur} {ps : List Int} {l : List Cl} (hc : CurOk m c) (hm : m + 2000 < 4611686018427387904) (hl : l.length = n) (hp : ps.length = n) (hn0 : 0 < n) (hn1 : n ≤ 30)
    (hpar : ∀ (i : Nat) x, ps[i]? = some x → x < (i : Int)) (hz : ∀ x ∈ l, x.2.1 = 0) :
    Ok (j278_3 (d + 3) c.1 c.2.1 c.2.2 l ps) fun r => r.1.length = n ∧ hasLeaf r.1 ∧ CurOk (m + 600) r.2 := by
  unfold j278_3
  refine Ok.bind (p_pick (c := (c.1, c.2.1, c.2.2)) hc (by omega)) fun r1 hr1 => ?_
  obtain ⟨a1, a2, a3⟩ := hr1
  refine Ok.bind (p_pick a3 (by omega)) fun r2 hr2 => ?_
  obtain ⟨b1, b2, b3⟩ := hr2
  rw [hl] at a2
  have hT : r1.1 < (n : Int) := by omega
  refine iter_ok (fun j s => ∃ i : Nat, s.1 = (i : Int) ∧ i + j = n ∧ CurOk (m + 4 + 2 * i) s.2.1 ∧ s.2.2.length = n ∧ ∀ (k : Nat) x, s.2.2[k]? = some x → x.2.1 = 0 ∧ (k < i → IdOk r1.1 (1 + r2.1) n k x.1)) ?_ _ n _ (by rw [fuelN_eq]; omega)
    ⟨0, rfl, by omega, b3.mono (by omega), hl, fun k x hx => ⟨hz x (mem_get hx), fun h => by omega⟩⟩
  rintro j ⟨_, c', l'⟩ ag ⟨i, rfl, h1, h2, h3, h4⟩ hag
  simp only at h2 h3 h4
  simp only [l278_2, l278_2_b]
  rw [hl, h3]
  rcases Nat.lt_or_ge i n with hi | hi
  · rw [decide_eq_true (show (i : Int) < ((n : Nat) : Int) by omega), oif_t, show (((n : Nat) : Int) == 0) = false by simp; omega, oif_f]
    refine Ok.bind (p_pick h2 (by omega)) fun r3 hr3 => ?_
    obtain ⟨c1, c2, c3⟩ := hr3
    simp only [nn, ofNat_toNat, oif_t]
    rw [blt_of (by omega), oif_t]
    refine get_ok (by omega) fun x gx => ?_
    rw [wr1 (by omega)]
    refine hag (j - 1) _ (by omega) ⟨i + 1, rfl, by omega, c3.mono (by omega), by simp [h3], fun k y hy => ?_⟩
    by_cases e : i = k
    · subst e
      rw [List.getElem?_set_self (by omega)] at hy
      injection hy with hy; subst hy
      refine ⟨(h4 i x gx).1, fun _ => ?_⟩
      have m1 := Int.emod_nonneg ((i : Int) + r1.1) (show (n : Int) ≠ 0 by omega)
      have m2 := Int.emod_lt_of_pos ((i : Int) + r1.1) (show (0 : Int) < n by omega)
      rw [wr (n := 1 + r2.1) (by omega) (by omega), wr (n := (i : Int) + r1.1) (by omega) (by omega), Int.tmod_eq_emod_of_nonneg (by omega)]
      unfold IdOk
      generalize ((i : Int) + r1.1) % (n : Int) = a at m1 m2 ⊢
      have hr2c : r2.1 = 0 ∨ r2.1 = 1 ∨ r2.1 = 2 ∨ r2.1 = 3 ∨ r2.1 = 4 ∨ r2.1 = 5 ∨ r2.1 = 6 ∨ r2.1 = 7 ∨ r2.1 = 8 := by omega
      have hr3c : r3.1 = 0 ∨ r3.1 = 1 := by omega
      refine ⟨(r3.1 * r2.1) / 2, ?_, ?_⟩
      · rcases hr3c with e | e <;> rw [e]
        · left; simp
        · right; rw [Int.one_mul]; congr 1; omega
      · have key : ∀ q : Int, 0 ≤ q → q ≤ 8 → ∀ z : Int, 0 ≤ z → z ≤ 1 → IntKind.i64.wrap (IntKind.i64.wrap (1 + IntKind.i64.wrap ((1 + q) * a)) + IntKind.i64.wrap ((IntKind.i64.wrap (z * IntKind.i64.wrap (1 + q - 1))).tdiv 2)) = 1 + (1 + q) * a + z * q / 2 := by
          intro q q0 q8 z z0 z1
          have hqc : q = 0 ∨ q = 1 ∨ q = 2 ∨ q = 3 ∨ q = 4 ∨ q = 5 ∨ q = 6 ∨ q = 7 ∨ q = 8 := by omega
          have hzc : z = 0 ∨ z = 1 := by omega
          have h9 : 0 ≤ (1 + q) * a ∧ (1 + q) * a ≤ 1000 := by rcases hqc with rfl | rfl | rfl | rfl | rfl | rfl | rfl | rfl | rfl <;> omega
          have h10 : 0 ≤ z * q ∧ z * q ≤ 8 := by rcases hzc with rfl | rfl <;> omega
          rw [wr (n := (1 + q) * a) (by omega) (by omega), wr (n := 1 + (1 + q) * a) (by omega) (by omega), show 1 + q - 1 = q by omega, wr (n := q) (by omega) (by omega), wr (n := z * q) (by omega) (by omega), Int.tdiv_eq_ediv_of_nonneg h10.1, wr (n := z * q / 2) (by omega) (by omega), wr (by omega) (by omega)]
        exact key r2.1 b1 (by omega) r3.1 c1 (by omega)
    · rw [List.getElem?_set_ne e] at hy
      exact ⟨(h4 k y hy).1, fun hk => (h4 k y hy).2 (by omega)⟩
  · have : i = n := by omega
    subst this
    rw [ltn, oif_f]
    unfold j278_2
    have hlast : i - 1 < l'.length := by omega
    have hids : ∀ (k : Nat) y, l'[k]? = some y → IdOk r1.1 (1 + r2.1) i k y.1 := fun k y hy => (h4 k y hy).2 (by have := (List.getElem?_eq_some_iff.1 hy).1; omega)
    have hL1 := idOk_pos (by omega) (by omega) (hids _ _ (List.getElem?_eq_getElem hlast))
    refine Ok.mono (p_cl3 (n := i) (ids := l'.map (fun x => x.1)) (L := (l'[i - 1]).1) h2 (by omega) ⟨rfl, fun x hx => ?_⟩ (by simp [h3]) hn1 hp h3 hpar ?_) ?_
    · obtain ⟨k, hk, rfl⟩ := List.mem_iff_getElem.1 hx
      rw [(h4 k _ (List.getElem?_eq_getElem hk)).1]; omega
    · intro k hk e
      rw [List.getElem?_map, List.getElem?_eq_getElem (by omega)] at e
      simp only [Option.map_some, Option.some.injEq] at e
      have hkk : k < l'.length := by omega
      have w1 := hids k _ (List.getElem?_eq_getElem hkk)
      have w2 := hids (i - 1) _ (List.getElem?_eq_getElem hlast)
      rw [show ((i - 1 : Nat) : Int) = (i : Int) - 1 by omega] at w2
      exact idOk_apart a1 hT (by omega) (by omega) (by omega) (by omega) w1 w2 e
    · intro r hr
      have hlen := hr.1.len
      refine ⟨by rw [hlen]; simp [h3], ?_, hr.2.mono (by omega)⟩
      have hrl : i - 1 < r.1.length := by rw [hlen]; simp [h3]; omega
      refine ⟨r.1[i - 1], List.getElem_mem hrl, fun y hy => ?_⟩
      have := hr.1.get (List.getElem?_eq_getElem hrl)
      rw [List.getElem?_map, List.getElem?_eq_getElem hlast] at this
      simp only [Option.map_some, Option.some.injEq] at this
      rw [← this]; exact hr.1.2 y hy

theorem spare_ok {d : Nat} {l6 : List Cl} {l7 : List Int} {k s : Int} {K : Int → Int → Option (List Cl × Cur)} {Q : List Cl × Cur → Prop} (hl : l7.length = l6.length) (hn : l7.length ≤ 30) (hK : ∀ a b, Ok (K a b) Q) : Ok (iterP (l278_1 d l6 l7 k K) fuelN (s, 0)) Q := by
  refine iter_ok (fun j s => ∃ i : Nat, s.2 = (i : Int) ∧ i + j = l7.length) ?_ _ l7.length _ (by rw [fuelN_eq]; omega) ⟨0, rfl, by omega⟩
  rintro j ⟨n, _⟩ ag ⟨i, rfl, h1⟩ hag
  simp only [l278_1, l278_1_b]
  rcases Nat.lt_or_ge i l7.length with hi | hi
  · rw [decide_eq_true (show (i : Int) < ((l7.length : Nat) : Int) by omega), oif_t]
    simp only [nn, ofNat_toNat, oif_t]
    rw [blt_of hi, oif_t]
    refine get_ok hi fun x gx => ?_
    rw [wr1 (by omega)]
    refine Ok.oif (fun _ => ?_) (fun _ => hag (j - 1) _ (by omega) ⟨i + 1, rfl, by omega⟩)
    rw [blt_of (by omega), oif_t]
    refine get_ok (by omega) fun y gy => hag (j - 1) _ (by omega) ⟨i + 1, rfl, by omega⟩
  · have : i = l7.length := by omega
    subst this
    rw [ltn, oif_f]
    exact hK _ _

theorem p_classes {d m : Nat} {c : Cur} {n : Int} {b : Bool} (hc : CurOk m c) (hm : m + 4000 < 4611686018427387904) (hn : n ≤ 24) : Ok (g278 (d + 4) c n b) fun r => 0 < r.1.length ∧ r.1.length ≤ 24 ∧ hasLeaf r.1 ∧ CurOk (m + 2000) r.2 := by
  rw [e278]
  refine Ok.bind (p_among hc (by omega) (by simp)) fun r hr => ?_
  refine iter_ok (fun j s => s.1.length + j = 24 ∧ s.2.1.length = s.1.length ∧ s.2.2.1.length = s.1.length ∧ 0 < s.1.length ∧ (∀ (i : Nat) x, s.2.1[i]? = some x → x < (i : Int)) ∧ (∀ x ∈ s.1, x.2.1 = 0) ∧ CurOk (m + 2 + 20 * s.1.length) s.2.2.2) ?_ _ 23 _ (by rw [fuelN_eq]; omega)
    ⟨by simp, by simp, by simp, by simp, ?_, by simp, hr.2.mono (by omega)⟩
  · rintro j ⟨l6, l7, l8, c'⟩ ag ⟨h1, h2, h3, h4, h5, h6, h7⟩ hag
    simp only at h1 h2 h3 h4 h5 h6 h7
    simp only [l278_0, l278_0_b]
    have fin : ∀ c'' : Cur, CurOk (m + 10 + 20 * l6.length) c'' → Ok (j278_3 (d + 3) c''.1 c''.2.1 c''.2.2 l6 l7) fun r => 0 < r.1.length ∧ r.1.length ≤ 24 ∧ hasLeaf r.1 ∧ CurOk (m + 2000) r.2 := fun c'' hc'' =>
      (p_clsFin hc'' (by omega) rfl h2 h4 (by omega) h5 h6).mono fun r hr => ⟨by omega, by omega, hr.2.1, hr.2.2.mono (by omega)⟩
    refine Ok.oif (fun hlt => ?_) (fun _ => fin c' (h7.mono (by omega)))
    simp only [decide_eq_true_eq] at hlt
    refine Ok.bind (p_pick h7 (by omega)) fun r1 hr1 => ?_
    obtain ⟨a1, a2, a3⟩ := hr1
    have main : ∀ k : Nat, k < l6.length → ∀ b', Ok (j278_7 (d + 3) (j278_3 (d + 3)) b ag l6 l7 l8 r1 (k : Int) b') fun r => 0 < r.1.length ∧ r.1.length ≤ 24 ∧ hasLeaf r.1 ∧ CurOk (m + 2000) r.2 := by
      intro k hk b'
      unfold j278_7
      simp only [nn, ofNat_toNat, oif_t]
      rw [blt_of hk, oif_t]
      refine get_ok hk fun x gx => ?_
      refine spare_ok h2 (by omega) fun u v => ?_
      unfold j278_6
      refine Ok.oif (fun _ => fin r1.2 (a3.mono (by omega))) (fun _ => ?_)
      rw [q_l1Least, ob_s]
      refine Ok.bind (p_pick a3 (by omega)) fun r2 hr2 => ?_
      obtain ⟨b1, b2, b3⟩ := hr2
      have last : ∀ (c'' : Cur) (w : Int) b2, CurOk (m + 2 + 20 * l6.length + 10) c'' → Ok (j278_4 (d + 3) ag l6 l7 l8 (k : Int) c''.1 c''.2.1 c''.2.2 w b2) fun r => 0 < r.1.length ∧ r.1.length ≤ 24 ∧ hasLeaf r.1 ∧ CurOk (m + 2000) r.2 := by
        intro c'' w b2 hc''
        unfold j278_4
        rw [room (by simp; omega), oif_t, room (by simp; omega), oif_t]
        simp only [nn, ofNat_toNat, oif_t]
        rw [blt_of (by omega), oif_t]
        refine get_ok (by omega) fun y gy => ?_
        rw [room (by simp; omega), oif_t]
        have hlt24 : l6.length < 24 := by omega
        refine hag (j - 1) _ (by omega) ⟨by simp; omega, by simp; omega, by simp; omega, by simp, fun i z hz => ?_, fun z hz => ?_, hc''.mono (by simp; omega)⟩
        · simp only at hz
          rcases Nat.lt_or_ge i l7.length with hi | hi
          · rw [List.getElem?_append_left hi] at hz; exact h5 i z hz
          · rw [List.getElem?_append_right hi] at hz
            rcases Nat.eq_or_lt_of_le hi with e | e
            · subst e; simp at hz; subst hz; omega
            · rw [List.getElem?_eq_none (by simp; omega)] at hz; simp at hz
        · simp only [List.mem_append, List.mem_singleton] at hz
          rcases hz with hz | rfl
          · exact h6 z hz
          · rfl
      have five : ∀ (c'' : Cur) b1 b2, CurOk (m + 2 + 20 * l6.length + 10) c'' → Ok (j278_5 (d + 3) ag l6 l7 l8 (k : Int) u r2 b1 b2 c''.1 c''.2.1 c''.2.2) fun r => 0 < r.1.length ∧ r.1.length ≤ 24 ∧ hasLeaf r.1 ∧ CurOk (m + 2000) r.2 := by
        intro c'' b1 b2 hc''
        unfold j278_5
        rw [q_l1Most, ob_s]
        exact Ok.oif (fun _ => last c'' _ _ hc'') (fun _ => last c'' _ _ hc'')
      refine Ok.oif (fun _ => five r2.2 true true (b3.mono (by omega))) (fun _ => ?_)
      exact Ok.bind (p_one b3 (by omega)) fun r3 hr3 => five r3.2 false r3.1 (hr3.mono (by omega))
    have eight : ∀ k : Nat, k < l6.length → ∀ b', Ok (j278_8 (d + 3) (j278_3 (d + 3)) b ag l6 l7 l8 r1 (k : Int) b') fun r => 0 < r.1.length ∧ r.1.length ≤ 24 ∧ hasLeaf r.1 ∧ CurOk (m + 2000) r.2 := by
      intro k hk b'
      unfold j278_8
      simp only [nn, ofNat_toNat, oif_t]
      rw [blt_of (by omega), oif_t]
      refine get_ok (by omega) fun x gx => ?_
      exact Ok.oif (fun _ => main 0 (by omega) true) (fun _ => main k hk false)
    refine Ok.oif (fun _ => ?_) (fun _ => ?_)
    · rw [wr (n := ((l6.length : Nat) : Int) - 1) (by omega) (by omega), show ((l6.length : Nat) : Int) - 1 = ((l6.length - 1 : Nat) : Int) by omega]
      exact eight _ (by omega) _
    · have := eight r1.1.toNat (by omega) false
      rw [show ((r1.1.toNat : Nat) : Int) = r1.1 by omega] at this
      exact this
  · intro i x hx
    match i with
    | 0 => simp at hx; subst hx; omega
    | i + 1 => simp at hx

/-- A class put in by its Id. -/
theorem p_cfPut {d : Nat} {l : List Cl} {x : Cl} (hl : l.length ≤ 100) : Ok (g279 (d + 1) l x) fun r => r.length = l.length + 1 ∧ ∀ y, y ∈ r ↔ y ∈ l ∨ y = x := by
  rw [e279]
  have fin : ∀ i : Nat, i ≤ l.length → Ok (j279_0 d l x (i : Int)) fun r => r.length = l.length + 1 ∧ ∀ y, y ∈ r ↔ y ∈ l ∨ y = x := by
    intro i hi
    unfold j279_0
    simp only [nn, ofNat_toNat, oif_t]
    rw [ble_t hi, oif_t, room (by simp; omega), oif_t, room (by simp; omega), oif_t, room (by simp; omega), oif_t]
    refine Ok.some ⟨by simp; omega, fun y => ?_⟩
    have : y ∈ l ↔ y ∈ l.take i ∨ y ∈ l.drop i := by rw [← List.mem_append, List.take_append_drop]
    simp only [List.nil_append, List.mem_append, List.mem_singleton, this]
    constructor
    · rintro ((h | h) | h) <;> simp [h]
    · rintro ((h | h) | h) <;> simp [h]
  refine iter_ok (fun j s => ∃ i : Nat, s = (i : Int) ∧ i + j = l.length) ?_ _ l.length _ (by rw [fuelN_eq]; omega) ⟨0, rfl, by omega⟩
  rintro j _ ag ⟨i, rfl, h1⟩ hag
  simp only [l279_0, l279_0_b]
  rcases Nat.lt_or_ge i l.length with hi | hi
  · rw [decide_eq_true (show (i : Int) < ((l.length : Nat) : Int) by omega), oif_t]
    simp only [nn, ofNat_toNat, oif_t]
    refine get_ok hi fun y gy => ?_
    rw [wr1 (by omega)]
    exact Ok.oif (fun _ => hag (j - 1) _ (by omega) ⟨i + 1, rfl, by omega⟩) (fun _ => fin i (by omega))
  · have : i = l.length := by omega
    subst this
    rw [ltn, oif_f]
    exact fin _ (Nat.le_refl _)

theorem p_cfLeaf {d i : Nat} {c : Cf} (hl : c.2.1.length ≤ 100) (hi : i < c.2.1.length) : Ok (g335 (d + 2) c (i : Int)) fun b => (∀ y ∈ c.2.1, y.2.1 ≠ (c.2.1[i]).1) → b = true := by
  rw [e335, e352]
  have hk : Ok (iterP (l352_0 d c (i : Int) (j352_0 d)) fuelN ([], 0)) fun r => (∀ y ∈ c.2.1, y.2.1 ≠ (c.2.1[i]).1) → r = [] := by
    refine iter_ok (fun j s => ∃ k : Nat, s.2 = (k : Int) ∧ k + j = c.2.1.length ∧ s.1.length ≤ k ∧ ((∀ y ∈ c.2.1, y.2.1 ≠ (c.2.1[i]).1) → s.1 = [])) ?_ _ c.2.1.length _ (by rw [fuelN_eq]; omega) ⟨0, rfl, by omega, by simp, fun _ => rfl⟩
    rintro j ⟨l, _⟩ ag ⟨k, rfl, h1, h2, h3⟩ hag
    simp only at h2 h3
    simp only [l352_0, l352_0_b]
    rcases Nat.lt_or_ge k c.2.1.length with hk | hk
    · rw [decide_eq_true (show (k : Int) < ((c.2.1.length : Nat) : Int) by omega), oif_t]
      simp only [nn, ofNat_toNat, oif_t]
      refine get_ok hk fun x gx => ?_
      refine get_ok hi fun y gy => ?_
      rw [wr1 (by omega)]
      have hy : y = c.2.1[i] := by rw [List.getElem?_eq_getElem hi] at gy; injection gy with gy; exact gy.symm
      refine Ok.oif (fun he => ?_) (fun _ => hag (j - 1) _ (by omega) ⟨k + 1, rfl, by omega, by simp only; omega, h3⟩)
      simp only [beq_iff_eq] at he
      rw [room (by simp; omega), oif_t]
      exact hag (j - 1) _ (by omega) ⟨k + 1, rfl, by omega, by simp; omega, fun hh => absurd (by rw [he, hy]) (hh x (mem_get gx))⟩
    · have : k = c.2.1.length := by omega
      subst this
      rw [ltn, oif_f]
      exact Ok.some h3
  refine Ok.bind hk fun r hr => Ok.some fun hh => ?_
  rw [hr hh]; rfl

def leavesOk (n : Nat) (l : List Int) : Prop := 0 < l.length ∧ l.length ≤ n ∧ ∀ x ∈ l, 0 ≤ x ∧ x < n

theorem p_cfLeaves {d : Nat} {c : Cf} (hl : c.2.1.length ≤ 100) (hh : hasLeaf c.2.1) : Ok (g280 (d + 3) c) fun r => leavesOk c.2.1.length r := by
  obtain ⟨x, hx, hy⟩ := hh
  obtain ⟨i, hi, rfl⟩ := List.mem_iff_getElem.1 hx
  rw [e280]
  refine iter_ok (fun j s => ∃ k : Nat, s.2 = (k : Int) ∧ k + j = c.2.1.length ∧ s.1.length ≤ k ∧ (i < k → 0 < s.1.length) ∧ ∀ x ∈ s.1, 0 ≤ x ∧ x < (c.2.1.length : Int)) ?_ _ c.2.1.length _ (by rw [fuelN_eq]; omega) ⟨0, rfl, by omega, by simp, by simp, by simp⟩
  rintro j ⟨l, _⟩ ag ⟨k, rfl, h1, h2, h3, h4⟩ hag
  simp only at h2 h3 h4
  simp only [l280_0, l280_0_b]
  rcases Nat.lt_or_ge k c.2.1.length with hk | hk
  · rw [decide_eq_true (show (k : Int) < ((c.2.1.length : Nat) : Int) by omega), oif_t]
    refine Ok.bind (p_cfLeaf hl hk) fun b hb => ?_
    rw [wr1 (by omega)]
    refine Ok.oif (fun _ => ?_) (fun hf => ?_)
    · rw [room (by simp; omega), oif_t]
      refine hag (j - 1) _ (by omega) ⟨k + 1, rfl, by omega, by simp; omega, by simp, fun x hx => ?_⟩
      simp only [List.mem_append, List.mem_singleton] at hx
      rcases hx with hx | rfl
      · exact h4 x hx
      · omega
    · refine hag (j - 1) _ (by omega) ⟨k + 1, rfl, by omega, by simp only; omega, fun hik => ?_, h4⟩
      rcases Nat.eq_or_lt_of_le (Nat.le_of_lt_succ hik) with e | e
      · subst e; rw [hb hy] at hf; exact absurd hf (by decide)
      · exact h3 e
  · have : k = c.2.1.length := by omega
    subst this
    rw [ltn, oif_f]
    exact Ok.some ⟨h3 hi, h2, h4⟩

def cfgOk (c : Cf) : Prop := c.1.size ≤ 8 ∧ 0 < c.2.1.length ∧ c.2.1.length ≤ 24 ∧ c.2.2.1.length ≤ 20

theorem p_config {d m : Nat} {c : Cur} (hc : CurOk m c) (hm : m + 8000 < 4611686018427387904) : Ok (g177 (d + 5) c) fun r => cfgOk r.1 ∧ CurOk (m + 4000) r.2 := by
  rw [e177]
  refine Ok.bind (p_of hc (by omega) (by simp)) fun r0 hr0 => ?_
  have hname : r0.1.size ≤ 8 := by
    have := hr0.1
    simp only [List.mem_cons, List.not_mem_nil, or_false] at this
    rcases this with e | e | e | e | e <;> rw [e] <;> decide
  refine Ok.bind (p_pick hr0.2 (by omega)) fun r1 hr1 => ?_
  refine Ok.bind (p_one hr1.2.2 (by omega)) fun r2 hr2 => ?_
  refine Ok.bind (p_one hr2 (by omega)) fun r3 hr3 => ?_
  have five : ∀ (n : Int) b, Ok (j177_5 (d + 4) r0 r3 n b) fun r => cfgOk r.1 ∧ CurOk (m + 4000) r.2 := by
    intro n b
    unfold j177_5
    rw [q_l1Least, ob_s]
    refine Ok.bind (p_classes hr3 (by omega) (by omega)) fun r4 hr4 => ?_
    obtain ⟨k1, k2, k3, k4⟩ := hr4
    refine iter_ok (fun j s => ∃ i : Nat, s.1 = (i : Int) ∧ i + j = r4.1.length ∧ s.2.1 = r0.1 ∧ s.2.2.2.1 = [] ∧ s.2.2.1.length = i ∧ ∀ y, y ∈ s.2.2.1 ↔ y ∈ r4.1.take i) ?_ _ r4.1.length _ (by rw [fuelN_eq]; omega) ⟨0, rfl, by omega, rfl, rfl, rfl, by simp⟩
    rintro j ⟨_, nm, cs, fs, df⟩ ag ⟨i, rfl, h1, h2, h3, h4, h5⟩ hag
    simp only at h2 h3 h4 h5
    simp only [l177_0, l177_0_b]
    rcases Nat.lt_or_ge i r4.1.length with hi | hi
    · rw [decide_eq_true (show (i : Int) < ((r4.1.length : Nat) : Int) by omega), oif_t]
      simp only [nn, ofNat_toNat, oif_t]
      rw [blt_of hi, oif_t]
      refine get_ok hi fun x gx => ?_
      refine Ok.bind (p_cfPut (by omega)) fun r5 hr5 => ?_
      rw [wr1 (by omega)]
      refine hag (j - 1) _ (by omega) ⟨i + 1, rfl, by omega, h2, h3, by simp only; omega, fun y => ?_⟩
      simp only
      rw [hr5.2 y, h5 y, List.take_succ, gx]
      simp
    · have : i = r4.1.length := by omega
      subst this
      rw [ltn, oif_f]
      subst h2 h3
      have hmem : ∀ y, y ∈ cs ↔ y ∈ r4.1 := by intro y; rw [h5 y, List.take_length]
      have hleaf : hasLeaf cs := by
        obtain ⟨x, hx, hy⟩ := k3
        exact ⟨x, (hmem x).2 hx, fun y hy' => hy y ((hmem y).1 hy')⟩
      unfold j177_4
      refine Ok.bind (p_cfLeaves (c := (r0.1, cs, [], df)) (by simp only; omega) hleaf) fun lv hlv => ?_
      simp only at hlv
      obtain ⟨v1, v2, v3⟩ := hlv
      have vget : ∀ i : Nat, i < lv.length → ∀ x, lv[i]? = some x → 0 ≤ x ∧ x.toNat < cs.length := fun i hi x hx => by have := v3 x (mem_get hx); omega
      refine iter_ok (fun j s => ∃ i : Nat, s.1 = (i : Int) ∧ i + j = lv.length ∧ CurOk (m + 2100 + 2 * i) s.2.1 ∧ s.2.2.1 = r0.1 ∧ s.2.2.2.1.length = cs.length ∧ s.2.2.2.2.1 = []) ?_ _ lv.length _ (by rw [fuelN_eq]; omega) ⟨0, rfl, by omega, k4.mono (by omega), rfl, rfl, rfl⟩
      rintro j' ⟨_, c', nm', cs', fs', df'⟩ ag' ⟨i', rfl, f1, f2, f3, f4, f5⟩ hag'
      simp only at f2 f3 f4 f5
      simp only [l177_1, l177_1_b]
      rcases Nat.lt_or_ge i' lv.length with hi' | hi'
      · rw [decide_eq_true (show (i' : Int) < ((lv.length : Nat) : Int) by omega), oif_t]
        simp only [nn, ofNat_toNat, oif_t]
        rw [blt_of hi', oif_t]
        refine get_ok hi' fun x gx => ?_
        obtain ⟨w1, w2⟩ := vget i' hi' x gx
        refine Ok.bind (p_among f2 (by omega) (by simp)) fun r5 hr5 => ?_
        rw [decide_eq_true w1, oif_t, blt_of (show x.toNat < cs'.length by omega), oif_t]
        refine get_ok (by omega) fun y gy => ?_
        rw [wr1 (by omega)]
        exact hag' (j' - 1) _ (by omega) ⟨i' + 1, rfl, by omega, hr5.2.mono (by omega), f3, by simp [f4], f5⟩
      · have : i' = lv.length := by omega
        subst this
        rw [ltn, oif_f]
        subst f3 f5
        unfold j177_3
        refine Ok.bind (p_pick (c := (c'.1, c'.2.1, c'.2.2)) f2 (by omega)) fun r6 hr6 => ?_
        obtain ⟨o1, o2, o3⟩ := hr6
        have zero : ∀ (r : Bool × Cur) (nm : ByteArray) (cs2 : List Cl) (fs : List Fl) (df : Int), CurOk (m + 3000) r.2 → nm.size ≤ 8 → cs2.length = cs.length → fs.length ≤ 20 → Ok (j177_0 (d + 4) lv r nm df cs2 fs) fun r => cfgOk r.1 ∧ CurOk (m + 4000) r.2 := by
          intro r nm cs2 fs df q1 q2 q3 q4
          unfold j177_0
          refine Ok.bind (p_one q1 (by omega)) fun r7 hr7 => ?_
          refine Ok.oif (fun _ => ?_) (fun _ => Ok.some ⟨⟨q2, by simp only; omega, by simp only; omega, q4⟩, hr7.mono (by omega)⟩)
          refine Ok.bind (p_pick hr7 (by omega)) fun r8 hr8 => ?_
          obtain ⟨u1, u2, u3⟩ := hr8
          rw [decide_eq_true u1, oif_t, blt_of (show r8.1.toNat < lv.length by omega), oif_t]
          refine get_ok (by omega) fun x gx => ?_
          obtain ⟨w1, w2⟩ := vget _ (by omega) x gx
          rw [decide_eq_true w1, oif_t, blt_of (show x.toNat < cs2.length by omega), oif_t]
          refine get_ok (by omega) fun y gy => Ok.some ⟨⟨q2, by simp only; omega, by simp only; omega, q4⟩, u3.mono (by omega)⟩
        refine iter_ok (fun j s => s.2.1 ≤ (j : Int) ∧ j ≤ 4 ∧ CurOk (m + 2300 - 20 * j) s.2.2.1 ∧ s.2.2.2.1 = r0.1 ∧ s.2.2.2.2.1.length = cs.length ∧ s.2.2.2.2.2.1.length + j ≤ 4) ?_ _ 4 _ (by rw [fuelN_eq]; omega) ⟨by simp only; omega, by omega, o3.mono (by omega), rfl, f4, by simp⟩
        rintro j2 ⟨pr, k, c2, nm2, cs2, fs2, df2⟩ ag2 ⟨g1, g2, g3, g4, g5, g6⟩ hag2
        simp only at g1 g3 g4 g5 g6
        simp only [l177_2, l177_2_b]
        subst g4
        refine Ok.oif (fun hk => ?_) (fun _ => ?_)
        · simp only [decide_eq_true_eq] at hk
          refine Ok.bind (p_pick g3 (by omega)) fun a1 ha1 => ?_
          refine Ok.bind (p_among ha1.2.2 (by omega) (by simp)) fun a2 ha2 => ?_
          refine Ok.bind (p_pick ha2.2 (by omega)) fun a3 ha3 => ?_
          refine Ok.bind (p_among ha3.2.2 (by omega) (by simp)) fun a4 ha4 => ?_
          refine Ok.bind (p_pick ha4.2 (by omega)) fun a5 ha5 => ?_
          obtain ⟨u1, u2, u3⟩ := ha5
          rw [decide_eq_true u1, oif_t, blt_of (show a5.1.toNat < lv.length by omega), oif_t]
          refine get_ok (by omega) fun x gx => ?_
          obtain ⟨w1, w2⟩ := vget _ (by omega) x gx
          rw [decide_eq_true w1, oif_t, blt_of (show x.toNat < cs2.length by omega), oif_t]
          refine get_ok (by omega) fun y gy => ?_
          rw [room (by simp; omega), oif_t, wr (n := k - 1) (by omega) (by omega)]
          exact hag2 (j2 - 1) _ (by omega) ⟨by simp only; omega, by omega, u3.mono (by omega), rfl, g5, by simp; omega⟩
        · unfold j177_2
          refine Ok.bind (p_one (c := (c2.1, c2.2.1, c2.2.2)) g3 (by omega)) fun r7 hr7 => ?_
          refine Ok.oif (fun _ => ?_) (fun _ => zero r7 _ _ _ _ (hr7.mono (by omega)) hname g5 (by omega))
          refine iter_ok (fun j s => (0 ≤ s.2.1 ∧ s.2.1 + (j : Int) ≥ 16 ∧ s.2.2.2.2.1.length ≤ s.2.1.toNat ∧ s.2.1 ≤ 16) ∧ s.2.2.1 = r0.1 ∧ s.2.2.2.1.length = cs.length) ?_ _ 16 _ (by rw [fuelN_eq]; omega) ⟨⟨by simp only; omega, by simp only; omega, by simp, by simp only; omega⟩, rfl, g5⟩
          rintro j3 ⟨pr3, k3, nm3, cs3, fs3, df3⟩ ag3 ⟨⟨t1, t2, t3, t6⟩, t4, t5⟩ hag3
          simp only at t1 t2 t3 t4 t5 t6
          simp only [l177_3, l177_3_b]
          subst t4
          refine Ok.oif (fun hk => ?_) (fun _ => ?_)
          · simp only [decide_eq_true_eq] at hk
            rw [blt_of v1, oif_t]
            refine get_ok (by omega) fun x gx => ?_
            obtain ⟨w1, w2⟩ := vget _ v1 x gx
            rw [decide_eq_true w1, oif_t, blt_of (show x.toNat < cs3.length by omega), oif_t]
            refine get_ok (by omega) fun y gy => ?_
            rw [room (by simp; omega), oif_t, wr (n := k3 + 1) (by omega) (by omega)]
            exact hag3 (j3 - 1) _ (by omega) ⟨⟨by simp only; omega, by simp only; omega, by simp; omega, by simp only; omega⟩, rfl, t5⟩
          · unfold j177_1
            exact zero r7 _ _ _ _ (hr7.mono (by omega)) hname t5 (by omega)
  exact Ok.oif (fun _ => five _ _) (fun _ => five _ _)

abbrev Atb := Int × Int × Bool × ByteArray

def vOk (n : Int) : Bool := decide (0 ≤ n ∧ n ≤ 1000000000)

theorem q_isValueD {d : Nat} {n : Int} : g171 (d + 1) n = some (vOk n) := by
  rw [e171]; simp only [oif_ss]; congr 1; rw [Bool.eq_iff_iff]; simp [vOk]

theorem q_nuValueD {d : Nat} {n : Int} : g173 (d + 2) n = some (vOk n) := by rw [e173, q_l1In, ob_s]; rfl

def enD (n : Int) : ByteArray := strL [IntKind.u8.wrap ((n.tmod 65536).tmod 256), IntKind.u8.wrap (IntKind.i64.wrap ((n.tmod 65536).tdiv 256))] ++ strL [IntKind.u8.wrap ((IntKind.i64.wrap (n.tdiv 65536)).tmod 256), IntKind.u8.wrap (IntKind.i64.wrap ((IntKind.i64.wrap (n.tdiv 65536)).tdiv 256))]

def nuD (n : Int) : ByteArray := strL [IntKind.u8.wrap n, IntKind.u8.wrap (n.fdiv (2 ^ (min (8 : Int).toNat IntKind.i64.bits)))] ++ strL [IntKind.u8.wrap (n.fdiv (2 ^ (min (16 : Int).toNat IntKind.i64.bits))), IntKind.u8.wrap ((n.fdiv (2 ^ (min (16 : Int).toNat IntKind.i64.bits))).fdiv (2 ^ (min (8 : Int).toNat IntKind.i64.bits)))]

theorem u8w (n : Int) : IntKind.u8.wrap n = n % 256 := rfl

theorem enD_size (n : Int) : (enD n).size = 4 := by unfold enD; rw [ByteArray.size_append, strL_len, strL_len]; rfl

theorem nuD_enD {n : Int} (h : vOk n = true) : nuD n = enD n := by
  unfold vOk at h
  simp only [decide_eq_true_eq] at h
  obtain ⟨h0, h1⟩ := h
  unfold nuD enD
  have e8 : ((2 : Int) ^ (min (8 : Int).toNat IntKind.i64.bits)) = 256 := by decide
  have e16 : ((2 : Int) ^ (min (16 : Int).toNat IntKind.i64.bits)) = 65536 := by decide
  rw [e8, e16, Int.fdiv_eq_ediv_of_nonneg _ (by omega), Int.fdiv_eq_ediv_of_nonneg _ (by omega), Int.fdiv_eq_ediv_of_nonneg _ (by omega), Int.tmod_eq_emod_of_nonneg (a := n) h0, Int.tdiv_eq_ediv_of_nonneg (a := n) h0,
    wr (n := n / 65536) (by omega) (by omega), Int.tmod_eq_emod_of_nonneg (a := n % 65536) (by omega), Int.tdiv_eq_ediv_of_nonneg (a := n % 65536) (by omega), Int.tmod_eq_emod_of_nonneg (a := n / 65536) (by omega), Int.tdiv_eq_ediv_of_nonneg (a := n / 65536) (by omega),
    wr (n := n % 65536 / 256) (by omega) (by omega), wr (n := n / 65536 / 256) (by omega) (by omega)]
  simp only [u8w]
  rw [show n % 65536 % 256 % 256 = n % 256 by omega, show n % 65536 / 256 % 256 = n / 256 % 256 by omega, show n / 65536 % 256 % 256 = n / 65536 % 256 by omega]

theorem q_numberData {d : Nat} {n : Int} : g172 (d + 2) n = some (nuD n) := by
  rw [e172, e276, ob_s, e276, ob_s, room2 (by rw [strL_len, strL_len]; simp)]; rfl

theorem q_enData {d : Nat} {n : Int} : g174 (d + 2) n = some (enD n) := by
  rw [e174, e248, ob_s, e248, ob_s, room2 (by rw [strL_len, strL_len]; simp)]; rfl

def ndV (n : Int) : ByteArray × Bool := if vOk n then (enD n, true) else (⟨#[]⟩, false)

theorem q_NumberData {d : Nat} {n : Int} : g55 (d + 3) n = some (ndV n) := by
  rw [e55, q_isValueD, ob_s]
  unfold ndV
  cases h : vOk n with
  | true => rw [Bool.not_true, oif_f, q_numberData, ob_s, nuD_enD h]; rfl
  | false => rfl

theorem q_sNumberData {d : Nat} {n : Int} : g56 (d + 3) n = some (ndV n) := by
  rw [e56, q_nuValueD, ob_s]
  unfold ndV
  cases h : vOk n with
  | true => rw [Bool.not_true, oif_f, q_enData, ob_s]; rfl
  | false => rfl

theorem orS8 {a b : Int} (h1 : 0 ≤ a) (h2 : a < 256) (h3 : 0 ≤ b) (h4 : b < 256) : IntKind.i64.wrap ((BitVec.ofInt IntKind.i64.bits a ||| BitVec.ofInt IntKind.i64.bits (IntKind.i64.wrap (b * 2 ^ (min (8 : Int).toNat IntKind.i64.bits)))).toNat : Int) = a + b * 256 := by
  have e0 : ((2 : Int) ^ (min (8 : Int).toNat IntKind.i64.bits)) = 256 := by decide
  rw [e0, wr (n := b * 256) (by omega) (by omega)]
  obtain ⟨x, rfl⟩ := Int.eq_ofNat_of_zero_le h1
  obtain ⟨y, rfl⟩ := Int.eq_ofNat_of_zero_le h3
  have hb : IntKind.i64.bits = 64 := rfl
  have e1 : (BitVec.ofInt IntKind.i64.bits ((y : Int) * 256)).toNat = 2 ^ 8 * y := by
    rw [hb, BitVec.toNat_ofInt]; omega
  have e2 : (BitVec.ofInt IntKind.i64.bits (x : Int)).toNat = x := by
    rw [hb, BitVec.toNat_ofInt]; omega
  rw [BitVec.toNat_or, e1, e2, Nat.or_comm, ← Nat.two_pow_add_eq_or_of_lt (show x < 2 ^ 8 by omega) y]
  rw [wr (by omega) (by omega)]; omega

theorem orS16 {a b : Int} (h1 : 0 ≤ a) (h2 : a < 65536) (h3 : 0 ≤ b) (h4 : b < 256) : IntKind.i64.wrap ((BitVec.ofInt IntKind.i64.bits a ||| BitVec.ofInt IntKind.i64.bits (IntKind.i64.wrap (b * 2 ^ (min (16 : Int).toNat IntKind.i64.bits)))).toNat : Int) = a + b * 65536 := by
  have e0 : ((2 : Int) ^ (min (16 : Int).toNat IntKind.i64.bits)) = 65536 := by decide
  rw [e0, wr (n := b * 65536) (by omega) (by omega)]
  obtain ⟨x, rfl⟩ := Int.eq_ofNat_of_zero_le h1
  obtain ⟨y, rfl⟩ := Int.eq_ofNat_of_zero_le h3
  have hb : IntKind.i64.bits = 64 := rfl
  have e1 : (BitVec.ofInt IntKind.i64.bits ((y : Int) * 65536)).toNat = 2 ^ 16 * y := by
    rw [hb, BitVec.toNat_ofInt]; omega
  have e2 : (BitVec.ofInt IntKind.i64.bits (x : Int)).toNat = x := by
    rw [hb, BitVec.toNat_ofInt]; omega
  rw [BitVec.toNat_or, e1, e2, Nat.or_comm, ← Nat.two_pow_add_eq_or_of_lt (show x < 2 ^ 16 by omega) y]
  rw [wr (by omega) (by omega)]; omega

theorem orS24 {a b : Int} (h1 : 0 ≤ a) (h2 : a < 16777216) (h3 : 0 ≤ b) (h4 : b < 256) : IntKind.i64.wrap ((BitVec.ofInt IntKind.i64.bits a ||| BitVec.ofInt IntKind.i64.bits (IntKind.i64.wrap (b * 2 ^ (min (24 : Int).toNat IntKind.i64.bits)))).toNat : Int) = a + b * 16777216 := by
  have e0 : ((2 : Int) ^ (min (24 : Int).toNat IntKind.i64.bits)) = 16777216 := by decide
  rw [e0, wr (n := b * 16777216) (by omega) (by omega)]
  obtain ⟨x, rfl⟩ := Int.eq_ofNat_of_zero_le h1
  obtain ⟨y, rfl⟩ := Int.eq_ofNat_of_zero_le h3
  have hb : IntKind.i64.bits = 64 := rfl
  have e1 : (BitVec.ofInt IntKind.i64.bits ((y : Int) * 16777216)).toNat = 2 ^ 24 * y := by
    rw [hb, BitVec.toNat_ofInt]; omega
  have e2 : (BitVec.ofInt IntKind.i64.bits (x : Int)).toNat = x := by
    rw [hb, BitVec.toNat_ofInt]; omega
  rw [BitVec.toNat_or, e1, e2, Nat.or_comm, ← Nat.two_pow_add_eq_or_of_lt (show x < 2 ^ 24 by omega) y]
  rw [wr (by omega) (by omega)]; omega

def rd4 (l : List UInt8) : Int := match l with
  | [a, b, c, e] => (a.toNat : Int) + (b.toNat : Int) * 256 + (c.toNat : Int) * 65536 + (e.toNat : Int) * 16777216
  | _ => -1

def rdV (s : ByteArray) : Int × Bool := if vOk (rd4 (bl s)) then (rd4 (bl s), true) else (0, false)

theorem by_lt (a : UInt8) : 0 ≤ (a.toNat : Int) ∧ (a.toNat : Int) < 256 := ⟨by omega, by have := a.toNat_lt; omega⟩

theorem four {l : List UInt8} (h : l.length = 4) : ∃ a b c e, l = [a, b, c, e] := by
  match l, h with
  | [a, b, c, e], _ => exact ⟨a, b, c, e, rfl⟩

theorem rd4_no {l : List UInt8} (h : l.length ≠ 4) : rd4 l = -1 := by
  unfold rd4
  split
  · simp at h
  · rfl

theorem q_ReadData {d : Nat} {s : ByteArray} : g57 (d + 1) s = some (rdV s) := by
  rw [e57]
  by_cases h : s.size = 4
  · have h' : (bl s).length = 4 := by rw [← bl_len]; exact h
    obtain ⟨a, b, c, e, hl⟩ := four h'
    simp only [h, bl_def, hl, List.getElem?_cons_zero, List.getElem?_cons_succ, ob_s]
    rw [show ((((4 : Nat) : Int) : Int) != 4) = false from rfl, oif_f]
    obtain ⟨a0, a1⟩ := by_lt a
    obtain ⟨b0, b1⟩ := by_lt b
    obtain ⟨c0, c1⟩ := by_lt c
    obtain ⟨f0, f1⟩ := by_lt e
    rw [wr (n := (a.toNat : Int)) (by omega) (by omega), wr (n := (b.toNat : Int)) (by omega) (by omega), wr (n := (c.toNat : Int)) (by omega) (by omega), wr (n := (e.toNat : Int)) (by omega) (by omega)]
    rw [orS8 a0 a1 b0 b1, orS16 (by omega) (by omega) c0 c1, orS24 (by omega) (by omega) f0 f1]
    have hN : rd4 (bl s) = (a.toNat : Int) + (b.toNat : Int) * 256 + (c.toNat : Int) * 65536 + (e.toNat : Int) * 16777216 := by rw [hl]; rfl
    have hpos : 0 ≤ (a.toNat : Int) + (b.toNat : Int) * 256 + (c.toNat : Int) * 65536 + (e.toNat : Int) * 16777216 := by omega
    unfold rdV
    rw [hN]
    generalize (a.toNat : Int) + (b.toNat : Int) * 256 + (c.toNat : Int) * 65536 + (e.toNat : Int) * 16777216 = n at hpos ⊢
    cases hv : vOk n with
    | true =>
      have := hv
      simp only [vOk, decide_eq_true_eq] at this
      rw [decide_eq_false (by omega), oif_f, if_pos rfl]
    | false =>
      have := hv
      simp only [vOk, decide_eq_false_iff_not] at this
      rw [decide_eq_true (by omega), oif_t, if_neg (by decide)]
  · have : ((((s : ByteArray).size : Int) : Int) != 4) = true := by simp; omega
    rw [this, oif_t]
    unfold rdV
    rw [rd4_no (by rw [← bl_len]; exact h)]; rfl

theorem q_enRead {d : Nat} {s : ByteArray} : g176 (d + 3) s = some (if vOk (rd4 (bl s)) then rd4 (bl s) else -1) := by
  rw [e176]
  by_cases h : s.size = 4
  · have h' : (bl s).length = 4 := by rw [← bl_len]; exact h
    obtain ⟨a, b, c, e, hl⟩ := four h'
    rw [h, show ((((4 : Nat) : Int) : Int) != 4) = false from rfl, oif_f]
    obtain ⟨a0, a1⟩ := by_lt a
    obtain ⟨b0, b1⟩ := by_lt b
    obtain ⟨c0, c1⟩ := by_lt c
    obtain ⟨f0, f1⟩ := by_lt e
    have t0 : g277 (d + 2) s 0 = some ((a.toNat : Int) + 256 * (b.toNat : Int)) := by
      rw [e277]
      simp only [bl_def, hl]
      rw [show (0 : Int).toNat = 0 from rfl, show IntKind.i64.wrap (0 + 1) = 1 from by rw [wr (by omega) (by omega)]; rfl, show (1 : Int).toNat = 1 from rfl]
      simp only [List.getElem?_cons_zero, List.getElem?_cons_succ, ob_s]
      rw [decide_eq_true (by omega), oif_t, decide_eq_true (by omega), oif_t, wr (n := (a.toNat : Int)) (by omega) (by omega), wr (n := (b.toNat : Int)) (by omega) (by omega), wr (n := 256 * (b.toNat : Int)) (by omega) (by omega), wr (by omega) (by omega)]
    have t2 : g277 (d + 2) s 2 = some ((c.toNat : Int) + 256 * (e.toNat : Int)) := by
      rw [e277]
      simp only [bl_def, hl]
      rw [show (2 : Int).toNat = 2 from rfl, show IntKind.i64.wrap (2 + 1) = 3 from by rw [wr (by omega) (by omega)]; rfl, show (3 : Int).toNat = 3 from rfl]
      simp only [List.getElem?_cons_zero, List.getElem?_cons_succ, ob_s]
      rw [decide_eq_true (by omega), oif_t, decide_eq_true (by omega), oif_t, wr (n := (c.toNat : Int)) (by omega) (by omega), wr (n := (e.toNat : Int)) (by omega) (by omega), wr (n := 256 * (e.toNat : Int)) (by omega) (by omega), wr (by omega) (by omega)]
    rw [t0, ob_s, t2, ob_s, wr (n := 65536 * _) (by omega) (by omega), wr (by omega) (by omega), q_nuValueD, ob_s]
    have hN : rd4 (bl s) = (a.toNat : Int) + 256 * (b.toNat : Int) + 65536 * ((c.toNat : Int) + 256 * (e.toNat : Int)) := by
      rw [hl]; show (a.toNat : Int) + (b.toNat : Int) * 256 + (c.toNat : Int) * 65536 + (e.toNat : Int) * 16777216 = _; omega
    rw [hN]
    generalize (a.toNat : Int) + 256 * (b.toNat : Int) + 65536 * ((c.toNat : Int) + 256 * (e.toNat : Int)) = n
    cases vOk n <;> rfl
  · have : ((((s : ByteArray).size : Int) : Int) != 4) = true := by simp; omega
    rw [this, oif_t, rd4_no (by rw [← bl_len]; exact h)]; rfl

theorem q_sReadData {d : Nat} {s : ByteArray} : g59 (d + 4) s = some (rdV s) := by
  rw [e59, q_enRead, ob_s]
  unfold rdV
  cases h : vOk (rd4 (bl s)) with
  | false => rfl
  | true =>
    simp only [if_true]
    have := h
    simp only [vOk, decide_eq_true_eq] at this
    rw [decide_eq_false (by omega), oif_f, ob_s]

theorem i2u {n : Int} (h0 : 0 ≤ n) (h1 : n < 256) : ((UInt8.ofNat n.toNat).toNat : Int) = n := by
  rw [UInt8.toNat_ofNat']; omega

theorem bl_strL (l : List Int) : bl (strL l) = l.map fun n => UInt8.ofNat n.toNat := by simp [bl, strL]

theorem rdV_enD {n : Int} (h : vOk n = true) : rdV (enD n) = (n, true) := by
  have hv := h
  simp only [vOk, decide_eq_true_eq] at hv
  obtain ⟨h0, h1⟩ := hv
  have e : rd4 (bl (enD n)) = n := by
    rw [← nuD_enD h]
    unfold nuD
    have e8 : ((2 : Int) ^ (min (8 : Int).toNat IntKind.i64.bits)) = 256 := by decide
    have e16 : ((2 : Int) ^ (min (16 : Int).toNat IntKind.i64.bits)) = 65536 := by decide
    rw [e8, e16, Int.fdiv_eq_ediv_of_nonneg _ (by omega), Int.fdiv_eq_ediv_of_nonneg _ (by omega), Int.fdiv_eq_ediv_of_nonneg _ (by omega)]
    simp only [u8w]
    rw [bl_app, bl_strL, bl_strL]
    simp only [List.map_cons, List.map_nil, List.cons_append, List.nil_append, rd4]
    rw [i2u (by omega) (by omega), i2u (by omega) (by omega), i2u (by omega) (by omega), i2u (by omega) (by omega)]
    omega
  unfold rdV
  rw [e, h]; rfl

/-- Items. -/
def itL (f : Int → ByteArray) : Nat → List Int → List Atb
  | _, [] => []
  | i, n :: r => (3, ((i + 1 : Nat) : Int), false, f n) :: itL f (i + 1) r

theorem itL_len (f : Int → ByteArray) : ∀ (i : Nat) (l : List Int), (itL f i l).length = l.length
  | _, [] => rfl
  | i, n :: r => by simp [itL, itL_len f (i + 1) r]

theorem itL_congr {f g : Int → ByteArray} : ∀ (i : Nat) (l : List Int), (∀ n ∈ l, f n = g n) → itL f i l = itL g i l
  | _, [], _ => rfl
  | i, n :: r, h => by simp only [itL]; rw [h n (by simp), itL_congr (i + 1) r fun m hm => h m (by simp [hm])]

theorem itL_mem {f : Int → ByteArray} : ∀ (i : Nat) (l : List Int) (x : Atb), x ∈ itL f i l → x.1 = 3 ∧ x.2.2.1 = false ∧ ∃ n, x.2.2.2 = f n
  | _, [], x, h => by simp [itL] at h
  | i, n :: r, x, h => by
    simp only [itL, List.mem_cons] at h
    rcases h with rfl | h
    · exact ⟨rfl, rfl, n, rfl⟩
    · exact itL_mem (i + 1) r x h

theorem rangeR_it {f : Int → ByteArray} {fin : List Atb → Option (List Atb)} : ∀ (l : List Int) (i : Nat) (t : List Atb), t.length + l.length ≤ 1000 →
    rangeR (fun n i (t : List Atb) k => oif (Nat.ble ((t.length + [((3 : Int), ((i + 1 : Nat) : Int), false, f n)].length) * 40) roomMax) (k (t ++ [(3, ((i + 1 : Nat) : Int), false, f n)])) none) fin l i t = fin (t ++ itL f i l)
  | [], i, t, _ => by simp [rangeR, itL]
  | n :: r, i, t, h => by
    simp only [List.length_cons] at h
    simp only [rangeR, itL]
    rw [room (by simp; omega), oif_t, rangeR_it r (i + 1) _ (by simp; omega)]
    simp

theorem q_enItem {d : Nat} {k : Int} {l : List Int} (hl : l.length ≤ 100) : g183 (d + 3) k l = some ((2, k, true, ⟨#[]⟩) :: itL enD 0 l) := by
  rw [e183]
  refine (range_eq (fun (t : List Atb) (i : Int) => (t, i)) l (fun n i (t : List Atb) k => oif (Nat.ble ((t.length + [((3 : Int), ((i + 1 : Nat) : Int), false, enD n)].length) * 40) roomMax) (k (t ++ [(3, ((i + 1 : Nat) : Int), false, enD n)])) none) (j183_0 (d + 2)) ?_ ?_ (by rw [fuelN_eq]; omega) _).trans ?_
  · intro ag t i x hx
    have hi := (List.getElem?_eq_some_iff.1 hx).1
    simp only [l183_0, l183_0_b, ltl hx, nn, ofNat_toNat, hx, ob_s, oif_t, q_enData]
    rw [wr1 (by omega)]
    rfl
  · intro ag t; simp only [l183_0, l183_0_b, ltn, oif_f]
  · rw [rangeR_it _ _ _ (by simp; omega)]; rfl

theorem q_partAttrs {d : Nat} {k : Int} {l : List Int} (hl : l.length ≤ 100) : g180 (d + 3) k l = some ((2, k, true, ⟨#[]⟩) :: itL nuD 0 l) := by
  rw [e180]
  refine (range_eq (fun (t : List Atb) (i : Int) => (t, i)) l (fun n i (t : List Atb) k => oif (Nat.ble ((t.length + [((3 : Int), ((i + 1 : Nat) : Int), false, nuD n)].length) * 40) roomMax) (k (t ++ [(3, ((i + 1 : Nat) : Int), false, nuD n)])) none) (j180_0 (d + 2)) ?_ ?_ (by rw [fuelN_eq]; omega) _).trans ?_
  · intro ag t i x hx
    have hi := (List.getElem?_eq_some_iff.1 hx).1
    simp only [l180_0, l180_0_b, ltl hx, nn, ofNat_toNat, hx, ob_s, oif_t, q_numberData]
    rw [wr1 (by omega)]
    rfl
  · intro ag t; simp only [l180_0, l180_0_b, ltn, oif_f]
  · rw [rangeR_it _ _ _ (by simp; omega)]; rfl

theorem q_areValues {d : Nat} {l : List Int} (hl : l.length ≤ 100) : g178 (d + 2) l = some (l.all vOk) := by
  rw [e178]
  refine (range_eq (fun (t : Bool) (i : Int) => (t, i)) l (fun x _ t k => oif (vOk x) (k t) (some false)) (j178_0 (d + 1)) ?_ ?_ (by rw [fuelN_eq]; omega) false).trans ?_
  · intro ag t i x hx
    have hi := (List.getElem?_eq_some_iff.1 hx).1
    simp only [l178_0, l178_0_b, ltl hx, nn, ofNat_toNat, hx, ob_s, oif_t, q_isValueD]
    rw [wr1 (by omega)]
    cases vOk x <;> rfl
  · intro ag t; simp only [l178_0, l178_0_b, ltn, oif_f]
  · rw [rangeR_all (p := vOk)]; cases l.all vOk <;> rfl

theorem q_enValues {d : Nat} {l : List Int} (hl : l.length ≤ 100) : g181 (d + 3) l = some (l.all vOk) := by
  rw [e181, q_l1All (by omega), ob_s]; rfl

def caV (k : Int) (l : List Int) : List Atb × Bool := if l.all vOk then ((2, k, true, ⟨#[]⟩) :: itL enD 0 l, true) else ([], false)

def clN (x : Cl) : List Int := [x.1, x.2.1, x.2.2.1, x.2.2.2.1, x.2.2.2.2.1, x.2.2.2.2.2.1, x.2.2.2.2.2.2.1, x.2.2.2.2.2.2.2]

def flN (x : Fl) : List Int := [x.1, x.2.1, x.2.2.1, x.2.2.2.1, x.2.2.2.2]

theorem it_nuD {k : Int} {l : List Int} (h : l.all vOk = true) : (((2 : Int), k, true, (⟨#[]⟩ : ByteArray)) :: itL nuD 0 l) = (2, k, true, ⟨#[]⟩) :: itL enD 0 l := by
  rw [itL_congr 0 l fun n hn => nuD_enD (List.all_eq_true.1 h n hn)]

theorem q_ClassAttrs {d : Nat} {x : Cl} : g61 (d + 4) x = some (caV 4 (clN x)) := by
  rw [e61, e179, ob_s]
  rw [show ([x.1, x.2.1, x.2.2.1, x.2.2.2.1, x.2.2.2.2.1, x.2.2.2.2.2.1, x.2.2.2.2.2.2.1, x.2.2.2.2.2.2.2] : List Int) = clN x from rfl]
  rw [q_areValues (by simp [clN]), ob_s]
  unfold caV
  cases h : (clN x).all vOk with
  | false => rfl
  | true => rw [Bool.not_true, oif_f, ob_s, q_partAttrs (by simp [clN]), ob_s, it_nuD h]; rfl

theorem q_sClassAttrs {d : Nat} {x : Cl} : g62 (d + 4) x = some (caV 4 (clN x)) := by
  rw [e62, e182, ob_s]
  rw [show ([x.1, x.2.1, x.2.2.1, x.2.2.2.1, x.2.2.2.2.1, x.2.2.2.2.2.1, x.2.2.2.2.2.2.1, x.2.2.2.2.2.2.2] : List Int) = clN x from rfl]
  rw [q_enValues (by simp [clN]), ob_s]
  unfold caV
  cases h : (clN x).all vOk with
  | false => rfl
  | true => rw [Bool.not_true, oif_f, ob_s, q_enItem (by simp [clN]), ob_s]; rfl

theorem q_FilterAttrs {d : Nat} {x : Fl} : g64 (d + 4) x = some (caV 5 (flN x)) := by
  rw [e64, e184, ob_s]
  rw [show ([x.1, x.2.1, x.2.2.1, x.2.2.2.1, x.2.2.2.2] : List Int) = flN x from rfl]
  rw [q_areValues (by simp [flN]), ob_s]
  unfold caV
  cases h : (flN x).all vOk with
  | false => rfl
  | true => rw [Bool.not_true, oif_f, ob_s, q_partAttrs (by simp [flN]), ob_s, it_nuD h]; rfl

theorem q_sFilterAttrs {d : Nat} {x : Fl} : g65 (d + 4) x = some (caV 5 (flN x)) := by
  rw [e65, e185, ob_s]
  rw [show ([x.1, x.2.1, x.2.2.1, x.2.2.2.1, x.2.2.2.2] : List Int) = flN x from rfl]
  rw [q_enValues (by simp [flN]), ob_s]
  unfold caV
  cases h : (flN x).all vOk with
  | false => rfl
  | true => rw [Bool.not_true, oif_f, ob_s, q_enItem (by simp [flN]), ob_s]; rfl

/-- Attributes whose texts can be written. -/
def tvOkL (l : List Atb) : Prop := l.length ≤ 400 ∧ ∀ x ∈ l, x.2.2.2.size ≤ 8 ∧ 1 ≤ x.1 ∧ x.1 ≤ 3

theorem p_tvEnd {d : Nat} {l : List Atb} {i : Nat} (hl : l.length ≤ 400) (hi : i < l.length) : Ok (g305 (d + 1) l (i : Int)) fun e => ∃ k : Nat, e = (k : Int) ∧ i < k ∧ k ≤ l.length ∧ ∀ j, i < j → j < k → ∀ x y, l[j]? = some x → l[i]? = some y → y.1 < x.1 := by
  rw [e305, wr1 (by omega)]
  refine iter_ok (fun j s => ∃ k : Nat, s = (k : Int) ∧ k + j = l.length ∧ i < k ∧ ∀ j, i < j → j < k → ∀ x y, l[j]? = some x → l[i]? = some y → y.1 < x.1) ?_ _ (l.length - (i + 1)) _ (by rw [fuelN_eq]; omega) ⟨i + 1, rfl, by omega, by omega, fun j h1 h2 => by omega⟩
  rintro j _ ag ⟨k, rfl, h1, h2, h3⟩ hag
  simp only [l305_0, l305_0_b]
  rcases Nat.lt_or_ge k l.length with hk | hk
  · rw [decide_eq_true (show (k : Int) < ((l.length : Nat) : Int) by omega), oif_t]
    simp only [nn, ofNat_toNat, oif_t]
    refine get_ok hk fun x gx => ?_
    refine get_ok hi fun y gy => ?_
    rw [wr1 (by omega)]
    refine Ok.oif (fun hgt => ?_) (fun _ => Ok.some ⟨k, rfl, h2, by omega, h3⟩)
    simp only [decide_eq_true_eq] at hgt
    refine hag (j - 1) _ (by omega) ⟨k + 1, rfl, by omega, by omega, fun j' q1 q2 u v gu gv => ?_⟩
    rcases Nat.eq_or_lt_of_le (Nat.le_of_lt_succ q2) with e | e
    · subst e; rw [gx] at gu; rw [gy] at gv; injection gu with gu; injection gv with gv; subst gu; subst gv; omega
    · exact h3 j' q1 e u v gu gv
  · have : k = l.length := by omega
    subst this
    rw [ltn, oif_f]
    exact Ok.some ⟨_, rfl, h2, Nat.le_refl _, h3⟩

theorem q_tvPad {d : Nat} {n : Int} (h0 : 0 ≤ n) (h1 : n ≤ 1000000000000000) : g306 (d + 1) n = some ((n + 3) / 4 * 4) := by
  rw [e306, wr (n := n + 3) (by omega) (by omega), Int.tdiv_eq_ediv_of_nonneg (by omega), wr (n := (n + 3) / 4) (by omega) (by omega), wr (by omega) (by omega)]

def tvB : Nat → Nat
  | 0 => 1
  | k + 1 => 20 + 400 * tvB k

theorem p_tvTail {d : Nat} {s : ByteArray} {n : Int} (hs : s.size ≤ 100000000000) : Ok (j308_1 (d + 1) s n) fun r => r.size ≤ s.size + 7 := by
  unfold j308_1
  rw [e248, ob_s, e248, ob_s, room2 (by rw [strL_len, strL_len]; simp), room2 (by rw [ByteArray.size_append, strL_len, strL_len]; simp; omega)]
  refine iter_ok (fun j q => q.size + j = s.size + 7) ?_ _ 3 _ (by rw [fuelN_eq]; omega) (by rw [ByteArray.size_append, ByteArray.size_append, strL_len, strL_len]; simp; omega)
  rintro j q ag h1 hag
  simp only [l308_0, l308_0_b]
  rw [wr (n := 4 + (s.size : Int)) (by omega) (by omega), q_tvPad (by omega) (by omega), ob_s]
  refine Ok.oif (fun h => ?_) (fun _ => ?_)
  · simp only [decide_eq_true_eq] at h
    have h0 : (⟨#[0]⟩ : ByteArray).size = 1 := rfl
    rw [room2 (by omega)]
    exact hag (j - 1) _ (by omega) (by rw [ByteArray.size_append]; omega)
  · unfold j308_0
    exact Ok.some (by omega)

theorem p_tv {l : List Atb} (hl : tvOkL l) : ∀ (k d : Nat), k ≤ 3 → (∀ i : Nat, i < l.length → (∀ x, l[i]? = some x → 4 - x.1 ≤ (k : Int)) → Ok (g308 (d + 2 * k + 1) l (i : Int)) fun s => s.size ≤ tvB k) ∧
    (∀ a b : Nat, a ≤ b → b ≤ l.length → (∀ i x, a ≤ i → i < b → l[i]? = some x → 4 - x.1 ≤ (k : Int)) → Ok (g246 (d + 2 * k + 2) l (a : Int) (b : Int)) fun s => s.size ≤ 400 * tvB k) := by
  have one : ∀ (k d : Nat), k ≤ 3 → (∀ d : Nat, k ≠ 0 → ∀ a b : Nat, a ≤ b → b ≤ l.length → (∀ i x, a ≤ i → i < b → l[i]? = some x → 4 - x.1 ≤ ((k - 1 : Nat) : Int)) → Ok (g246 (d + 2 * k) l (a : Int) (b : Int)) fun s => s.size ≤ 400 * tvB (k - 1)) →
      ∀ i : Nat, i < l.length → (∀ x, l[i]? = some x → 4 - x.1 ≤ (k : Int)) → Ok (g308 (d + 2 * k + 1) l (i : Int)) fun s => s.size ≤ tvB k := by
    intro k d hk hall i hi hlev
    have h400 := hl.1
    have hx := List.getElem?_eq_getElem hi
    have hx1 := hl.2 _ (List.getElem_mem hi)
    have hx2 := hlev _ hx
    obtain ⟨k', rfl⟩ : ∃ k', k = k' + 1 := ⟨k - 1, by omega⟩
    have hB : tvB k' ≤ 3209000 := by
      have : k' = 0 ∨ k' = 1 ∨ k' = 2 := by omega
      rcases this with rfl | rfl | rfl <;> simp [tvB]
    rw [e308]
    simp only [nn, ofNat_toNat, oif_t, hx, ob_s]
    rw [show d + 2 * (k' + 1) = (d + 2 * k' + 1) + 1 by omega]
    refine Ok.oif (fun _ => ?_) (fun _ => ?_)
    · refine Ok.bind (p_tvEnd hl.1 hi) fun e he => ?_
      obtain ⟨b, rfl, b1, b2, b3⟩ := he
      rw [wr1 (by omega), show d + 2 * k' + 1 + 1 = d + 2 * (k' + 1) by omega]
      refine Ok.bind (hall d (by omega) (i + 1) b (by omega) b2 (fun j x q1 q2 gx => ?_)) fun s hs => ?_
      · have := b3 j (by omega) q2 x _ gx hx
        omega
      · rw [show k' + 1 - 1 = k' by omega] at hs
        rw [show d + 2 * (k' + 1) = (d + 2 * k' + 1) + 1 by omega]
        exact (p_tvTail (by omega)).mono fun r hr => by simp only [tvB]; omega
    · exact (p_tvTail (by omega)).mono fun r hr => by simp only [tvB]; omega
  have all : ∀ (k d : Nat), k ≤ 3 → (∀ d i : Nat, i < l.length → (∀ x, l[i]? = some x → 4 - x.1 ≤ (k : Int)) → Ok (g308 (d + 2 * k + 1) l (i : Int)) fun s => s.size ≤ tvB k) →
      ∀ a b : Nat, a ≤ b → b ≤ l.length → (∀ i x, a ≤ i → i < b → l[i]? = some x → 4 - x.1 ≤ (k : Int)) → Ok (g246 (d + 2 * k + 2) l (a : Int) (b : Int)) fun s => s.size ≤ 400 * tvB k := by
    intro k d hk hone a b hab hbl hlev
    have h400 := hl.1
    have hB : tvB k ≤ 1283600020 := by
      have : k = 0 ∨ k = 1 ∨ k = 2 ∨ k = 3 := by omega
      rcases this with rfl | rfl | rfl | rfl <;> simp [tvB]
    rw [e246]
    refine iter_ok (fun j s => ∃ i : Nat, s.2 = (i : Int) ∧ i + j = l.length ∧ a ≤ i ∧ s.1.size ≤ i * tvB k) ?_ _ (l.length - a) _ (by rw [fuelN_eq]; omega) ⟨a, rfl, by omega, Nat.le_refl _, by show (⟨#[]⟩ : ByteArray).size ≤ _; exact Nat.zero_le _⟩
    rintro j ⟨s, _⟩ ag ⟨i, rfl, h1, h2, h3⟩ hag
    simp only at h3
    simp only [l246_0, l246_0_b]
    have hm : i * tvB k ≤ 400 * tvB k := Nat.mul_le_mul_right _ (by omega)
    refine Ok.oif (fun hlt => ?_) (fun _ => ?_)
    · simp only [decide_eq_true_eq] at hlt
      have hi : i < l.length := by omega
      refine Ok.bind (hone d i hi (fun x gx => hlev i x h2 (by omega) gx)) fun r hr => ?_
      rw [room2 (by omega)]
      refine Ok.bind (p_tvEnd (d := d + 2 * k) hl.1 hi) fun e he => ?_
      obtain ⟨k2, rfl, b1, b2, _⟩ := he
      refine hag (l.length - k2) _ (by omega) ⟨k2, rfl, by omega, by omega, ?_⟩
      have : (i + 1) * tvB k ≤ k2 * tvB k := Nat.mul_le_mul_right _ (by omega)
      rw [Nat.add_mul] at this
      simp only [ByteArray.size_append]; omega
    · unfold j246_0
      exact Ok.some (by omega)
  intro k
  induction k with
  | zero =>
    intro d hk
    have h1 : ∀ d i : Nat, i < l.length → (∀ x, l[i]? = some x → 4 - x.1 ≤ ((0 : Nat) : Int)) → Ok (g308 (d + 2 * 0 + 1) l (i : Int)) fun s => s.size ≤ tvB 0 := fun d => one 0 d hk (fun _ h => absurd rfl h)
    exact ⟨h1 d, all 0 d hk h1⟩
  | succ k ih =>
    intro d hk
    have h1 : ∀ d i : Nat, i < l.length → (∀ x, l[i]? = some x → 4 - x.1 ≤ ((k + 1 : Nat) : Int)) → Ok (g308 (d + 2 * (k + 1) + 1) l (i : Int)) fun s => s.size ≤ tvB (k + 1) := fun d => one (k + 1) d hk (fun d _ a b q1 q2 q3 => (ih d (by omega)).2 a b q1 q2 q3)
    exact ⟨h1 d, all (k + 1) d hk h1⟩

theorem p_enAttrs {d : Nat} {c : Cf} (hc : cfgOk c) : Ok (g281 (d + 4) c) fun l => tvOkL l := by
  obtain ⟨c1, c2, c3, c4⟩ := hc
  rw [e281, q_enData, ob_s]
  have good : ∀ (k : Int) (l : List Int), ∀ x ∈ (((2 : Int), k, true, (⟨#[]⟩ : ByteArray)) :: itL enD 0 l), x.2.2.2.size ≤ 8 ∧ 1 ≤ x.1 ∧ x.1 ≤ 3 := by
    intro k l x hx
    rcases List.mem_cons.1 hx with rfl | hx
    · exact ⟨Nat.zero_le _, by simp, by simp⟩
    · obtain ⟨h1, _, n, h2⟩ := itL_mem _ _ _ hx
      rw [h1, h2, enD_size]; omega
  refine iter_ok (fun j s => ∃ i : Nat, s.2 = (i : Int) ∧ i + j = c.2.1.length ∧ s.1.length = 3 + 9 * i ∧ ∀ x ∈ s.1, x.2.2.2.size ≤ 8 ∧ 1 ≤ x.1 ∧ x.1 ≤ 3) ?_ _ c.2.1.length _ (by rw [fuelN_eq]; omega) ⟨0, rfl, by omega, by simp, fun x hx => ?_⟩
  · rintro j ⟨l, _⟩ ag ⟨i, rfl, h1, h2, h3⟩ hag
    simp only at h2 h3
    simp only [l281_0, l281_0_b]
    rcases Nat.lt_or_ge i c.2.1.length with hi | hi
    · rw [decide_eq_true (show (i : Int) < ((c.2.1.length : Nat) : Int) by omega), oif_t]
      simp only [nn, ofNat_toNat, oif_t]
      refine get_ok hi fun x gx => ?_
      rw [e182, ob_s, q_enItem (by simp), ob_s, room (by simp [itL_len]; omega), oif_t, wr1 (by omega)]
      refine hag (j - 1) _ (by omega) ⟨i + 1, rfl, by omega, by simp [itL_len]; omega, fun y hy => ?_⟩
      rcases List.mem_append.1 hy with hy | hy
      · exact h3 y hy
      · exact good _ _ y hy
    · have : i = c.2.1.length := by omega
      subst this
      rw [ltn, oif_f]
      unfold j281_1
      refine iter_ok (fun j s => ∃ i : Nat, s.2 = (i : Int) ∧ i + j = c.2.2.1.length ∧ s.1.length = l.length + 6 * i ∧ ∀ x ∈ s.1, x.2.2.2.size ≤ 8 ∧ 1 ≤ x.1 ∧ x.1 ≤ 3) ?_ _ c.2.2.1.length _ (by rw [fuelN_eq]; omega) ⟨0, rfl, by omega, by simp, h3⟩
      rintro j' ⟨l', _⟩ ag' ⟨i', rfl, f1, f2, f3⟩ hag'
      simp only at f2 f3
      simp only [l281_1, l281_1_b]
      rcases Nat.lt_or_ge i' c.2.2.1.length with hi' | hi'
      · rw [decide_eq_true (show (i' : Int) < ((c.2.2.1.length : Nat) : Int) by omega), oif_t]
        simp only [nn, ofNat_toNat, oif_t]
        refine get_ok hi' fun x gx => ?_
        rw [e185, ob_s, q_enItem (by simp), ob_s, room (by simp [itL_len]; omega), oif_t, wr1 (by omega)]
        refine hag' (j' - 1) _ (by omega) ⟨i' + 1, rfl, by omega, by simp [itL_len]; omega, fun y hy => ?_⟩
        rcases List.mem_append.1 hy with hy | hy
        · exact f3 y hy
        · exact good _ _ y hy
      · have : i' = c.2.2.1.length := by omega
        subst this
        rw [ltn, oif_f]
        unfold j281_0
        exact Ok.some ⟨by omega, f3⟩
  · simp only [List.mem_cons, List.not_mem_nil, or_false] at hx
    rcases hx with rfl | rfl | rfl
    · exact ⟨Nat.zero_le _, by simp, by simp⟩
    · exact ⟨c1, by simp, by simp⟩
    · exact ⟨by simp only [enD_size]; omega, by simp, by simp⟩

theorem p_enText {d : Nat} {c : Cf} (hc : cfgOk c) : Ok (g186 (d + 9) c) fun s => s.size ≤ 600000000000 := by
  rw [e186]
  refine Ok.bind (p_enAttrs (d := d + 4) hc) fun l hl => ?_
  have := (p_tv hl 3 d (by omega)).2 0 l.length (by omega) (by omega) (fun i x _ _ gx => by have := hl.2 x (mem_get gx); omega)
  refine Ok.bind this fun s hs => Ok.some ?_
  have hB : tvB 3 = 65288020 ∨ tvB 3 ≤ 1283600020 := .inr (by simp [tvB])
  omega

theorem p_bent {d m : Nat} {c : Cur} {s : ByteArray} (hc : CurOk m c) (hm : m + 100 < 4611686018427387904) (hs : s.size ≤ 600000000000) : Ok (g187 (d + 4) c s) fun r => r.1.size ≤ 600000000008 := by
  rw [e187]
  refine Ok.oif (fun h => ?_) (fun h => ?_)
  · refine Ok.bind (p_of hc (by omega) (by simp)) fun r hr => Ok.some ?_
    have := hr.1
    have all : ∀ x ∈ [(⟨#[]⟩ : ByteArray), (⟨#[0, 0, 0]⟩ : ByteArray), (⟨#[3, 0, 3, 0]⟩ : ByteArray), (⟨#[4, 0, 0, 0]⟩ : ByteArray), (⟨#[5, 0, 0, 0, 97, 0, 0, 1]⟩ : ByteArray)], x.size ≤ 8 := by
      intro x hx
      simp only [List.mem_cons, List.not_mem_nil, or_false] at hx
      rcases hx with rfl | rfl | rfl | rfl | rfl <;> decide
    have := all _ this
    simp only; omega
  · have h0 : 0 < s.size := by
      rcases Nat.eq_zero_or_pos s.size with e | e
      · rw [e] at h; simp at h
      · exact e
    refine Ok.bind (p_pick hc (by omega)) fun r1 hr1 => ?_
    refine Ok.oif (fun _ => ?_) (fun _ => Ok.oif (fun _ => ?_) (fun _ => Ok.oif (fun _ => ?_) (fun _ => Ok.some (by simp only; omega))))
    · refine Ok.bind (p_pick hr1.2.2 (by omega)) fun r2 hr2 => ?_
      obtain ⟨a1, a2, a3⟩ := hr2
      have hlt : r2.1.toNat < s.size := by omega
      rw [decide_eq_true a1, oif_t, slice_t (by omega) (by omega)]
      refine Ok.bind (p_pick a3 (by omega)) fun r3 hr3 => ?_
      have e1 : (s.extract 0 r2.1.toNat).size = r2.1.toNat := by rw [ByteArray.size_extract]; omega
      have hst : ∀ n : Int, (strL [n]).size = 1 := fun n => by rw [strL_len]; rfl
      rw [room2 (by rw [e1, hst]; omega), wr (n := r2.1 + 1) (by omega) (by omega), decide_eq_true (show 0 ≤ r2.1 + 1 by omega), oif_t, slice_t (by omega) (by omega)]
      have e3 : (s.extract (r2.1 + 1).toNat s.size).size = s.size - r2.1.toNat - 1 := by rw [ByteArray.size_extract]; omega
      rw [room2 (by rw [ByteArray.size_append, e1, hst, e3]; omega)]
      refine Ok.some ?_
      simp only [ByteArray.size_append]
      rw [e1, hst, e3]; omega
    · refine Ok.bind (p_pick hr1.2.2 (by omega)) fun r2 hr2 => ?_
      obtain ⟨a1, a2, a3⟩ := hr2
      rw [decide_eq_true a1, oif_t, slice_t (by omega) (by omega)]
      refine Ok.some ?_
      simp only [ByteArray.size_extract]; omega
    · refine Ok.bind (p_of hr1.2.2 (by omega) (by simp)) fun r hr => ?_
      have := hr.1
      have all : ∀ x ∈ [(⟨#[0]⟩ : ByteArray), (⟨#[4, 0, 0, 128]⟩ : ByteArray), (⟨#[0, 0, 0, 0]⟩ : ByteArray), (⟨#[8, 0, 0, 128, 3, 0, 0, 0]⟩ : ByteArray)], x.size ≤ 8 := by
        intro x hx
        simp only [List.mem_cons, List.not_mem_nil, or_false] at hx
        rcases hx with rfl | rfl | rfl | rfl <;> decide
      have := all _ this
      rw [room2 (by omega)]
      refine Ok.some ?_
      simp only [ByteArray.size_append]; omega

theorem p_long {d : Nat} {c : Cur} {n : Int} (hn : n ≤ 10000) : Ok (g188 (d + 1) c n) fun r => r.1.size ≤ 10000 := by
  rw [e188]
  refine iter_ok (fun j s => s.size + j = 10000) ?_ _ 10000 _ (by rw [fuelN_eq]; omega) (by show (⟨#[]⟩ : ByteArray).size + 10000 = 10000; rfl)
  rintro j s ag h1 hag
  simp only [l188_0, l188_0_b]
  refine Ok.oif (fun h => ?_) (fun _ => ?_)
  · simp only [decide_eq_true_eq] at h
    have h0 : (⟨#[120]⟩ : ByteArray).size = 1 := rfl
    rw [room2 (by omega)]
    exact hag (j - 1) _ (by omega) (by rw [ByteArray.size_append]; omega)
  · unfold j188_0
    exact Ok.some (by simp only; omega)

theorem p_DrawApart {d : Nat} {y : List Int} (hy : Bytes y) : Ok (g67 (d + 10) y) fun r => r.1.size ≤ 700000000000 ∧ r.2.size ≤ 700000000000 := by
  rw [e67]
  refine Ok.bind (p_config (d := d + 4) (CurOk.new hy) (by omega)) fun r hr => ?_
  refine Ok.bind (p_enText hr.1) fun s hs => ?_
  refine Ok.bind (p_pick hr.2 (by omega)) fun r1 hr1 => ?_
  obtain ⟨a1, a2, a3⟩ := hr1
  refine Ok.oif (fun _ => Ok.some ⟨by simp only; omega, by simp only; omega⟩) (fun _ => Ok.oif (fun _ => ?_) (fun _ => Ok.oif (fun _ => ?_) (fun _ => ?_)))
  · exact Ok.bind (p_bent (d := d + 5) a3 (by omega) hs) fun r hr => Ok.some ⟨by simp only; omega, by simp only; omega⟩
  · refine Ok.bind (p_pick a3 (by omega)) fun r2 hr2 => ?_
    rw [wr (n := 6000 + r2.1) (by omega) (by omega)]
    exact Ok.bind (p_long (by omega)) fun r hr => Ok.some ⟨by simp only; omega, by simp only; omega⟩
  · refine Ok.bind (p_config (d := d + 4) a3 (by omega)) fun r2 hr2 => ?_
    exact Ok.bind (p_enText hr2.1) fun t ht => Ok.some ⟨by simp only; omega, by simp only; omega⟩

def apOk (a b : ByteArray) (r : Int × Bool) : Prop := r.2 = true → ∃ k : Nat, r.1 = (k : Int) ∧ k ≤ a.size ∧ k ≤ b.size ∧ (bl a).take k = (bl b).take k ∧ (k = a.size ∨ k = b.size ∨ (k < a.size ∧ k < b.size ∧ (bl a)[k]? ≠ (bl b)[k]?))

theorem p_apLoop {d : Nat} {a b : ByteArray} (ha : a.size ≤ 6000) : Ok (iterP (l68_0 d a b (j68_0 d)) fuelN 0) fun r => apOk a b r := by
  refine iter_ok (fun j s => ∃ k : Nat, s = (k : Int) ∧ k + j = a.size ∧ k ≤ b.size ∧ (bl a).take k = (bl b).take k) ?_ _ a.size _ (by rw [fuelN_eq]; omega) ⟨0, rfl, by omega, by omega, by simp⟩
  rintro j _ ag ⟨k, rfl, h1, h2, h3⟩ hag
  simp only [l68_0, l68_0_b]
  unfold j68_0
  refine Ok.oif (fun hk => ?_) (fun hk => Ok.some fun _ => ⟨k, rfl, by omega, h2, h3, .inl (by simp only [decide_eq_false_iff_not] at hk; omega)⟩)
  simp only [decide_eq_true_eq] at hk
  refine Ok.oif (fun hk2 => ?_) (fun hk2 => Ok.some fun _ => ⟨k, rfl, by omega, h2, h3, .inr (.inl (by simp only [decide_eq_false_iff_not] at hk2; omega))⟩)
  simp only [decide_eq_true_eq] at hk2
  simp only [nn, ofNat_toNat, oif_t, bl_def]
  have ka : k < (bl a).length := by rw [← bl_len]; omega
  have kb : k < (bl b).length := by rw [← bl_len]; omega
  refine get_ok ka fun x gx => ?_
  refine get_ok kb fun y gy => ?_
  refine Ok.oif (fun he => ?_) (fun he => Ok.some fun _ => ⟨k, rfl, by omega, h2, h3, .inr (.inr ⟨by omega, by omega, ?_⟩)⟩)
  · simp only [beq_iff_eq] at he
    rw [wr1 (by omega)]
    refine hag (j - 1) _ (by omega) ⟨k + 1, rfl, by omega, by omega, ?_⟩
    have hxy : x = y := by apply UInt8.toNat_inj.1; omega
    rw [List.take_succ, List.take_succ, h3, gx, gy, hxy]
  · rw [gx, gy]
    intro e
    injection e with e
    subst e
    simp at he

theorem p_Apart {d : Nat} {a b : ByteArray} : Ok (g68 (d + 1) a b) fun r => apOk a b r := by
  rw [e68]
  have one : ∀ c, a.size ≤ 6000 ∨ c = true → Ok (j68_1 d a b c) fun r => apOk a b r := by
    intro c hc
    unfold j68_1
    refine Ok.oif (fun _ => Ok.some fun h => absurd h (by simp)) (fun h => ?_)
    exact p_apLoop (hc.resolve_right (by rw [h]; decide))
  refine Ok.oif (fun _ => one _ (.inr rfl)) (fun h => Ok.oif (fun _ => one _ (.inr rfl)) (fun _ => one _ (.inl ?_)))
  simp only [decide_eq_false_iff_not] at h; omega

theorem q_ApartSame {d : Nat} {a b : ByteArray} : g69 (d + 1) a b = g68 (d + 1) a b := by
  have e0 : j69_0 d = j68_0 d := by funext n; unfold j69_0 j68_0; rfl
  have e1 : ∀ K, l69_0 d a b K = l68_0 d a b K := by
    intro K; funext ag s
    simp only [l69_0, l68_0, l69_0_b, l68_0_b]
  have e2 : ∀ c, j69_1 d a b c = j68_1 d a b c := by
    intro c; unfold j69_1 j68_1; rw [e0, e1]
  rw [e69, e68, e2, e2]

theorem p_DrawClassAttrs {d : Nat} {y : List Int} (hy : Bytes y) : Ok (g60 (d + 6) y) fun _ => True := by
  rw [e60]
  refine Ok.bind (p_config (CurOk.new hy) (by omega)) fun r hr => ?_
  obtain ⟨⟨_, h1, _⟩, h2⟩ := hr
  rw [blt_of h1, oif_t]
  refine get_ok h1 fun x gx => ?_
  refine Ok.bind (p_one h2 (by omega)) fun r1 hr1 => ?_
  refine Ok.oif (fun _ => ?_) (fun _ => Ok.some trivial)
  exact Ok.bind (p_among hr1 (by omega) (by simp)) fun r2 hr2 => Ok.some trivial

theorem p_DrawReadData {d : Nat} {y : List Int} (hy : Bytes y) : Ok (g58 (d + 5) y) fun _ => True := by
  rw [e58]
  refine Ok.bind (p_value (CurOk.new hy) (by omega)) fun r hr => ?_
  rw [q_l1Most, ob_s, q_enData, ob_s]
  refine Ok.bind (p_pick hr.2.2 (by omega)) fun r1 hr1 => ?_
  obtain ⟨a1, a2, a3⟩ := hr1
  refine Ok.oif (fun _ => ?_) (fun _ => Ok.oif (fun _ => ?_) (fun _ => Ok.oif (fun _ => ?_) (fun _ => Ok.some trivial)))
  · refine Ok.bind (p_pick a3 (by omega)) fun r2 hr2 => ?_
    obtain ⟨b1, b2, b3⟩ := hr2
    rw [decide_eq_true b1, oif_t, slice_t (by omega) (by rw [enD_size]; omega)]
    exact Ok.some trivial
  · rw [room2 (by rw [enD_size]; show 4 + 1 ≤ _; omega)]
    exact Ok.some trivial
  · exact Ok.bind (p_of a3 (by omega) (by simp)) fun r2 hr2 => Ok.some trivial

theorem p_DrawFilterAttrs {d : Nat} {y : List Int} (hy : Bytes y) : Ok (g63 (d + 5) y) fun _ => True := by
  rw [e63]
  refine Ok.bind (p_pick (CurOk.new hy) (by omega)) fun r1 hr1 => ?_
  refine Ok.bind (p_pick hr1.2.2 (by omega)) fun r2 hr2 => ?_
  refine Ok.bind (p_pick hr2.2.2 (by omega)) fun r3 hr3 => ?_
  refine Ok.bind (p_value hr3.2.2 (by omega)) fun r4 hr4 => ?_
  exact Ok.bind (p_pick hr4.2.2 (by omega)) fun r5 hr5 => Ok.some trivial

theorem q_pSameAttrsD {d : Nat} {l : List Atb} (hl : l.length < 4194304) : g66 (d + 1) l l = some true := by
  rw [e66, bne_self_eq_false, oif_f]
  refine (range_eq (fun (t : Bool) (i : Int) => (t, i)) l (fun x i t k => k t) (j66_0 d) ?_ ?_ (by rw [fuelN_eq]; exact hl) false).trans ?_
  · intro ag t i x hx
    have hi := (List.getElem?_eq_some_iff.1 hx).1
    simp only [l66_0, l66_0_b, ltl hx, bltl hx, nn, ofNat_toNat, hx, ob_s, oif_t, beq_self_eq_true, Bool.and_self, Bool.not_true, oif_f]
    rw [wr1 (by omega)]
  · intro ag t; simp only [l66_0, l66_0_b, ltn, oif_f]
  · rw [rangeR_fold (f := fun _ _ t => t)]; rfl

end Go.Proofs.Ytaggjheabeoohaa
