/-
  What the cursor's functions and the small ones give by value.
  Conditions: the cursor has not been moved 2^62 times.
  Comparing and adding up lists of numbers; ranges.
  Conditions: the lists are shorter than the fuel.
  Texts: their elements, and the draws of texts.
  Conditions: none, but those of the cursor for the draws.
  Lines of texts, their places, in both packages; the draws.
  Conditions: the texts are not too long.
  What is given for the library's functions on texts.
  Conditions: none.
-/
import Derived.Test.YtbciiigglpmlmaaDoorFnPlacesRes
import Derived.Test.YtbciiigglpmlmaaDoorPKit2
import Derived.Laws.Strings
import Derived.Test.YtbciiigglpmlmaaDoorPureW
import Derived.Test.YtbciiigglpmlmaaDoorStrW
set_option linter.all false
namespace Go.Proofs.YtbciiigglpmlmaaDoor
open Go.Ev Go.Pv

theorem p_next {d m : Nat} {c : List Int × Int × Int} (hc : CurOk m c) (hm : m < 4611686018427387904) : Ok (g116 (d + 1) c) fun r => 0 ≤ r.1 ∧ r.1 < 256 ∧ CurOk (m + 1) r.2 := by
  obtain ⟨hb, h0, h1⟩ := hc
  obtain ⟨code, at', seed⟩ := c
  simp only at hb h0 h1
  have hw : IntKind.i64.wrap (at' + 1) = at' + 1 := wr (by omega) (by omega)
  rw [e116]
  have fin : ∀ n : Int, (at' < code.length → 0 ≤ n ∧ n < 256) → Ok (j116_0 d (code, at', seed) n) fun r => 0 ≤ r.1 ∧ r.1 < 256 ∧ CurOk (m + 1) r.2 := by
    intro n hn
    unfold j116_0
    simp only [hw]
    refine Ok.oif (fun h => ?_) (fun h => ?_)
    · simp only [decide_eq_true_eq] at h
      obtain ⟨a, b⟩ := hn (by omega)
      exact Ok.some ⟨a, b, hb, by simp only; omega, by simp only; omega⟩
    · exact Ok.some ⟨(seedByte _).1, (seedByte _).2, hb, by simp only; omega, by simp only; omega⟩
  refine Ok.oif (fun h => ?_) (fun h => ?_)
  · simp only [decide_eq_true_eq] at h
    refine Ok.oif (fun _ => ?_) (fun h2 => by simp only [decide_eq_false_iff_not] at h2; omega)
    have hlt : at'.toNat < code.length := by omega
    simp only
    rw [List.getElem?_eq_getElem hlt]
    have hx := hb _ (List.getElem_mem hlt)
    refine Ok.bind (Ok.some rfl) (fun a ha => ?_)
    subst ha
    exact fin _ (fun _ => by rw [wr (by omega) (by omega)]; exact hx)
  · simp only [decide_eq_false_iff_not] at h
    exact fin 0 (fun h' => absurd h' h)

theorem p_pick {d m : Nat} {c : List Int × Int × Int} {n : Int} (hc : CurOk m c) (hm : m + 1 < 4611686018427387904) : Ok (g66 (d + 2) c n) fun r => 0 ≤ r.1 ∧ (r.1 < n ∨ r.1 = 0) ∧ CurOk (m + 2) r.2 := by
  rw [e66]
  refine Ok.oif (fun h => ?_) (fun h => ?_)
  · exact Ok.some ⟨by simp, .inr rfl, hc.mono (by omega)⟩
  · simp only [decide_eq_false_iff_not] at h
    refine Ok.bind (p_next hc (by omega)) (fun r hr => ?_)
    obtain ⟨h1, h2, h3⟩ := hr
    have hn : (n == 0) = false := by simp; omega
    refine Ok.oif (fun h4 => ?_) (fun h4 => ?_)
    · refine Ok.bind (p_next h3 (by omega)) (fun q hq => ?_)
      obtain ⟨h5, h6, h7⟩ := hq
      rw [hn]
      rw [wr (n := r.1 * 256) (by omega) (by omega), wr (by omega) (by omega)]
      exact Ok.some ⟨Int.tmod_nonneg _ (by omega), .inl (Int.tmod_lt_of_pos _ (by omega)), h7.mono (by omega)⟩
    · rw [hn]
      exact Ok.some ⟨Int.tmod_nonneg _ (by omega), .inl (Int.tmod_lt_of_pos _ (by omega)), h3.mono (by omega)⟩

theorem p_among {d m : Nat} {c : List Int × Int × Int} {l : List Int} (hc : CurOk m c) (hm : m + 1 < 4611686018427387904) (hl : 0 < l.length) : Ok (g65 (d + 3) c l) fun r => r.1 ∈ l ∧ CurOk (m + 2) r.2 := by
  rw [e65]
  refine Ok.bind (p_pick hc hm) (fun r hr => ?_)
  obtain ⟨h1, h2, h3⟩ := hr
  refine Ok.oif (fun _ => ?_) (fun h => by simp only [decide_eq_false_iff_not] at h; omega)
  have hlt : r.1.toNat < l.length := by omega
  rw [List.getElem?_eq_getElem hlt]
  exact Ok.bind (Ok.some rfl) (fun a ha => by subst ha; exact Ok.some ⟨List.getElem_mem hlt, h3⟩)

theorem p_one {d m : Nat} {c : List Int × Int × Int} {n : Int} (hc : CurOk m c) (hm : m + 1 < 4611686018427387904) : Ok (g82 (d + 3) c n) fun r => CurOk (m + 2) r.2 := by
  rw [e82]
  exact Ok.bind (p_pick hc hm) (fun r hr => Ok.some hr.2.2)

theorem q_l1In {d : Nat} {x y z : Int} : g68 (d + 1) x y z = some (decide (y ≤ x ∧ x ≤ z)) := by
  rw [e68]; simp only [oif_ss]; congr 1; rw [Bool.eq_iff_iff]; simp

theorem q_l1Least {d : Nat} {x y : Int} : g83 (d + 1) x y = some (min x y) := by
  rw [e83]; simp only [oif_ss]; congr 1; split <;> simp_all <;> omega

def szOk (s : Int) : Bool := decide (1 ≤ s ∧ s ≤ 1500)

theorem q_big {d : Nat} {x y : List Int} : ∃ b, g9 (d + 1) x y = some b := by
  rw [e9]; simp only [oif_ss]; exact ⟨_, rfl⟩

abbrev By := ByteArray

def bl (s : ByteArray) : List UInt8 := s.data.toList

theorem bl_len (s : ByteArray) : s.size = (bl s).length := rfl

theorem bl_def (s : ByteArray) : s.data.toList = bl s := rfl

theorem bl_app (a b : ByteArray) : bl (a ++ b) = bl a ++ bl b := by simp [bl]

theorem bl_ext (s : ByteArray) (a b : Nat) : bl (s.extract a b) = ((bl s).drop a).take (b - a) := by simp [bl]

theorem bl_lit (l : List UInt8) : bl ⟨l.toArray⟩ = l := by simp [bl]

theorem bl_inj {a b : ByteArray} : bl a = bl b ↔ a = b := by
  constructor
  · intro h
    cases a with | mk a => cases b with | mk b =>
      simp only [bl] at h
      rw [Array.toList_inj.1 h]
  · intro h; rw [h]

theorem bl_eq (a b : ByteArray) : (a.toList == b.toList) = decide (bl a = bl b) := by
  rw [ByteArray.toList_eq, ByteArray.toList_eq]
  by_cases h : bl a = bl b
  · rw [decide_eq_true h]; simpa [bl] using h
  · rw [decide_eq_false h]; simpa [bl] using h

theorem strL_len (l : List Int) : (strL l).size = l.length := by rw [bl_len]; simp [bl, strL]

theorem ble_t {a b : Nat} (h : a ≤ b) : Nat.ble a b = true := by rw [Nat.ble_eq]; exact h

theorem slice_t {α : Type} {a b n : Nat} {x y : Option α} (h1 : a ≤ b) (h2 : b ≤ n) : oif (Nat.ble a b && Nat.ble b n) x y = x := by rw [ble_t h1, ble_t h2]; rfl

theorem room2 {α : Type} {a b : Nat} {x y : Option α} (h : a + b ≤ 9223372036854775807) : oif (Nat.ble (a + b) 9223372036854775807) x y = x := by rw [ble_t h]; rfl

theorem p_of {d m : Nat} {c : List Int × Int × Int} {l : List ByteArray} (hc : CurOk m c) (hm : m + 1 < 4611686018427387904) (hl : 0 < l.length) : Ok (g121 (d + 3) c l) fun r => r.1 ∈ l ∧ CurOk (m + 2) r.2 := by
  rw [e121]
  refine Ok.bind (p_pick hc hm) (fun r hr => ?_)
  obtain ⟨h1, h2, h3⟩ := hr
  refine Ok.oif (fun _ => ?_) (fun h => by simp only [decide_eq_false_iff_not] at h; omega)
  have hlt : r.1.toNat < l.length := by omega
  rw [List.getElem?_eq_getElem hlt]
  exact Ok.bind (Ok.some rfl) (fun a ha => by subst ha; exact Ok.some ⟨List.getElem_mem hlt, h3⟩)

def ofL (l : List UInt8) : ByteArray := ⟨l.toArray⟩

theorem bl_ofL (l : List UInt8) : bl (ofL l) = l := by simp [bl, ofL]

theorem ofL_bl (s : ByteArray) : ofL (bl s) = s := bl_inj.1 (bl_ofL _)

/-- The lines. -/
def splA : List UInt8 → List UInt8 → List (List UInt8)
  | acc, [] => [acc]
  | acc, c :: l => if c = 10 then acc :: splA [] l else splA (acc ++ [c]) l

theorem spl_no : ∀ (p acc r : List UInt8), (10 : UInt8) ∉ p → splA acc (p ++ r) = splA (acc ++ p) r
  | [], acc, r, _ => by simp
  | c :: p, acc, r, h => by
    have hc : c ≠ 10 := fun e => h (by simp [e])
    simp only [List.cons_append, splA]
    rw [if_neg hc, spl_no p _ r (fun e => h (by simp [e])), List.append_assoc]; rfl

theorem spl_hit {p r : List UInt8} (h : (10 : UInt8) ∉ p) : splA [] (p ++ 10 :: r) = p :: splA [] r := by
  rw [spl_no p [] _ h]; simp [splA]

theorem spl_end {p : List UInt8} (h : (10 : UInt8) ∉ p) : splA [] p = [p] := by
  have := spl_no p [] [] h
  simp only [List.append_nil, List.nil_append] at this
  rw [this]; rfl

theorem spl_len : ∀ (l acc : List UInt8), (splA acc l).length = l.count 10 + 1
  | [], acc => by simp [splA]
  | c :: l, acc => by
    simp only [splA]
    by_cases h : c = 10
    · subst h; rw [if_pos rfl, List.length_cons, spl_len l [], List.count_cons_self]
    · rw [if_neg h, spl_len l _, List.count_cons_of_ne h]

theorem spl_head : ∀ (l acc : List UInt8), ∃ h t, splA acc l = h :: t ∧ acc.length ≤ h.length
  | [], acc => ⟨acc, [], rfl, Nat.le_refl _⟩
  | c :: l, acc => by
    simp only [splA]
    by_cases h : c = 10
    · rw [if_pos h]; exact ⟨acc, _, rfl, Nat.le_refl _⟩
    · rw [if_neg h]
      obtain ⟨a, t, h1, h2⟩ := spl_head l (acc ++ [c])
      exact ⟨a, t, h1, by simp at h2; omega⟩

theorem spl_mem : ∀ (l acc : List UInt8), ∀ q ∈ splA acc l, q.length ≤ acc.length + l.length
  | [], acc, q, h => by simp [splA] at h; subst h; simp
  | c :: l, acc, q, h => by
    simp only [splA] at h
    by_cases hc : c = 10
    · rw [if_pos hc] at h
      rcases List.mem_cons.1 h with rfl | h
      · simp
      · have := spl_mem l [] q h; simp at this ⊢; omega
    · rw [if_neg hc] at h
      have := spl_mem l _ q h; simp at this ⊢; omega

/-- The lengths of lines with their ends. -/
def stL (q : List (List UInt8)) : Nat := (q.map fun l => l.length + 1).sum

theorem lixG_none {l : List UInt8} {c : UInt8} (h : c ∉ l) : lixG l c = -1 := by
  rcases lixG_spec c l with ⟨h1, _⟩ | ⟨i, _, h2, _⟩
  · exact h1
  · exact absurd (List.mem_of_getElem? h2) h

theorem lixG_ge (l : List UInt8) (c : UInt8) : -1 ≤ lixG l c ∧ lixG l c < (l.length : Int) := by
  rcases lixG_spec c l with ⟨h1, _⟩ | ⟨i, h1, h2, _⟩
  · omega
  · have := (List.getElem?_eq_some_iff.1 h2).1; omega

theorem lixG_app (c x : UInt8) : ∀ l : List UInt8, lixG (l ++ [x]) c = if x = c then (l.length : Int) else lixG l c
  | [] => by
    simp only [List.nil_append, lixG]
    by_cases h : x = c
    · subst h; simp
    · simp [h]
  | b :: l => by
    have ih := lixG_app c x l
    have hg := lixG_ge l c
    simp only [List.cons_append, lixG]
    by_cases h : x = c
    · rw [if_pos h] at ih ⊢
      rw [ih, show (((l.length : Nat) : Int) == -1) = false by rw [beq_eq_false_iff_ne]; omega, if_neg (by simp)]; simp
    · rw [if_neg h] at ih ⊢
      rw [ih]

/-- What lies ahead of a place, line by line. -/
theorem spl_at : ∀ (b r acc : List UInt8), ∃ X q, splA acc (b ++ r) = X ++ splA q r ∧ X.length = b.count 10 ∧ stL X + q.length = acc.length + b.length ∧ (if (10 : UInt8) ∈ b then (q.length : Int) = (b.length : Int) - 1 - lixG b 10 else q.length = acc.length + b.length)
  | [], r, acc => ⟨[], acc, rfl, rfl, by simp [stL], by simp⟩
  | c :: b, r, acc => by
    by_cases hc : c = 10
    · subst hc
      obtain ⟨X, q, h1, h2, h3, h4⟩ := spl_at b r []
      refine ⟨acc :: X, q, ?_, ?_, ?_, ?_⟩
      · simp only [List.cons_append, splA]; rw [if_pos trivial, h1]
      · rw [List.length_cons, h2, List.count_cons_self]
      · simp only [stL, List.map_cons, List.sum_cons, List.length_cons, List.length_nil] at h3 ⊢; omega
      · rw [if_pos (by simp)]
        simp only [List.length_cons, lixG]
        by_cases hm : (10 : UInt8) ∈ b
        · rw [if_pos hm] at h4
          have hx : (lixG b 10 == -1) = false := by
            rcases lixG_spec 10 b with ⟨_, g⟩ | ⟨i, g, _⟩
            · exact absurd hm g
            · rw [g, beq_eq_false_iff_ne]; omega
          rw [hx, if_neg (by simp)]; omega
        · rw [if_neg hm] at h4
          rw [lixG_none hm, show ((-1 : Int) == -1) = true from rfl, if_pos rfl, if_pos (by simp), h4]; simp
    · obtain ⟨X, q, h1, h2, h3, h4⟩ := spl_at b r (acc ++ [c])
      refine ⟨X, q, ?_, ?_, ?_, ?_⟩
      · simp only [List.cons_append, splA]; rw [if_neg hc]; exact h1
      · rw [h2, List.count_cons_of_ne hc]
      · simp only [List.length_append, List.length_cons, List.length_nil] at h3 ⊢; omega
      · by_cases hm : (10 : UInt8) ∈ b
        · rw [if_pos hm] at h4
          rw [if_pos (by simp [hm])]
          have hx : (lixG b 10 == -1) = false := by
            rcases lixG_spec 10 b with ⟨_, g⟩ | ⟨i, g, _⟩
            · exact absurd hm g
            · rw [g, beq_eq_false_iff_ne]; omega
          simp only [List.length_cons, lixG]
          rw [hx, if_neg (by simp)]; omega
        · rw [if_neg hm] at h4
          rw [if_neg (by simp [hm]; exact fun e => hc e.symm)]
          simp only [List.length_append, List.length_cons, List.length_nil] at h4 ⊢; omega

theorem strV_one {g : List UInt8 → UInt8 → Int} {s : ByteArray} {c : UInt8} : strV g s ⟨#[c]⟩ = some (g (bl s) c) := rfl

theorem idx_in : ∀ (l : List UInt8) (c : UInt8), (c ∉ l → idxG l c = -1) ∧ (c ∈ l → ∃ k : Nat, idxG l c = (k : Int) ∧ k < l.length ∧ l[k]? = some c ∧ c ∉ l.take k)
  | [], c => ⟨fun _ => rfl, fun h => by simp at h⟩
  | b :: l, c => by
    obtain ⟨h1, h2⟩ := idx_in l c
    unfold idxG
    by_cases hb : b = c
    · subst hb
      exact ⟨fun h => by simp at h, fun _ => ⟨0, by simp, by simp, rfl, by simp⟩⟩
    · have hb' : (b == c) = false := by simpa using hb
      rw [hb']
      refine ⟨fun h => ?_, fun h => ?_⟩
      · rw [h1 (fun hm => h (by simp [hm]))]; rfl
      · have hm : c ∈ l := by
          rcases List.mem_cons.1 h with rfl | hm
          · exact absurd rfl hb
          · exact hm
        obtain ⟨k, k1, k2, k3, k4⟩ := h2 hm
        have hne : ((k : Int) == -1) = false := by rw [beq_eq_false_iff_ne]; omega
        rw [k1, hne]
        refine ⟨k + 1, by simp, by simpa using k2, by simpa using k3, ?_⟩
        rw [List.take_succ_cons]
        intro e
        rcases List.mem_cons.1 e with e | e
        · exact hb e.symm
        · exact k4 e

theorem set_take {α : Type} {l : List α} {k : Nat} {x : α} (h : k < l.length) : (l.set k x).take (k + 1) = l.take k ++ [x] := by
  apply List.ext_getElem?; intro i
  rw [List.getElem?_take]
  by_cases h1 : i < k + 1
  · rw [if_pos h1]
    by_cases h2 : i = k
    · subst h2
      rw [List.getElem?_set_self h, List.getElem?_append_right (by simp; omega), List.length_take, Nat.min_eq_left (Nat.le_of_lt h), Nat.sub_self]; rfl
    · rw [List.getElem?_set_ne (fun e => h2 e.symm), List.getElem?_append_left (by simp; omega), List.getElem?_take_of_lt (by omega)]
  · rw [if_neg h1, List.getElem?_eq_none (by simp; omega)]

def lnsV (s : ByteArray) : List ByteArray := (splA [] (bl s)).map ofL

theorem lns_of {r : List ByteArray} {s : ByteArray} (h : r.map bl = splA [] (bl s)) : r = lnsV s := by
  unfold lnsV
  rw [← h, List.map_map]
  have : (ofL ∘ bl) = (id : ByteArray → ByteArray) := by funext x; exact ofL_bl x
  rw [this, List.map_id]

theorem lns_len (s : ByteArray) : (lnsV s).length = (bl s).count 10 + 1 := by unfold lnsV; rw [List.length_map, spl_len]

theorem lns_get {s : ByteArray} {i : Nat} {x : ByteArray} (h : (lnsV s)[i]? = some x) : x.size ≤ s.size := by
  unfold lnsV at h
  rw [List.getElem?_map] at h
  cases hq : (splA [] (bl s))[i]? with
  | none => rw [hq] at h; simp at h
  | some q =>
    rw [hq] at h
    simp at h; subst h
    have := spl_mem (bl s) [] q (List.mem_of_getElem? hq)
    rw [bl_len, bl_len, bl_ofL]; simpa using this

theorem q_genSplit {d : Nat} {s : ByteArray} (hs : (bl s).length ≤ 3000000) : g140 (d + 2) s ⟨#[10]⟩ 0 (-1) = some (lnsV s) := by
  have e10 : ((⟨#[10]⟩ : ByteArray).toList == (⟨#[]⟩ : ByteArray).toList) = false := by rw [bl_eq]; rfl
  have hcl : (bl s).count 10 ≤ (bl s).length := List.count_le_length
  rw [e140, show (((-1 : Int)) == 0) = false from rfl, oif_f, e10, oif_f, show decide ((-1 : Int) < 0) = true from rfl, oif_t, e122, strV_one, ob_s]
  have ec : cntG (bl s) 10 = (((bl s).count 10 : Nat) : Int) := rfl
  rw [ec]
  generalize hC : (bl s).count 10 = C at hcl
  rw [wr (n := (C : Int) + 1) (by omega) (by omega)]
  unfold j140_1
  rw [bl_len, wr (n := (((bl s).length : Nat) : Int) + 1) (by omega) (by omega), if_neg (by omega)]
  have hN : ((C : Int) + 1) = ((C + 1 : Nat) : Int) := by omega
  rw [hN]
  simp only [nn, oif_t, ofNat_toNat]
  have hroom : (Nat.ble (C + 1) (C + 1) && Nat.ble ((C + 1) * 16) roomMax) = true := by
    rw [Bool.and_eq_true, Nat.ble_eq, Nat.ble_eq]; unfold roomMax; omega
  rw [hroom, oif_t]
  refine Ok.val (iter_ok (fun j st => ∃ k : Nat, k + j = C ∧ st.2.1 = (k : Int) ∧ (bl st.1).count 10 = C - k ∧ (bl st.1).length ≤ (bl s).length ∧ (st.2.2.take k).map bl ++ splA [] (bl st.1) = splA [] (bl s) ∧ st.2.2.length = C + 1) ?_ _ C _ (by rw [fuelN_eq]; omega) ⟨0, by omega, rfl, by rw [hC]; omega, Nat.le_refl _, by simp, by simp⟩)
  rintro j ⟨t, n, r⟩ ag ⟨k, hk, e1, e2, e3, e4, e6⟩ hag
  simp only at e1 e2 e3 e4 e6
  subst e1
  simp only [l140_0, l140_0_b]
  rw [bl_len, wr (n := (((bl s).length : Nat) : Int) + 1) (by omega) (by omega)]
  have hcc : (if (((bl s).length : Nat) : Int) + 1 < ((C + 1 : Nat) : Int) then (((bl s).length : Nat) : Int) + 1 else ((C + 1 : Nat) : Int)) = ((C + 1 : Nat) : Int) := if_neg (by omega)
  rw [hcc, wr (n := ((C + 1 : Nat) : Int) - 1) (by omega) (by omega)]
  rcases Nat.lt_or_ge k C with hlt | hge
  · rw [decide_eq_true (by omega), oif_t, e146, strV_one, ob_s]
    have hmem : (10 : UInt8) ∈ bl t := by
      rw [← List.count_pos_iff]; omega
    obtain ⟨m, m1, m2, m3, m4⟩ := (idx_in _ _).2 hmem
    have hdec : bl t = (bl t).take m ++ 10 :: (bl t).drop (m + 1) := by
      have h1 := List.take_append_drop m (bl t)
      have h2 : (bl t).drop m = 10 :: (bl t).drop (m + 1) := by
        rw [List.drop_eq_getElem_cons m2]
        rw [List.getElem?_eq_getElem m2] at m3
        injection m3 with m3; rw [m3]
      rw [h2] at h1; exact h1.symm
    have hsp : splA [] (bl t) = (bl t).take m :: splA [] ((bl t).drop (m + 1)) := by
      conv => lhs; rw [hdec]
      exact spl_hit m4
    have hcnt : (bl t).count 10 = ((bl t).drop (m + 1)).count 10 + 1 := by
      conv => lhs; rw [hdec]
      rw [List.count_append, List.count_cons_self, List.count_eq_zero.2 m4]; omega
    rw [m1, decide_eq_false (by omega), oif_f]
    simp only [Int.add_zero]
    rw [bl_len t, wr (n := (m : Int)) (by omega) (by omega), show ((⟨#[10]⟩ : ByteArray).size : Int) = 1 from rfl, wr1 (by omega)]
    simp only [nn, oif_t, ofNat_toNat]
    rw [slice_t (by omega) (by omega), blt_of (by omega), oif_t, List.getElem?_eq_getElem (show k < r.length by omega), ob_s, slice_t (by omega) (by omega), wr1 (by omega)]
    have b1 : bl (t.extract (m + 1) (bl t).length) = (bl t).drop (m + 1) := by
      rw [bl_ext, List.take_of_length_le (by simp)]
    have b2 : bl (t.extract 0 m) = (bl t).take m := by rw [bl_ext]; simp
    refine hag (j - 1) _ (by omega) ⟨k + 1, by omega, rfl, ?_, ?_, ?_, by simp only [List.length_set]; exact e6⟩
    · simp only; rw [b1]; omega
    · simp only; rw [b1]; simp; omega
    · simp only
      rw [set_take (by omega), List.map_append, List.append_assoc, b1]
      simp only [List.map_cons, List.map_nil]
      rw [b2]
      show _ ++ ((bl t).take m :: splA [] ((bl t).drop (m + 1))) = _
      rw [← hsp]; exact e4
  · have : k = C := by omega
    subst this
    rw [decide_eq_false (by omega), oif_f]
    unfold j140_0
    simp only [nn, oif_t, ofNat_toNat]
    rw [blt_of (by omega), oif_t, List.getElem?_eq_getElem (show k < r.length by omega), ob_s, wr1 (by omega)]
    simp only [nn, oif_t, ofNat_toNat, List.length_set]
    rw [ble_t (by omega), oif_t]
    refine Ok.some (lns_of ?_)
    have hno : (10 : UInt8) ∉ bl t := by rw [← List.count_eq_zero]; omega
    rw [set_take (by omega), List.map_append, ← e4, spl_end hno]; rfl

theorem q_l1Split {d : Nat} {s : ByteArray} (hs : (bl s).length ≤ 3000000) : g86 (d + 1) s 10 = some (lnsV s) := by
  rw [e86]
  refine Ok.val (iter_ok (fun j st => ∃ (i k : Nat), i + j = (bl s).length ∧ st.2.2 = (i : Int) ∧ st.2.1 = (k : Int) ∧ k ≤ i ∧ st.1.length ≤ i ∧ st.1.map bl ++ splA (((bl s).take i).drop k) ((bl s).drop i) = splA [] (bl s)) ?_ _ (bl s).length _ (by rw [fuelN_eq]; omega) ⟨0, 0, by omega, rfl, rfl, by omega, by simp, by simp⟩)
  rintro j ⟨l, a, b⟩ ag ⟨i, k, hi, e1, e2, e3, e4, e5⟩ hag
  simp only at e1 e2 e4 e5
  subst e1 e2
  simp only [l86_0, l86_0_b]
  rw [bl_len]
  rcases Nat.lt_or_ge i (bl s).length with hlt | hge
  · have hx := List.getElem?_eq_getElem hlt
    rw [decide_eq_true (by omega), oif_t, nn, oif_t, ofNat_toNat, bl_def, hx, ob_s]
    have hdr : (bl s).drop i = (bl s)[i] :: (bl s).drop (i + 1) := List.drop_eq_getElem_cons hlt
    have htk : (bl s).take (i + 1) = (bl s).take i ++ [(bl s)[i]] := by rw [List.take_succ, hx]; rfl
    rw [hdr] at e5
    simp only [splA] at e5
    by_cases h10 : (bl s)[i] = 10
    · rw [show ((((bl s)[i]).toNat : Int) == 10) = true by rw [h10]; rfl, oif_t]
      rw [if_pos h10] at e5
      simp only [nn, oif_t, ofNat_toNat]
      rw [slice_t e3 (by omega), room (by simp; omega), oif_t, wr1 (by omega)]
      refine hag (j - 1) _ (by omega) ⟨i + 1, i + 1, by omega, rfl, rfl, by omega, by simp; omega, ?_⟩
      simp only [List.map_append, List.map_cons, List.map_nil, List.append_assoc]
      have b1 : bl (s.extract k i) = ((bl s).take i).drop k := by rw [bl_ext, List.drop_take]
      have b2 : ((bl s).take (i + 1)).drop (i + 1) = [] := List.drop_of_length_le (by simp; omega)
      rw [b1, b2]; exact e5
    · have hne : ((((bl s)[i]).toNat : Int) == 10) = false := by
        rw [beq_eq_false_iff_ne]
        intro e
        exact h10 (UInt8.toNat_inj.1 (by have : ((bl s)[i]).toNat = 10 := by omega
                                         rw [this]; rfl))
      rw [hne, oif_f, wr1 (by omega)]
      rw [if_neg h10] at e5
      refine hag (j - 1) _ (by omega) ⟨i + 1, k, by omega, rfl, rfl, by omega, by simp only; omega, ?_⟩
      simp only
      rw [htk, List.drop_append_of_le_length (by simp; omega)]; exact e5
  · have : i = (bl s).length := by omega
    subst this
    rw [ltn, oif_f]
    unfold j86_0
    rw [nn, oif_t, ofNat_toNat, bl_len, slice_t e3 (Nat.le_refl _), room (by simp; omega), oif_t]
    refine Ok.some (lns_of ?_)
    rw [List.drop_length, List.take_length] at e5
    simp only [splA] at e5
    rw [List.map_append, ← e5]
    simp only [List.map_cons, List.map_nil]
    rw [bl_ext, List.take_of_length_le (by simp)]

/-- The line and the column. -/
def loV (s : ByteArray) (n : Nat) : Int × Int := ((((bl s).take n).count 10 : Nat) + 1, (n : Int) - lixG ((bl s).take n) 10)

theorem q_lineOf {d : Nat} {s : ByteArray} {n : Nat} (hn : n ≤ (bl s).length) (hs : (bl s).length ≤ 3000000) : g76 (d + 2) s (n : Int) = some (loV s n) := by
  have hcl : ((bl s).take n).count 10 ≤ n := Nat.le_trans List.count_le_length (by simp; omega)
  have hg := lixG_ge ((bl s).take n) 10
  have hb : bl (s.extract 0 n) = (bl s).take n := by rw [bl_ext]; simp
  have hsz : (s.extract 0 n).size ≤ 1000000000000 := by rw [bl_len, hb]; simp; omega
  rw [e76, nn, oif_t, ofNat_toNat, bl_len, slice_t (by omega) hn, e122, strV_one, ob_s, e123]
  unfold lixV
  rw [ble_t hsz, oif_t, strV_one, ob_s, hb]
  have ec : cntG ((bl s).take n) 10 = ((((bl s).take n).count 10 : Nat) : Int) := rfl
  simp only [List.length_take] at hg
  rw [ec, wr (by omega) (by omega), wr (by omega) (by omega)]; rfl

theorem q_erLine {d : Nat} {s : ByteArray} {n : Nat} (hn : n ≤ (bl s).length) (hs : (bl s).length ≤ 3000000) : g78 (d + 1) s (n : Int) = some (loV s n) := by
  rw [e78]
  refine Ok.val (iter_ok (fun j st => ∃ i : Nat, i + j = n ∧ st.2.2 = (i : Int) ∧ (st.1, st.2.1) = loV s i) ?_ _ n _ (by rw [fuelN_eq]; omega) ⟨0, by omega, rfl, by simp [loV, lixG]⟩)
  rintro j ⟨a, b, c⟩ ag ⟨i, hi, e1, e2⟩ hag
  simp only at e1 e2
  subst e1
  simp only [loV, Prod.mk.injEq] at e2
  obtain ⟨e2, e3⟩ := e2
  have hcl : ((bl s).take i).count 10 ≤ i := Nat.le_trans List.count_le_length (by simp; omega)
  have hg := lixG_ge ((bl s).take i) 10
  simp only [List.length_take] at hg
  simp only [l78_0, l78_0_b]
  rcases Nat.lt_or_ge i n with hlt | hge
  · have hil : i < (bl s).length := by omega
    have hx := List.getElem?_eq_getElem hil
    have htk : (bl s).take (i + 1) = (bl s).take i ++ [(bl s)[i]] := by rw [List.take_succ, hx]; rfl
    have hl := lixG_app 10 (bl s)[i] ((bl s).take i)
    have hc : ((bl s).take i ++ [(bl s)[i]]).count 10 = ((bl s).take i).count 10 + (if (bl s)[i] = 10 then 1 else 0) := by
      rw [List.count_append, List.count_singleton]
      by_cases h : (bl s)[i] = 10
      · rw [if_pos h, h]; rfl
      · rw [if_neg h, if_neg (by simpa using h)]
    rw [decide_eq_true (by omega), oif_t, nn, oif_t, ofNat_toNat, bl_def, hx, ob_s]
    by_cases h10 : (bl s)[i] = 10
    · rw [show ((((bl s)[i]).toNat : Int) == 10) = true by rw [h10]; rfl, oif_t, wr (by omega) (by omega), wr1 (by omega)]
      refine hag (j - 1) _ (by omega) ⟨i + 1, by omega, rfl, ?_⟩
      simp only [loV, Prod.mk.injEq]
      rw [htk, hc, hl, if_pos h10, if_pos h10]
      simp only [List.length_take]
      omega
    · have hne : ((((bl s)[i]).toNat : Int) == 10) = false := by
        rw [beq_eq_false_iff_ne]
        intro e
        exact h10 (UInt8.toNat_inj.1 (by have : ((bl s)[i]).toNat = 10 := by omega
                                         rw [this]; rfl))
      rw [hne, oif_f, wr (by omega) (by omega), wr1 (by omega)]
      refine hag (j - 1) _ (by omega) ⟨i + 1, by omega, rfl, ?_⟩
      simp only [loV, Prod.mk.injEq]
      rw [htk, hc, hl, if_neg h10, if_neg h10]
      omega
  · have : i = n := by omega
    subst this
    rw [ltn, oif_f]
    unfold j78_0
    exact Ok.some (by simp only [loV, Prod.mk.injEq]; exact ⟨e2, e3⟩)

def lofV (s : ByteArray) (n : Int) : Int × Int × Bool := if s.size ≤ 6000 ∧ 0 ≤ n ∧ n ≤ (s.size : Int) then ((loV s n.toNat).1, (loV s n.toNat).2, true) else (0, 0, false)

theorem q_LineOf {d : Nat} {s : ByteArray} {n : Int} : g27 (d + 3) s n = some (lofV s n) := by
  rw [e27]
  unfold lofV
  by_cases h1 : s.size ≤ 6000
  · rw [decide_eq_false (show ¬ (s.size : Int) > 6000 by omega), oif_f]
    by_cases h2 : n < 0
    · rw [decide_eq_true h2, oif_t, if_neg (by omega)]
    · rw [decide_eq_false h2, oif_f]
      by_cases h3 : n > (s.size : Int)
      · rw [decide_eq_true h3, oif_t, if_neg (by omega)]
      · obtain ⟨m, rfl⟩ := Int.eq_ofNat_of_zero_le (show 0 ≤ n by omega)
        have hb := bl_len s
        rw [decide_eq_false h3, oif_f, q_lineOf (by omega) (by omega), ob_s, if_pos (by omega), Int.toNat_natCast]
  · rw [decide_eq_true (show (s.size : Int) > 6000 by omega), oif_t, if_neg (by omega)]

theorem q_erText {d : Nat} {s : ByteArray} : g77 (d + 1) s = some (decide (s.size ≤ 6000)) := by
  rw [e77]; congr 1; rw [Bool.eq_iff_iff]; simp; omega

theorem q_sLineOf {d : Nat} {s : ByteArray} {n : Int} : g28 (d + 3) s n = some (lofV s n) := by
  rw [e28, q_erText, ob_s]
  unfold lofV
  by_cases h1 : s.size ≤ 6000
  · rw [decide_eq_true h1, Bool.not_true, oif_f, q_l1In, ob_s]
    by_cases h2 : 0 ≤ n ∧ n ≤ (s.size : Int)
    · obtain ⟨m, rfl⟩ := Int.eq_ofNat_of_zero_le h2.1
      have hb := bl_len s
      rw [decide_eq_true h2, Bool.not_true, oif_f, q_erLine (by omega) (by omega), ob_s, if_pos ⟨h1, h2⟩, Int.toNat_natCast]
    · rw [decide_eq_false h2, if_neg (fun h => h2 h.2)]; rfl
  · rw [decide_eq_false h1, if_neg (fun h => h1 h.1)]; rfl

/-- The start of a line. -/
def stB (q : List ByteArray) : Nat := (q.map fun l => l.size + 1).sum

theorem stB_take {q : List ByteArray} {i : Nat} {x : ByteArray} (h : q[i]? = some x) : stB (q.take (i + 1)) = stB (q.take i) + (x.size + 1) := by
  unfold stB
  rw [List.take_succ, h, List.map_append, List.sum_append]; simp

theorem stB_L (X : List (List UInt8)) : stB (X.map ofL) = stL X := by
  unfold stB stL
  rw [List.map_map]
  congr 1

theorem stB_bound (s : ByteArray) : ∀ i, i ≤ (lnsV s).length → stB ((lnsV s).take i) ≤ i * (s.size + 1)
  | 0, _ => by simp [stB]
  | i + 1, h => by
    have hx := List.getElem?_eq_getElem (show i < (lnsV s).length by omega)
    rw [stB_take hx]
    have h1 := stB_bound s i (by omega)
    have h2 := lns_get hx
    rw [Nat.succ_mul]; omega

theorem st_loop_i {d : Nat} {s : ByteArray} {m : Nat} (hs : s.size ≤ 6000) (hm : m < (lnsV s).length) {kx : Int → Option (Int × ByteArray × Bool)} : iterP (l79_0 d ((m + 1 : Nat) : Int) (lnsV s) kx) fuelN (0, 0) = kx ((stB ((lnsV s).take m) : Nat) : Int) := by
  have hL := lns_len s
  have hb := bl_len s
  have hcl : (bl s).count 10 ≤ (bl s).length := List.count_le_length
  refine (iter_eq (fun _ => kx ((stB ((lnsV s).take m) : Nat) : Int)) (fun st => (m - st.2.toNat)) (fun st => ∃ i : Nat, i ≤ m ∧ st.2 = (i : Int) ∧ st.1 = ((stB ((lnsV s).take i) : Nat) : Int)) ?_ fuelN (0, 0) ⟨0, by omega, rfl, by simp [stB]⟩ (by rw [fuelN_eq]; simp; omega))
  rintro ⟨a, b⟩ ag ⟨i, hi, e1, e2⟩ hag
  simp only at e1 e2
  subst e1 e2
  have e0 : ((m + 1 : Nat) : Int) - 1 = (m : Int) := by omega
  simp only [l79_0, l79_0_b]
  rw [wr (n := ((m + 1 : Nat) : Int) - 1) (by omega) (by omega), e0, ofNat_toNat]
  rcases Nat.lt_or_ge i m with hlt | hge
  · have hx := List.getElem?_eq_getElem (show i < (lnsV s).length by omega)
    have h1 := stB_bound s i (by omega)
    have h2 := lns_get hx
    have h3 : i * (s.size + 1) ≤ 6001 * 6001 := Nat.mul_le_mul (by omega) (by omega)
    rw [decide_eq_true (by omega), oif_t, nn, oif_t, ofNat_toNat, blt_of hlt, oif_t, hx, ob_s, wr1 (by omega), wr (by omega) (by omega), wr1 (by omega)]
    refine hag _ ⟨i + 1, by omega, rfl, ?_⟩ (by simp; omega)
    rw [stB_take hx]; simp only; omega
  · have : i = m := by omega
    subst this
    rw [ltn, oif_f]

theorem st_loop_s {d : Nat} {s : ByteArray} {m : Nat} (hs : s.size ≤ 6000) (hm : m < (lnsV s).length) {kx : Int → Option Int} : iterP (l87_0 d ((m + 1 : Nat) : Int) (lnsV s) kx) fuelN (0, 0) = kx ((stB ((lnsV s).take m) : Nat) : Int) := by
  have hL := lns_len s
  have hb := bl_len s
  have hcl : (bl s).count 10 ≤ (bl s).length := List.count_le_length
  refine (iter_eq (fun _ => kx ((stB ((lnsV s).take m) : Nat) : Int)) (fun st => (m - st.2.toNat)) (fun st => ∃ i : Nat, i ≤ m ∧ st.2 = (i : Int) ∧ st.1 = ((stB ((lnsV s).take i) : Nat) : Int)) ?_ fuelN (0, 0) ⟨0, by omega, rfl, by simp [stB]⟩ (by rw [fuelN_eq]; simp; omega))
  rintro ⟨a, b⟩ ag ⟨i, hi, e1, e2⟩ hag
  simp only at e1 e2
  subst e1 e2
  have e0 : ((m + 1 : Nat) : Int) - 1 = (m : Int) := by omega
  simp only [l87_0, l87_0_b]
  rw [wr (n := ((m + 1 : Nat) : Int) - 1) (by omega) (by omega), e0, ofNat_toNat]
  rcases Nat.lt_or_ge i m with hlt | hge
  · have hx := List.getElem?_eq_getElem (show i < (lnsV s).length by omega)
    have h1 := stB_bound s i (by omega)
    have h2 := lns_get hx
    have h3 : i * (s.size + 1) ≤ 6001 * 6001 := Nat.mul_le_mul (by omega) (by omega)
    rw [decide_eq_true (by omega), oif_t, nn, oif_t, ofNat_toNat, blt_of hlt, oif_t, hx, ob_s, wr1 (by omega), wr (by omega) (by omega), wr1 (by omega)]
    refine hag _ ⟨i + 1, by omega, rfl, ?_⟩ (by simp; omega)
    rw [stB_take hx]; simp only; omega
  · have : i = m := by omega
    subst this
    rw [ltn, oif_f]

def lnAt (s : ByteArray) (m : Nat) : ByteArray := (lnsV s).getD m ⟨#[]⟩

theorem lnAt_get {s : ByteArray} {m : Nat} (h : m < (lnsV s).length) : (lnsV s)[m]? = some (lnAt s m) := by unfold lnAt; simp [List.getD, List.getElem?_eq_getElem h]

def lOk (s : ByteArray) (n : Int) : Bool := decide (1 ≤ n ∧ n ≤ (((lnsV s).length : Nat) : Int))

def lsV (s : ByteArray) (n : Int) : Int × ByteArray × Bool := if lOk s n = true then (((stB ((lnsV s).take (n.toNat - 1)) : Nat) : Int), lnAt s (n.toNat - 1), true) else (0, ⟨#[]⟩, false)

theorem q_lineStart {d : Nat} {s : ByteArray} {n : Int} (hs : s.size ≤ 6000) : g79 (d + 4) s n = some (lsV s n) := by
  have hb := bl_len s
  rw [e79, e111, q_genSplit (by omega), ob_s, ob_s]
  unfold lsV lOk j79_1
  by_cases h1 : n < 1
  · rw [decide_eq_true h1, oif_t, oif_t, decide_eq_false (by omega)]; rfl
  · rw [decide_eq_false h1, oif_f]
    by_cases h2 : n > (((lnsV s).length : Nat) : Int)
    · rw [decide_eq_true h2, oif_t, decide_eq_false (by omega)]; rfl
    · obtain ⟨m, rfl⟩ : ∃ m : Nat, n = ((m + 1 : Nat) : Int) := ⟨n.toNat - 1, by omega⟩
      have hL := lns_len s
      have hcl : (bl s).count 10 ≤ (bl s).length := List.count_le_length
      have hm : m < (lnsV s).length := by omega
      rw [decide_eq_false h2, oif_f, wr (n := ((m + 1 : Nat) : Int) - 1) (by omega) (by omega), show ((m + 1 : Nat) : Int) - 1 = (m : Int) by omega, nn, oif_t, ofNat_toNat, ble_t (by omega), oif_t, st_loop_i hs hm]
      unfold j79_0
      rw [wr (n := ((m + 1 : Nat) : Int) - 1) (by omega) (by omega), show ((m + 1 : Nat) : Int) - 1 = (m : Int) by omega, nn, oif_t, ofNat_toNat, blt_of hm, oif_t, lnAt_get hm, ob_s, decide_eq_true (by omega), if_pos rfl, Int.toNat_natCast, Nat.add_sub_cancel]

def esV (s : ByteArray) (n : Int) : Int := if lOk s n = true then ((stB ((lnsV s).take (n.toNat - 1)) : Nat) : Int) else -1

theorem q_erStart {d : Nat} {s : ByteArray} {n : Int} (hs : s.size ≤ 6000) : g87 (d + 2) s n = some (esV s n) := by
  have hb := bl_len s
  rw [e87, q_l1Split (by omega), ob_s, q_l1In, ob_s]
  unfold esV lOk
  by_cases h : 1 ≤ n ∧ n ≤ (((lnsV s).length : Nat) : Int)
  · obtain ⟨m, rfl⟩ : ∃ m : Nat, n = ((m + 1 : Nat) : Int) := ⟨n.toNat - 1, by omega⟩
    have hL := lns_len s
    have hcl : (bl s).count 10 ≤ (bl s).length := List.count_le_length
    have hm : m < (lnsV s).length := by omega
    rw [decide_eq_true h, Bool.not_true, oif_f, wr (n := ((m + 1 : Nat) : Int) - 1) (by omega) (by omega), show ((m + 1 : Nat) : Int) - 1 = (m : Int) by omega, nn, oif_t, ofNat_toNat, ble_t (by omega), oif_t, st_loop_s hs hm, if_pos rfl, Int.toNat_natCast, Nat.add_sub_cancel]; rfl
  · rw [decide_eq_false h]; rfl

theorem st_bound {s : ByteArray} {n : Int} (hs : s.size ≤ 6000) (h : lOk s n = true) : stB ((lnsV s).take (n.toNat - 1)) ≤ 36012001 ∧ (lnAt s (n.toNat - 1)).size ≤ 6000 ∧ 1 ≤ n ∧ n ≤ 6001 ∧ n.toNat - 1 < (lnsV s).length := by
  unfold lOk at h
  have h := of_decide_eq_true h
  have hb := bl_len s
  have hL := lns_len s
  have hcl : (bl s).count 10 ≤ (bl s).length := List.count_le_length
  have h1 := stB_bound s (n.toNat - 1) (by omega)
  have h3 : (n.toNat - 1) * (s.size + 1) ≤ 6001 * 6001 := Nat.mul_le_mul (by omega) (by omega)
  have h4 := lns_get (lnAt_get (s := s) (m := n.toNat - 1) (by omega))
  omega

def plV (s : ByteArray) (n c : Int) : Int × Bool := if s.size ≤ 6000 ∧ lOk s n = true ∧ 1 ≤ c ∧ c ≤ ((lnAt s (n.toNat - 1)).size : Int) + 1 then (((stB ((lnsV s).take (n.toNat - 1)) : Nat) : Int) + c - 1, true) else (0, false)

theorem q_PlaceOf {d : Nat} {s : ByteArray} {n c : Int} : g29 (d + 5) s n c = some (plV s n c) := by
  rw [e29]
  unfold plV
  by_cases h1 : s.size ≤ 6000
  · rw [decide_eq_false (show ¬ (s.size : Int) > 6000 by omega), oif_f, q_lineStart h1, ob_s]
    unfold lsV
    cases hl : lOk s n with
    | false => rw [if_neg (by simp), if_neg (by simp)]; rfl
    | true =>
      obtain ⟨b1, b2, b3, b4, _⟩ := st_bound h1 hl
      rw [if_pos rfl]
      simp only [Bool.not_true, oif_f]
      rw [wr (n := ((lnAt s (n.toNat - 1)).size : Int) + 1) (by omega) (by omega)]
      by_cases h2 : c < 1
      · rw [decide_eq_true h2, oif_t, if_neg (by omega)]
      · rw [decide_eq_false h2, oif_f]
        by_cases h3 : c > ((lnAt s (n.toNat - 1)).size : Int) + 1
        · rw [decide_eq_true h3, oif_t, if_neg (by omega)]
        · rw [decide_eq_false h3, oif_f, wr (n := ((stB ((lnsV s).take (n.toNat - 1)) : Nat) : Int) + c) (by omega) (by omega), wr (by omega) (by omega), if_pos ⟨h1, by trivial, by omega, by omega⟩]
  · rw [decide_eq_true (show (s.size : Int) > 6000 by omega), oif_t, if_neg (by omega)]

theorem q_sPlaceOf {d : Nat} {s : ByteArray} {n c : Int} : g35 (d + 3) s n c = some (plV s n c) := by
  rw [e35, q_erText, ob_s]
  unfold plV j35_0
  by_cases h1 : s.size ≤ 6000
  · have hb := bl_len s
    rw [decide_eq_true h1, Bool.not_true, oif_f, q_erStart h1, ob_s]
    unfold esV
    cases hl : lOk s n with
    | false => rw [if_neg (by simp), if_neg (by simp)]; rfl
    | true =>
      obtain ⟨b1, b2, b3, b4, b5⟩ := st_bound h1 hl
      rw [if_pos rfl, decide_eq_false (by omega), oif_f, q_l1Split (by omega), ob_s, wr (n := n - 1) (by omega) (by omega)]
      obtain ⟨m, rfl⟩ : ∃ m : Nat, n = ((m + 1 : Nat) : Int) := ⟨n.toNat - 1, by omega⟩
      rw [Int.toNat_natCast, Nat.add_sub_cancel] at b1 b2 b5 ⊢
      rw [show ((m + 1 : Nat) : Int) - 1 = (m : Int) by omega, nn, oif_t, ofNat_toNat, blt_of b5, oif_t, lnAt_get b5, ob_s, wr (n := ((lnAt s m).size : Int) + 1) (by omega) (by omega), q_l1In, ob_s]
      by_cases h2 : 1 ≤ c ∧ c ≤ ((lnAt s m).size : Int) + 1
      · rw [decide_eq_true h2, Bool.not_true, oif_f, ob_s, wr (n := ((stB ((lnsV s).take m) : Nat) : Int) + c) (by omega) (by omega), wr (by omega) (by omega), if_pos ⟨h1, rfl, h2⟩]
      · rw [decide_eq_false h2, if_neg (fun h => h2 h.2.2)]; rfl
  · rw [decide_eq_false h1, if_neg (fun h => h1 h.1)]; rfl

def ltV (s : ByteArray) (n : Int) : ByteArray × Bool := if s.size ≤ 6000 ∧ lOk s n = true then (lnAt s (n.toNat - 1), true) else (⟨#[]⟩, false)

theorem q_LineText {d : Nat} {s : ByteArray} {n : Int} : g30 (d + 5) s n = some (ltV s n) := by
  rw [e30]
  unfold ltV
  by_cases h1 : s.size ≤ 6000
  · rw [decide_eq_false (show ¬ (s.size : Int) > 6000 by omega), oif_f, q_lineStart h1, ob_s]
    unfold lsV
    cases hl : lOk s n with
    | false => rw [if_neg (by simp), if_neg (by simp)]
    | true => rw [if_pos rfl, if_pos ⟨h1, rfl⟩]
  · rw [decide_eq_true (show (s.size : Int) > 6000 by omega), oif_t, if_neg (fun h => h1 h.1)]

theorem q_sLineText {d : Nat} {s : ByteArray} {n : Int} : g37 (d + 3) s n = some (ltV s n) := by
  rw [e37, q_erText, ob_s]
  unfold ltV j37_0
  by_cases h1 : s.size ≤ 6000
  · have hb := bl_len s
    rw [decide_eq_true h1, Bool.not_true, oif_f, q_erStart h1, ob_s]
    unfold esV
    cases hl : lOk s n with
    | false => rw [if_neg (by simp), if_neg (by simp)]; rfl
    | true =>
      obtain ⟨b1, b2, b3, b4, b5⟩ := st_bound h1 hl
      rw [if_pos rfl, decide_eq_false (by omega), oif_f, q_l1Split (by omega), ob_s, wr (n := n - 1) (by omega) (by omega)]
      obtain ⟨m, rfl⟩ : ∃ m : Nat, n = ((m + 1 : Nat) : Int) := ⟨n.toNat - 1, by omega⟩
      rw [Int.toNat_natCast, Nat.add_sub_cancel] at b5 ⊢
      rw [show ((m + 1 : Nat) : Int) - 1 = (m : Int) by omega, nn, oif_t, ofNat_toNat, blt_of b5, oif_t, lnAt_get b5, ob_s, if_pos ⟨h1, rfl⟩]
  · rw [decide_eq_false h1, if_neg (fun h => h1 h.1)]; rfl

/-- A place's line and column lead back to it. -/
theorem back {s : ByteArray} {n : Nat} (hs : s.size ≤ 6000) (hn : n ≤ s.size) : lOk s (loV s n).1 = true ∧ 1 ≤ (loV s n).2 ∧ (loV s n).2 ≤ 6001 ∧ (loV s n).2 ≤ ((lnAt s ((loV s n).1.toNat - 1)).size : Int) + 1 ∧ ((stB ((lnsV s).take ((loV s n).1.toNat - 1)) : Nat) : Int) + (loV s n).2 - 1 = (n : Int) := by
  have hb := bl_len s
  obtain ⟨X, q, h1, h2, h3, h4⟩ := spl_at ((bl s).take n) ((bl s).drop n) []
  rw [List.take_append_drop] at h1
  have hlen : ((bl s).take n).length = n := by simp; omega
  rw [hlen] at h3 h4
  have hq : (q.length : Int) = (n : Int) - 1 - lixG ((bl s).take n) 10 := by
    by_cases hm : (10 : UInt8) ∈ (bl s).take n
    · rw [if_pos hm] at h4; exact h4
    · rw [if_neg hm] at h4; rw [lixG_none hm, h4]; simp
  obtain ⟨a, t, g1, g2⟩ := spl_head ((bl s).drop n) q
  have hL : lnsV s = X.map ofL ++ ofL a :: t.map ofL := by
    unfold lnsV; rw [h1, g1, List.map_append]; rfl
  have e1 : (loV s n).1 = (X.length : Int) + 1 := by simp only [loV]; rw [h2]
  have e2 : (loV s n).2 = (q.length : Int) + 1 := by simp only [loV]; omega
  have ht : (loV s n).1.toNat - 1 = X.length := by rw [e1]; omega
  have hat : lnAt s X.length = ofL a := by
    unfold lnAt; rw [hL]
    simp [List.getD]
  have htk : (lnsV s).take X.length = X.map ofL := by
    rw [hL, List.take_left' (by simp)]
  simp only [List.length_nil, Nat.zero_add] at h3
  rw [ht, hat, htk, stB_L, e1, e2]
  have ha : (ofL a).size = a.length := by rw [bl_len, bl_ofL]
  refine ⟨?_, by omega, by omega, by rw [ha]; omega, by omega⟩
  unfold lOk
  rw [hL]
  exact decide_eq_true (by simp; omega)

/-- Faults and marks. -/
def fgV (f : Int × Int) : Bool := decide (1 ≤ f.1 ∧ f.1 ≤ 7) && decide (0 ≤ f.2 ∧ f.2 ≤ 6000)

theorem q_erGood {d : Nat} {f : Int × Int} : g81 (d + 2) f = some (fgV f) := by
  rw [e81, q_l1In, ob_s]
  unfold fgV
  cases decide (1 ≤ f.1 ∧ f.1 ≤ 7) with
  | false => rfl
  | true => rw [oif_t, q_l1In, ob_s]; rfl

theorem q_IsFault {d : Nat} {f : Int × Int} : g84 (d + 1) f = some (fgV f) := by
  rw [e84]
  simp only [oif_ss]
  congr 1
  unfold fgV
  rw [Bool.eq_iff_iff]
  by_cases h1 : f.1 ≥ 1 <;> by_cases h2 : f.1 ≤ 7 <;> by_cases h3 : f.2 ≥ 0 <;> simp [h1, h2, h3] <;> omega

def mkL (s : ByteArray) (n : Nat) : List UInt8 := bl (lnAt s ((loV s n).1.toNat - 1)) ++ (10 :: (List.replicate ((loV s n).2.toNat - 1) 32 ++ [94, 10]))

def mkV (s : ByteArray) (f : Int × Int) : ByteArray × Bool := if fgV f = true ∧ s.size ≤ 6000 ∧ f.2 ≤ (s.size : Int) then (ofL (mkL s f.2.toNat), true) else (⟨#[]⟩, false)

theorem rep_sp : ∀ k : Nat, Go.Lib.repeatL [32] k = List.replicate k 32
  | 0 => rfl
  | k + 1 => by simp only [Go.Lib.repeatL]; rw [rep_sp k]; rfl

theorem q_MarkedLine {d : Nat} {s : ByteArray} {f : Int × Int} : g32 (d + 5) s f = some (mkV s f) := by
  rw [e32, q_IsFault, ob_s]
  unfold mkV j32_0
  cases hf : fgV f with
  | false => rw [if_neg (by simp)]; rfl
  | true =>
    rw [Bool.not_true, oif_f]
    by_cases h1 : s.size ≤ 6000
    · rw [decide_eq_false (show ¬ (s.size : Int) > 6000 by omega), oif_f]
      by_cases h2 : f.2 > (s.size : Int)
      · rw [decide_eq_true h2, oif_t, if_neg (by omega)]
      · have hb := bl_len s
        unfold fgV at hf
        simp only [Bool.and_eq_true, decide_eq_true_eq] at hf
        obtain ⟨n, hn⟩ := Int.eq_ofNat_of_zero_le hf.2.1
        rw [hn] at h2 ⊢
        have hns : n ≤ s.size := by omega
        obtain ⟨k1, k2, k3, k4, k5⟩ := back h1 hns
        obtain ⟨b1, b2, b3, b4, b5⟩ := st_bound h1 k1
        rw [decide_eq_false h2, oif_f, q_lineOf (by omega) (by omega), ob_s, q_lineStart h1, ob_s]
        unfold lsV
        rw [if_pos k1]
        simp only
        have z1 : (⟨#[10]⟩ : ByteArray).size = 1 := rfl
        have z2 : (⟨#[94, 10]⟩ : ByteArray).size = 2 := rfl
        rw [room2 (by omega), e85, wr (n := (loV s n).2 - 1) (by omega) (by omega)]
        unfold repV
        have hz : Nat.ble (⟨#[32]⟩ : ByteArray).size 1000000 = true := rfl
        rw [decide_eq_true (show 0 ≤ (loV s n).2 - 1 by omega), decide_eq_true (show (loV s n).2 - 1 ≤ 1000000 by omega), hz, Bool.and_self, Bool.and_self, oif_t, ob_s]
        have hr : (⟨(Go.Lib.repeatL (⟨#[32]⟩ : ByteArray).data.toList ((loV s n).2 - 1).toNat).toArray⟩ : ByteArray) = ofL (List.replicate ((loV s n).2.toNat - 1) 32) := by
          have e0 : (⟨#[32]⟩ : ByteArray).data.toList = [32] := rfl
          rw [e0, rep_sp, show ((loV s n).2 - 1).toNat = (loV s n).2.toNat - 1 by omega]; rfl
        rw [hr]
        have hsz : (ofL (List.replicate ((loV s n).2.toNat - 1) 32)).size ≤ 6001 := by rw [bl_len, bl_ofL]; simp; omega
        rw [room2 (by rw [ByteArray.size_append]; omega), room2 (by rw [ByteArray.size_append, ByteArray.size_append]; omega), if_pos ⟨by trivial, h1, by omega⟩, Int.toNat_natCast]
        congr 2
        refine bl_inj.1 ?_
        rw [bl_app, bl_app, bl_app, bl_ofL, bl_ofL, bl_lit [10], bl_lit [94, 10]]
        unfold mkL; simp
    · rw [decide_eq_true (show (s.size : Int) > 6000 by omega), if_neg (fun h => h1 h.2.1)]; rfl

theorem mk_loop {d : Nat} {s : ByteArray} {c : Int} (hs : s.size ≤ 100000) (hc : 1 ≤ c) (hc2 : c ≤ 100000) : iterP (l33_0 d (j33_0 d)) fuelN (c, s) = some (ofL (bl s ++ (List.replicate (c.toNat - 1) 32 ++ [94, 10])), true) := by
  refine iter_eq (fun st => some (ofL (bl st.2 ++ (List.replicate (st.1.toNat - 1) 32 ++ [94, 10])), true)) (fun st => st.1.toNat) (fun st => 1 ≤ st.1 ∧ st.1 ≤ 100000 ∧ (st.2.size : Int) + st.1 ≤ 300000) ?_ fuelN (c, s) ⟨hc, hc2, by simp only; omega⟩ (by rw [fuelN_eq]; simp only; omega)
  rintro ⟨x, t⟩ ag ⟨h1, h2, h3⟩ hag
  simp only at h1 h2 h3
  simp only [l33_0, l33_0_b]
  have z1 : (⟨#[32]⟩ : ByteArray).size = 1 := rfl
  have z2 : (⟨#[94, 10]⟩ : ByteArray).size = 2 := rfl
  by_cases hx : x > 1
  · rw [decide_eq_true hx, oif_t, room2 (by omega), wr (by omega) (by omega), hag (x - 1, t ++ ⟨#[32]⟩) ⟨by simp only; omega, by simp only; omega, by simp only [ByteArray.size_append]; omega⟩ (by simp only; omega)]
    simp only
    rw [bl_app, bl_lit [32], show (x - 1).toNat - 1 = x.toNat - 1 - 1 by omega]
    have : x.toNat - 1 = (x.toNat - 1 - 1) + 1 := by omega
    conv => rhs; rw [this, List.replicate_succ]
    simp
  · have : x = 1 := by omega
    subst this
    rw [show decide ((1 : Int) > 1) = false from rfl, oif_f]
    unfold j33_0
    rw [room2 (by omega)]; rfl

theorem q_sMarkedLine {d : Nat} {s : ByteArray} {f : Int × Int} : g33 (d + 3) s f = some (mkV s f) := by
  rw [e33, q_erGood, ob_s]
  unfold mkV j33_1
  cases hf : fgV f with
  | false => rw [if_neg (by simp)]; rfl
  | true =>
    rw [Bool.not_true, oif_f, q_erText, ob_s]
    by_cases h1 : s.size ≤ 6000
    · rw [decide_eq_true h1, Bool.not_true, oif_f]
      by_cases h2 : f.2 > (s.size : Int)
      · rw [decide_eq_true h2, oif_t, if_neg (by omega)]
      · have hb := bl_len s
        unfold fgV at hf
        simp only [Bool.and_eq_true, decide_eq_true_eq] at hf
        obtain ⟨n, hn⟩ := Int.eq_ofNat_of_zero_le hf.2.1
        rw [hn] at h2 ⊢
        have hns : n ≤ s.size := by omega
        obtain ⟨k1, k2, k3, k4, k5⟩ := back h1 hns
        obtain ⟨b1, b2, b3, b4, b5⟩ := st_bound h1 k1
        have z1 : (⟨#[10]⟩ : ByteArray).size = 1 := rfl
        rw [decide_eq_false h2, oif_f, q_erLine (by omega) (by omega), ob_s, q_l1Split (by omega), ob_s, wr (n := (loV s n).1 - 1) (by omega) (by omega), decide_eq_true (show 0 ≤ (loV s n).1 - 1 by omega), oif_t, show ((loV s n).1 - 1).toNat = (loV s n).1.toNat - 1 by omega, blt_of b5, oif_t, lnAt_get b5, ob_s, room2 (by omega), mk_loop (by rw [ByteArray.size_append]; omega) k2 (by omega), if_pos ⟨rfl, h1, by omega⟩, Int.toNat_natCast]
        congr 2
        refine bl_inj.1 ?_
        rw [bl_ofL, bl_ofL, bl_app, bl_lit [10]]
        unfold mkL; simp
    · rw [decide_eq_false h1, if_neg (fun h => h1 h.2.1)]; rfl

/-- The draws. -/
theorem p_page {d m : Nat} {c : List Int × Int × Int} (hc : CurOk m c) (hm : m < 100000) : Ok (g75 (d + 4) c) fun r => r.1.size ≤ 6001 ∧ CurOk (m + 100) r.2 := by
  rw [e75]
  refine Ok.bind (p_pick hc (by omega)) fun r hr => ?_
  obtain ⟨a1, a2, a3⟩ := hr
  have tail : ∀ (s : ByteArray) (c : List Int × Int × Int), s.size ≤ 1000 → CurOk (m + 60) c → Ok (j75_1 (d + 3) s c.1 c.2.1 c.2.2) fun r => r.1.size ≤ 6001 ∧ CurOk (m + 100) r.2 := by
    intro s c hs hc
    unfold j75_1
    refine Ok.bind (p_one hc (by omega)) fun q hq => ?_
    refine Ok.oif (fun _ => ?_) (fun _ => Ok.some ⟨by simp only; omega, hq.mono (by omega)⟩)
    refine Ok.bind (p_pick hq (by omega)) fun u hu => ?_
    obtain ⟨u1, u2, u3⟩ := hu
    refine iter_ok (fun j t => t.size + j = 6001 ∧ ((t.size : Int) < 6000 + u.1 → 1 ≤ j)) ?_ _ (6001 - s.size) _ (by rw [fuelN_eq]; omega) ⟨by omega, fun _ => by omega⟩
    rintro j t ag ⟨h1, h2⟩ hag
    simp only [l75_1, l75_1_b]
    rw [wr (n := (6000 : Int) + u.1) (by omega) (by omega)]
    have z : (⟨#[46]⟩ : ByteArray).size = 1 := rfl
    refine Ok.oif (fun h => ?_) (fun h => ?_)
    · have h := of_decide_eq_true h
      have := h2 h
      rw [room2 (by omega)]
      refine hag (j - 1) _ (by omega) ⟨by rw [ByteArray.size_append]; omega, fun h3 => ?_⟩
      rw [ByteArray.size_append] at h3
      omega
    · unfold j75_0
      exact Ok.some ⟨by simp only; omega, u3.mono (by omega)⟩
  refine iter_ok (fun j st => st.2.1 = (j : Int) ∧ j ≤ 5 ∧ st.1.size + 11 * j ≤ 100 ∧ CurOk (m + 2 + 10 * (5 - j)) st.2.2) ?_ _ r.1.toNat _ (by rw [fuelN_eq]; omega) ⟨by simp only; omega, by omega, by show (⟨#[]⟩ : ByteArray).size + _ ≤ _; have : (⟨#[]⟩ : ByteArray).size = 0 := rfl; omega, a3.mono (by omega)⟩
  rintro j ⟨s, k, x⟩ ag ⟨h1, h2, h3, h4⟩ hag
  simp only at h1 h3 h4
  subst h1
  simp only [l75_0, l75_0_b]
  refine Ok.oif (fun h => ?_) (fun h => ?_)
  · have h := of_decide_eq_true h
    refine Ok.bind (p_of h4 (by omega) (by simp)) fun u hu => ?_
    have hsz : u.1.size ≤ 10 := by
      have := hu.1
      simp only [List.mem_cons, List.not_mem_nil, or_false] at this
      rcases this with e | e | e | e | e <;> (rw [e]; decide)
    have z : (⟨#[10]⟩ : ByteArray).size = 1 := rfl
    rw [room2 (by omega)]
    refine Ok.bind (p_one hu.2 (by omega)) fun v hv => ?_
    refine Ok.oif (fun _ => ?_) (fun _ => ?_)
    · rw [room2 (by rw [ByteArray.size_append]; omega), wr (by omega) (by omega)]
      exact hag (j - 1) _ (by omega) ⟨by simp only; omega, by omega, by simp only [ByteArray.size_append]; omega, hv.mono (by omega)⟩
    · rw [wr (by omega) (by omega)]
      exact hag (j - 1) _ (by omega) ⟨by simp only; omega, by omega, by simp only [ByteArray.size_append]; omega, hv.mono (by omega)⟩
  · exact tail s x (by omega) (h4.mono (by omega))

theorem p_fault {d m : Nat} {c : List Int × Int × Int} (hc : CurOk m c) (hm : m < 1000000) : Ok (g80 (d + 4) c) fun r => CurOk (m + 10) r.2 := by
  rw [e80]
  refine Ok.bind (p_pick hc (by omega)) fun r hr => ?_
  refine Ok.bind (p_pick hr.2.2 (by omega)) fun q hq => ?_
  refine Ok.bind (p_pick hq.2.2 (by omega)) fun u hu => ?_
  refine Ok.oif (fun _ => ?_) (fun _ => Ok.oif (fun _ => ?_) (fun _ => Ok.some (hu.2.2.mono (by omega))))
  · exact Ok.bind (p_among hu.2.2 (by omega) (by simp)) fun v hv => Ok.some (hv.2.mono (by omega))
  · exact Ok.bind (p_among hu.2.2 (by omega) (by simp)) fun v hv => Ok.some (hv.2.mono (by omega))

theorem p_DrawLineOf {d : Nat} {x : List Int} (hx : Bytes x) : Ok (g26 (d + 5) x) fun _ => True := by
  rw [e26]
  refine Ok.bind (p_page (CurOk.new hx) (by omega)) fun r hr => ?_
  refine Ok.bind (p_pick hr.2 (by omega)) fun a ha => ?_
  refine Ok.bind (p_pick ha.2.2 (by omega)) fun b hb => ?_
  refine Ok.bind (p_pick hb.2.2 (by omega)) fun c hc => ?_
  exact Ok.bind (p_among hc.2.2 (by omega) (by simp)) fun u hu => Ok.some trivial

theorem p_DrawMarkedLine {d : Nat} {x : List Int} (hx : Bytes x) : Ok (g31 (d + 5) x) fun _ => True := by
  rw [e31]
  refine Ok.bind (p_page (CurOk.new hx) (by omega)) fun r hr => ?_
  refine Ok.bind (p_fault hr.2 (by omega)) fun f hf => ?_
  rw [q_erGood, ob_s]
  refine Ok.oif (fun _ => ?_) (fun _ => Ok.some trivial)
  refine Ok.bind (p_one hf (by omega)) fun u hu => ?_
  refine Ok.oif (fun _ => ?_) (fun _ => Ok.some trivial)
  rw [q_l1Least, ob_s]; exact Ok.some trivial

theorem p_DrawPlaceOf {d : Nat} {x : List Int} (hx : Bytes x) : Ok (g34 (d + 5) x) fun _ => True := by
  rw [e34]
  refine Ok.bind (p_page (CurOk.new hx) (by omega)) fun r hr => ?_
  refine Ok.bind (p_pick hr.2 (by omega)) fun a ha => ?_
  exact Ok.bind (p_pick ha.2.2 (by omega)) fun b hb => Ok.some trivial

theorem p_DrawLineText {d : Nat} {x : List Int} (hx : Bytes x) : Ok (g36 (d + 5) x) fun _ => True := by
  rw [e36]
  refine Ok.bind (p_page (CurOk.new hx) (by omega)) fun r hr => ?_
  exact Ok.bind (p_pick hr.2 (by omega)) fun a ha => Ok.some trivial

theorem ext_only {f : Nat} (h0 : f ≠ 122) (h1 : f ≠ 146) (h2 : f ≠ 123) (h3 : f ≠ 85) : pvVext f = none ∧ pvExt f = none := by
  constructor
  · unfold pvVext; split <;> simp_all
  · unfold pvExt; split <;> simp_all

theorem extAll : ExtAll Tryd.prog pvAnn := by
  refine ⟨⟨fun f v h => ?_, fun f h => ?_, fun f h => ?_⟩, fun f e h => ?_⟩
  · by_cases h0' : f = 122
    · subst h0'
      have h' : pvVext 122 = some v := h
      have h2 : some (fun (a : ByteArray × ByteArray) => strV cntG a.1 a.2) = some v := h'
      injection h2 with h2
      subst h2
      exact ⟨_, rfl, str_fn cntG⟩
    · by_cases h1' : f = 146
      · subst h1'
        have h' : pvVext 146 = some v := h
        have h2 : some (fun (a : ByteArray × ByteArray) => strV idxG a.1 a.2) = some v := h'
        injection h2 with h2
        subst h2
        exact ⟨_, rfl, str_fn idxG⟩
      · by_cases h2' : f = 123
        · subst h2'
          have h' : pvVext 123 = some v := h
          have h2 : some (fun (a : ByteArray × ByteArray) => lixV a.1 a.2) = some v := h'
          injection h2 with h2
          subst h2
          exact ⟨_, rfl, lix_fn⟩
        · by_cases h3' : f = 85
          · subst h3'
            have h' : pvVext 85 = some v := h
            have h2 : some (fun (a : ByteArray × Int) => repV a.1 a.2) = some v := h'
            injection h2 with h2
            subst h2
            exact ⟨_, rfl, rep_fn⟩
          · have : pvVext f = some v := h
            rw [(ext_only h0' h1' h2' h3').1] at this; simp at this
  · by_cases h0' : f = 122
    · subst h0'
      have h2 : some (fun (a : ByteArray × ByteArray) => strV cntG a.1 a.2) = none := h
      simp at h2
    · by_cases h1' : f = 146
      · subst h1'
        have h2 : some (fun (a : ByteArray × ByteArray) => strV idxG a.1 a.2) = none := h
        simp at h2
      · by_cases h2' : f = 123
        · subst h2'
          have h2 : some (fun (a : ByteArray × ByteArray) => lixV a.1 a.2) = none := h
          simp at h2
        · by_cases h3' : f = 85
          · subst h3'
            have h2 : some (fun (a : ByteArray × Int) => repV a.1 a.2) = none := h
            simp at h2
          · exact (ext_only h0' h1' h2' h3').2
  · by_cases h0' : f = 122
    · subst h0'
      have h2 : false = true := h
      simp at h2
    · by_cases h1' : f = 146
      · subst h1'
        have h2 : false = true := h
        simp at h2
      · by_cases h2' : f = 123
        · subst h2'
          have h2 : false = true := h
          simp at h2
        · by_cases h3' : f = 85
          · subst h3'
            have h2 : false = true := h
            simp at h2
          · exact (ext_only h0' h1' h2' h3').1
  · by_cases h0' : f = 122
    · subst h0'
      have h2 : some (strX cntG) = some e := h
      injection h2 with h2
      subst h2
      exact cnt_ext
    · by_cases h1' : f = 146
      · subst h1'
        have h2 : some (strX idxG) = some e := h
        injection h2 with h2
        subst h2
        exact idx_ext
      · by_cases h2' : f = 123
        · subst h2'
          have h2 : some (lixX) = some e := h
          injection h2 with h2
          subst h2
          exact lix_ext
        · by_cases h3' : f = 85
          · subst h3'
            have h2 : some (repX) = some e := h
            injection h2 with h2
            subst h2
            exact rep_ext
          · have h2 : pvExt f = some e := h
            rw [(ext_only h0' h1' h2' h3').2] at h2; simp at h2

end Go.Proofs.YtbciiigglpmlmaaDoor
