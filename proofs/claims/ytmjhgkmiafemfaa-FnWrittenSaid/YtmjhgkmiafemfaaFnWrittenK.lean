/-
  What the cursor's functions and the small ones give by value.
  Conditions: the cursor has not been moved 2^62 times.
  Comparing and adding up lists of numbers; ranges.
  Conditions: the lists are shorter than the fuel.
  Texts: their elements, and the draws of texts.
  Conditions: none, but those of the cursor for the draws.
  Numbers in bytes, padding and checksums, in both packages; the draws.
  Conditions: bytes.
  Numbers and their texts, in both packages.
  Conditions: none, but those of the cursor for the draws.
  Texts of numbers and of bytes, in both packages.
  Conditions: none, but those of the cursor for the draws.
-/
import Derived.Test.YtmjhgkmiafemfaaFnWrittenRes
import Derived.Test.YtmjhgkmiafemfaaPKit2
import Derived.Laws.Strings
set_option linter.all false
namespace Go.Proofs.Ytmjhgkmiafemfaa
open Go.Ev Go.Pv

theorem p_next {d m : Nat} {c : List Int × Int × Int} (hc : CurOk m c) (hm : m < 4611686018427387904) : Ok (g289 (d + 1) c) fun r => 0 ≤ r.1 ∧ r.1 < 256 ∧ CurOk (m + 1) r.2 := by
  obtain ⟨hb, h0, h1⟩ := hc
  obtain ⟨code, at', seed⟩ := c
  simp only at hb h0 h1
  have hw : IntKind.i64.wrap (at' + 1) = at' + 1 := wr (by omega) (by omega)
  rw [e289]
  have fin : ∀ n : Int, (at' < code.length → 0 ≤ n ∧ n < 256) → Ok (j289_0 d (code, at', seed) n) fun r => 0 ≤ r.1 ∧ r.1 < 256 ∧ CurOk (m + 1) r.2 := by
    intro n hn
    unfold j289_0
    simp only [hw]
    refine Ok.oif (fun h => ?_) (fun h => ?_)
    · simp only [decide_eq_true_eq] at h
      obtain ⟨a, b⟩ := hn (by omega)
      exact Ok.some ⟨a, b, hb, by simp only; omega, by simp only; omega⟩
    · exact Ok.some ⟨(seedByte _).1, (seedByte _).2, hb, by simp only; omega, by simp only; omega⟩
  refine Ok.oif (fun h => ?_) (fun h => ?_)
  · simp only [decide_eq_true_eq] at h
    refine Ok.oif (fun _ => ?_) (fun h2 => by simp only [decide_eq_false_iff_not] at h2; omega)
    have hlt : at'.toNat < code.length := by omega
    simp only
    rw [List.getElem?_eq_getElem hlt]
    have hx := hb _ (List.getElem_mem hlt)
    refine Ok.bind (Ok.some rfl) (fun a ha => ?_)
    subst ha
    exact fin _ (fun _ => by rw [wr (by omega) (by omega)]; exact hx)
  · simp only [decide_eq_false_iff_not] at h
    exact fin 0 (fun h' => absurd h' h)

theorem p_pick {d m : Nat} {c : List Int × Int × Int} {n : Int} (hc : CurOk m c) (hm : m + 1 < 4611686018427387904) : Ok (g177 (d + 2) c n) fun r => 0 ≤ r.1 ∧ (r.1 < n ∨ r.1 = 0) ∧ CurOk (m + 2) r.2 := by
  rw [e177]
  refine Ok.oif (fun h => ?_) (fun h => ?_)
  · exact Ok.some ⟨by simp, .inr rfl, hc.mono (by omega)⟩
  · simp only [decide_eq_false_iff_not] at h
    refine Ok.bind (p_next hc (by omega)) (fun r hr => ?_)
    obtain ⟨h1, h2, h3⟩ := hr
    have hn : (n == 0) = false := by simp; omega
    refine Ok.oif (fun h4 => ?_) (fun h4 => ?_)
    · refine Ok.bind (p_next h3 (by omega)) (fun q hq => ?_)
      obtain ⟨h5, h6, h7⟩ := hq
      rw [hn]
      rw [wr (n := r.1 * 256) (by omega) (by omega), wr (by omega) (by omega)]
      exact Ok.some ⟨Int.tmod_nonneg _ (by omega), .inl (Int.tmod_lt_of_pos _ (by omega)), h7.mono (by omega)⟩
    · rw [hn]
      exact Ok.some ⟨Int.tmod_nonneg _ (by omega), .inl (Int.tmod_lt_of_pos _ (by omega)), h3.mono (by omega)⟩

theorem p_among {d m : Nat} {c : List Int × Int × Int} {l : List Int} (hc : CurOk m c) (hm : m + 1 < 4611686018427387904) (hl : 0 < l.length) : Ok (g158 (d + 3) c l) fun r => r.1 ∈ l ∧ CurOk (m + 2) r.2 := by
  rw [e158]
  refine Ok.bind (p_pick hc hm) (fun r hr => ?_)
  obtain ⟨h1, h2, h3⟩ := hr
  refine Ok.oif (fun _ => ?_) (fun h => by simp only [decide_eq_false_iff_not] at h; omega)
  have hlt : r.1.toNat < l.length := by omega
  rw [List.getElem?_eq_getElem hlt]
  exact Ok.bind (Ok.some rfl) (fun a ha => by subst ha; exact Ok.some ⟨List.getElem_mem hlt, h3⟩)

theorem p_one {d m : Nat} {c : List Int × Int × Int} {n : Int} (hc : CurOk m c) (hm : m + 1 < 4611686018427387904) : Ok (g211 (d + 3) c n) fun r => CurOk (m + 2) r.2 := by
  rw [e211]
  exact Ok.bind (p_pick hc hm) (fun r hr => Ok.some hr.2.2)

theorem q_l1In {d : Nat} {x y z : Int} : g179 (d + 1) x y z = some (decide (y ≤ x ∧ x ≤ z)) := by
  rw [e179]; simp only [oif_ss]; congr 1; rw [Bool.eq_iff_iff]; simp

def szOk (s : Int) : Bool := decide (1 ≤ s ∧ s ≤ 1500)

theorem q_qBytes {d : Nat} {l : List Int} (hl : l.length < 4194304) : g122 (d + 1) l l = some true := by
  rw [e122, bne_self_eq_false, oif_f]
  refine (range_eq (fun (t : Bool) (i : Int) => (t, i)) l (fun x i t k => k t) (j122_0 d) ?_ ?_ (by rw [fuelN_eq]; exact hl) false).trans ?_
  · intro ag t i x hx; have hi := (List.getElem?_eq_some_iff.1 hx).1; simp only [l122_0, l122_0_b, ltl hx, bltl hx, nn, ofNat_toNat, hx, ob_s, oif_t]; rw [wr1 (by omega)]
    simp only [bne_self_eq_false, oif_f]
  · intro ag t; simp only [l122_0, l122_0_b, ltn, oif_f]
  · rw [rangeR_fold (f := fun _ _ t => t)]; rfl

abbrev By := ByteArray

def bl (s : ByteArray) : List UInt8 := s.data.toList

theorem bl_len (s : ByteArray) : s.size = (bl s).length := rfl

theorem bl_def (s : ByteArray) : s.data.toList = bl s := rfl

theorem bl_app (a b : ByteArray) : bl (a ++ b) = bl a ++ bl b := by simp [bl]

theorem bl_ext (s : ByteArray) (a b : Nat) : bl (s.extract a b) = ((bl s).drop a).take (b - a) := by simp [bl]

theorem bl_lit (l : List UInt8) : bl ⟨l.toArray⟩ = l := by simp [bl]

theorem bl_inj {a b : ByteArray} : bl a = bl b ↔ a = b := by
  constructor
  · intro h
    cases a with | mk a => cases b with | mk b =>
      simp only [bl] at h
      rw [Array.toList_inj.1 h]
  · intro h; rw [h]

theorem bl_eq (a b : ByteArray) : (a.toList == b.toList) = decide (bl a = bl b) := by
  rw [ByteArray.toList_eq, ByteArray.toList_eq]
  by_cases h : bl a = bl b
  · rw [decide_eq_true h]; simpa [bl] using h
  · rw [decide_eq_false h]; simpa [bl] using h

theorem strL_len (l : List Int) : (strL l).size = l.length := by rw [bl_len]; simp [bl, strL]

theorem ble_t {a b : Nat} (h : a ≤ b) : Nat.ble a b = true := by rw [Nat.ble_eq]; exact h

theorem slice_t {α : Type} {a b n : Nat} {x y : Option α} (h1 : a ≤ b) (h2 : b ≤ n) : oif (Nat.ble a b && Nat.ble b n) x y = x := by rw [ble_t h1, ble_t h2]; rfl

theorem room2 {α : Type} {a b : Nat} {x y : Option α} (h : a + b ≤ 9223372036854775807) : oif (Nat.ble (a + b) 9223372036854775807) x y = x := by rw [ble_t h]; rfl

theorem p_of {d m : Nat} {c : List Int × Int × Int} {l : List ByteArray} (hc : CurOk m c) (hm : m + 1 < 4611686018427387904) (hl : 0 < l.length) : Ok (g229 (d + 3) c l) fun r => r.1 ∈ l ∧ CurOk (m + 2) r.2 := by
  rw [e229]
  refine Ok.bind (p_pick hc hm) (fun r hr => ?_)
  obtain ⟨h1, h2, h3⟩ := hr
  refine Ok.oif (fun _ => ?_) (fun h => by simp only [decide_eq_false_iff_not] at h; omega)
  have hlt : r.1.toNat < l.length := by omega
  rw [List.getElem?_eq_getElem hlt]
  exact Ok.bind (Ok.some rfl) (fun a ha => by subst ha; exact Ok.some ⟨List.getElem_mem hlt, h3⟩)

theorem p_spoilt {d m : Nat} {c : List Int × Int × Int} {s t : ByteArray} (hc : CurOk m c) (hm : m + 100 < 4611686018427387904) (hs : s.size ≤ 1000000) (ht : 0 < t.size) : Ok (g247 (d + 3) c s t) fun r => r.1.size ≤ s.size + 3 ∧ CurOk (m + 20) r.2 := by
  rw [e247]
  refine Ok.bind (p_pick hc (by omega)) (fun r hr => ?_)
  obtain ⟨a1, a2, a3⟩ := hr
  rw [wr (n := 1 + r.1) (by omega) (by omega)]
  refine iter_ok (fun j q => q.2.1 ≤ (j : Int) ∧ j ≤ 3 ∧ q.1.size + j ≤ s.size + 3 ∧ CurOk (m + 20 - 6 * j) q.2.2) ?_ _ 2 _ (by rw [fuelN_eq]; omega) ⟨by simp only; omega, by omega, by simp only; omega, a3.mono (by omega)⟩
  rintro j ⟨q, n, x⟩ ag ⟨h1, h2, h3, h4⟩ hag
  simp only at h1 h2 h3 h4
  simp only [l247_0, l247_0_b]
  have fin : Ok (j247_0 (d + 2) q x.1 x.2.1 x.2.2) fun r => r.1.size ≤ s.size + 3 ∧ CurOk (m + 20) r.2 := by
    unfold j247_0
    exact Ok.some ⟨by simp only; omega, h4.mono (by omega)⟩
  unfold j247_1
  refine Ok.oif (fun h => ?_) (fun h => by rw [oif_f]; exact fin)
  simp only [decide_eq_true_eq] at h
  refine Ok.oif (fun h5 => ?_) (fun h5 => fin)
  simp only [decide_eq_true_eq] at h5
  refine Ok.bind (p_pick h4 (by omega)) (fun u hu => ?_)
  obtain ⟨u1, u2, u3⟩ := hu
  refine Ok.bind (p_pick u3 (by omega)) (fun v hv => ?_)
  obtain ⟨v1, v2, v3⟩ := hv
  rw [decide_eq_true v1, oif_t]
  have hlt : v.1.toNat < t.data.toList.length := by
    have : t.size = t.data.toList.length := rfl
    omega
  rw [List.getElem?_eq_getElem hlt, ob_s]
  refine Ok.bind (p_pick v3 (by omega)) (fun w hw => ?_)
  obtain ⟨w1, w2, w3⟩ := hw
  have hui : u.1.toNat < q.size := by omega
  have hst : ∀ n : Int, (strL [n]).size = 1 := fun n => by rw [strL_len]; rfl
  rw [wr (n := n - 1) (by omega) (by omega), wr (n := u.1 + 1) (by omega) (by omega)]
  have go : ∀ q2 : ByteArray, q2.size ≤ q.size + 1 → Ok (ag (q2, n - 1, w.2)) fun r => r.1.size ≤ s.size + 3 ∧ CurOk (m + 20) r.2 := fun q2 hq =>
    hag (j - 1) _ (by omega) ⟨by simp only; omega, by omega, by simp only; omega, w3.mono (by omega)⟩
  have e1 : (q.extract 0 u.1.toNat).size = u.1.toNat := by rw [ByteArray.size_extract]; omega
  have e2 : (q.extract u.1.toNat q.size).size = q.size - u.1.toNat := by rw [ByteArray.size_extract]; omega
  have e3 : (q.extract (u.1 + 1).toNat q.size).size = q.size - u.1.toNat - 1 := by rw [ByteArray.size_extract]; omega
  refine Ok.oif (fun _ => ?_) (fun _ => Ok.oif (fun _ => ?_) (fun _ => ?_))
  · rw [decide_eq_true u1, oif_t, slice_t (by omega) (by omega), room2 (by rw [e1, hst]; omega), oif_t, slice_t (by omega) (by omega), room2 (by rw [ByteArray.size_append, e1, e2, hst]; omega)]
    exact go _ (by rw [ByteArray.size_append, ByteArray.size_append, e1, e2, hst]; omega)
  · rw [decide_eq_true u1, oif_t, slice_t (by omega) (by omega), room2 (by rw [e1, hst]; omega), decide_eq_true (show 0 ≤ u.1 + 1 by omega), oif_t, slice_t (by omega) (by omega), room2 (by rw [ByteArray.size_append, e1, e3, hst]; omega)]
    exact go _ (by rw [ByteArray.size_append, ByteArray.size_append, e1, e3, hst]; omega)
  · rw [decide_eq_true u1, oif_t, slice_t (by omega) (by omega), decide_eq_true (show 0 ≤ u.1 + 1 by omega), oif_t, slice_t (by omega) (by omega), room2 (by rw [e1, e3]; omega)]
    exact go _ (by rw [ByteArray.size_append, e1, e3]; omega)

theorem orI {a b : Int} (h1 : 0 ≤ a) (h2 : a < 1099511627776) (h3 : 0 ≤ b) (h4 : b < 256) : IntKind.i64.wrap ((BitVec.ofInt IntKind.i64.bits (IntKind.i64.wrap (a * 2 ^ (min (8 : Int).toNat IntKind.i64.bits))) ||| BitVec.ofInt IntKind.i64.bits (IntKind.i64.wrap b)).toNat : Int) = a * 256 + b := by
  have e0 : ((2 : Int) ^ (min (8 : Int).toNat IntKind.i64.bits)) = 256 := by decide
  rw [e0, wr (n := a * 256) (by omega) (by omega), wr (n := b) (by omega) (by omega)]
  obtain ⟨x, rfl⟩ := Int.eq_ofNat_of_zero_le h1
  obtain ⟨y, rfl⟩ := Int.eq_ofNat_of_zero_le h3
  have hb : IntKind.i64.bits = 64 := rfl
  have e1 : (BitVec.ofInt IntKind.i64.bits ((x : Int) * 256)).toNat = 2 ^ 8 * x := by
    rw [hb, BitVec.toNat_ofInt]; omega
  have e2 : (BitVec.ofInt IntKind.i64.bits (y : Int)).toNat = y := by
    rw [hb, BitVec.toNat_ofInt]; omega
  rw [BitVec.toNat_or, e1, e2, ← Nat.two_pow_add_eq_or_of_lt (show y < 2 ^ 8 by omega) x]
  rw [wr (by omega) (by omega)]; omega

theorem shl8 {a : Int} (h1 : 0 ≤ a) (h2 : a < 256) : IntKind.i64.wrap (IntKind.i64.wrap a * 2 ^ (min (8 : Int).toNat IntKind.i64.bits)) = a * 256 := by
  have e0 : ((2 : Int) ^ (min (8 : Int).toNat IntKind.i64.bits)) = 256 := by decide
  rw [e0, wr (n := a) (by omega) (by omega), wr (by omega) (by omega)]

def wdOk (w : Int) : Bool := (w == 1) || ((w == 2) || (w == 4))

theorem wdOk_in {w : Int} (h : wdOk w = true) : w = 1 ∨ w = 2 ∨ w = 4 := by simpa [wdOk] using h

/-- The lowest bytes of a number. -/
def digs : Int → Nat → List Int
  | _, 0 => []
  | n, k + 1 => n % 256 :: digs (n / 256) k

def topV (w : Int) : Int := if w = 1 then 256 else if w = 2 then 65536 else 4294967296

def wlV (n w : Int) : List Int × Bool := if wdOk w && decide (0 ≤ n ∧ n < topV w) then (digs n w.toNat, true) else ([], false)

theorem byteAt {n : Int} {i : Nat} (h : i < 4) : IntKind.u8.wrap (n.fdiv (2 ^ (min (IntKind.i64.wrap ((8 : Int) * (i : Int))).toNat IntKind.i64.bits))) = n / (256 ^ i) % 256 := by
  have hb : IntKind.i64.bits = 64 := rfl
  rw [wr (by omega) (by omega), hb, Int.fdiv_eq_ediv_of_nonneg _ (Int.le_of_lt (Int.pow_pos (by omega))), IntKind.wrap_u8]
  rcases (show i = 0 ∨ i = 1 ∨ i = 2 ∨ i = 3 by omega) with rfl | rfl | rfl | rfl <;> rfl

/-- The number that lies in so many bytes, the highest one first, behind what is known. -/
def rdV (l : List Int) (at' : Nat) : Nat → Int → Int
  | 0, a => a
  | k + 1, a => rdV l at' k (a * 256 + l.getD (at' + k) 0)

def rlV (l : List Int) (n w : Int) : Int × Bool := if decide (((l.length : Nat) : Int) ≤ 4000) && (wdOk w && decide (0 ≤ n ∧ n ≤ ((l.length : Nat) : Int) - w)) then (rdV l n.toNat w.toNat 0, true) else (0, false)

def bnd : Nat → Int
  | 0 => 4294967296
  | 1 => 16777216
  | 2 => 65536
  | 3 => 256
  | _ => 1

theorem bnd_step {k : Nat} {a b : Int} (hk : k < 4) (h : a < bnd (k + 1)) (h0 : 0 ≤ a) (h1 : b < 256) : a * 256 + b < bnd k ∧ a < 1099511627776 := by
  rcases (show k = 0 ∨ k = 1 ∨ k = 2 ∨ k = 3 by omega) with rfl | rfl | rfl | rfl <;> simp only [bnd] at h ⊢ <;> omega

theorem byte_get {l : List Int} (h : Bytes l) {i : Nat} (hi : i < l.length) : l[i]? = some (l.getD i 0) ∧ 0 ≤ l.getD i 0 ∧ l.getD i 0 < 256 := by
  have e : l.getD i 0 = l[i] := by simp [List.getD, List.getElem?_eq_getElem hi]
  rw [e]; exact ⟨List.getElem?_eq_getElem hi, h _ (List.getElem_mem hi)⟩

/-- The least multiple. -/
def alV (n b : Int) : Int := (n + b - 1) / b * b

theorem alV_in {n b : Int} (h0 : 0 ≤ n) (h1 : 1 ≤ b) : n ≤ alV n b ∧ alV n b < n + b ∧ alV n b % b = 0 ∧ 0 ≤ alV n b := by
  unfold alV
  have e1 := Int.mul_ediv_add_emod (n + b - 1) b
  have e2 := Int.emod_nonneg (n + b - 1) (by omega : b ≠ 0)
  have e3 := Int.emod_lt_of_pos (n + b - 1) (by omega : 0 < b)
  have e4 : (n + b - 1) / b * b = b * ((n + b - 1) / b) := Int.mul_comm _ _
  refine ⟨by omega, by omega, Int.mul_emod_left _ _, ?_⟩
  omega

theorem alV_wr {n b : Int} (h0 : 0 ≤ n) (h9 : n ≤ 1000000) (h1 : 1 ≤ b) (h2 : b ≤ 16) : IntKind.i64.wrap ((IntKind.i64.wrap ((IntKind.i64.wrap ((IntKind.i64.wrap (n + b)) - 1)).tdiv b)) * b) = alV n b ∧ (b == 0) = false := by
  obtain ⟨a1, a2, a3, a4⟩ := alV_in h0 h1
  have e1 : 0 ≤ (n + b - 1) / b := Int.ediv_nonneg (by omega) (by omega)
  have e2 : (n + b - 1) / b ≤ n + b - 1 := Int.ediv_le_self _ (by omega)
  refine ⟨?_, by simp; omega⟩
  rw [wr (n := n + b) (by omega) (by omega), wr (n := n + b - 1) (by omega) (by omega), Int.tdiv_eq_ediv_of_nonneg (by omega), wr (n := (n + b - 1) / b) (by omega) (by omega)]
  exact wr (n := alV n b) (by omega) (by omega)

def auV (n b : Int) : Int × Bool := if decide (0 ≤ n ∧ n ≤ 1000000) && decide (1 ≤ b ∧ b ≤ 16) then (alV n b, true) else (0, false)

def padL (l : List Int) (b : Int) : List Int := l ++ List.replicate ((alV ((l.length : Nat) : Int) b).toNat - l.length) 0

def pdV (l : List Int) (b : Int) : List Int × Bool := if decide (((l.length : Nat) : Int) ≤ 4000) && (decide (1 ≤ b ∧ b ≤ 16) && decide (alV ((l.length : Nat) : Int) b ≤ 4000)) then (padL l b, true) else ([], false)

theorem q_IsPadded {d : Nat} {l : List Int} {b : Int} (h1 : ((l.length : Nat) : Int) ≤ 4000) (h2 : ((padL l b).length : Nat) ≤ 4000) : g120 (d + 1) (padL l b) ((l.length : Nat) : Int) (((padL l b).length : Nat) : Int) = some (true, true) := by
  rw [e120]; unfold j120_1
  have hle : l.length ≤ (padL l b).length := by simp [padL]
  rw [decide_eq_false (show ¬ (((padL l b).length : Nat) : Int) > 4000 by omega), oif_f, decide_eq_false (show ¬ ((l.length : Nat) : Int) < 0 by omega), oif_f, decide_eq_false (show ¬ ((l.length : Nat) : Int) > (((padL l b).length : Nat) : Int) by omega), oif_f, decide_eq_false (show ¬ (((padL l b).length : Nat) : Int) > (((padL l b).length : Nat) : Int) by omega), oif_f, decide_eq_true (show (0 : Int) ≤ (((padL l b).length : Nat) : Int) by omega), oif_t, decide_eq_true (show (0 : Int) ≤ ((l.length : Nat) : Int) by omega), oif_t]
  simp only [Int.toNat_natCast]
  have e4 : (Nat.ble l.length (padL l b).length && Nat.ble (padL l b).length (padL l b).length) = true := by
    rw [Bool.and_eq_true, Nat.ble_eq, Nat.ble_eq]; omega
  rw [e4, oif_t]
  have e5 : ((padL l b).take (padL l b).length).drop l.length = List.replicate ((alV ((l.length : Nat) : Int) b).toNat - l.length) 0 := by
    rw [List.take_length]; unfold padL; rw [List.drop_left]
  refine (range_eq (fun (t : Bool × Bool) (i : Int) => (t.1, t.2, i)) (((padL l b).take (padL l b).length).drop l.length) (fun x _ t k => oif (x == 0) (k t) (some (false, true))) (fun t => j120_0 d t.1 t.2) ?_ ?_ (by rw [fuelN_eq, e5]; simp [padL] at h2 ⊢; omega) (false, false)).trans ?_
  · intro ag t i x hx
    have hi := (List.getElem?_eq_some_iff.1 hx).1
    rw [e5, List.length_replicate] at hi
    have hi2 : i < 100000 := by simp [padL] at h2; omega
    simp only [l120_0, l120_0_b, Int.toNat_natCast, ltl hx, nn, hx, ob_s, oif_t]
    rw [wr1 (by omega)]
    cases hz : x == 0 with
    | true => simp only [bne, hz, Bool.not_true, oif_f, oif_t]
    | false => simp only [bne, hz, Bool.not_false, oif_t, oif_f]
  · intro ag t; simp only [l120_0, l120_0_b, Int.toNat_natCast, ltn, oif_f]
  · rw [rangeR_all (p := fun x => x == 0), e5]
    have : (List.replicate ((alV ((l.length : Nat) : Int) b).toNat - l.length) (0 : Int)).all (fun x => x == 0) = true := by
      rw [List.all_eq_true]; intro x hx; rw [(List.mem_replicate.1 hx).2]; rfl
    rw [this]; rfl

/-- One more word of a checksum. -/
def csAdd (a w : Int) : Int := if a + w > 65535 then a + w - 65535 else a + w

def csV : Int → List Int → Int
  | a, [] => a
  | a, [x] => csAdd a (x * 256)
  | a, x :: y :: r => csV (csAdd a (x * 256 + y)) r

theorem csAdd_in {a w : Int} (h0 : 0 ≤ a) (h1 : a ≤ 65535) (h2 : 0 ≤ w) (h3 : w ≤ 65535) : 0 ≤ csAdd a w ∧ csAdd a w ≤ 65535 := by
  unfold csAdd; split <;> omega

theorem csV_zeros : ∀ (k : Nat) {a : Int}, a ≤ 65535 → csV a (List.replicate k 0) = a
  | 0, a, _ => rfl
  | 1, a, h => by simp [csV, csAdd]; omega
  | k + 2, a, h => by
    have : csAdd a (0 * 256 + 0) = a := by unfold csAdd; split <;> omega
    simp only [List.replicate_succ, csV]
    rw [this]; exact csV_zeros k h

theorem csV_pad : ∀ (l : List Int) (k : Nat) {a : Int}, Bytes l → 0 ≤ a → a ≤ 65535 → csV a (l ++ List.replicate k 0) = csV a l
  | [], k, a, _, _, h => by simp [csV, csV_zeros k h]
  | [x], k, a, hb, h0, h1 => by
    have hx := hb x (by simp)
    cases k with
    | zero => simp
    | succ k =>
      simp only [List.replicate_succ, List.cons_append, List.nil_append, csV]
      rw [Int.add_zero]
      exact csV_zeros k (csAdd_in h0 h1 (by omega) (by omega)).2
  | x :: y :: r, k, a, hb, h0, h1 => by
    have hx := hb x (by simp); have hy := hb y (by simp)
    obtain ⟨c1, c2⟩ := csAdd_in h0 h1 (w := x * 256 + y) (by omega) (by omega)
    simp only [List.cons_append, csV]
    exact csV_pad r k (fun z hz => hb z (by simp [hz])) c1 c2

theorem q_ChecksumOf {d : Nat} {l : List Int} (hb : Bytes l) (hl : ((l.length : Nat) : Int) ≤ 4000) : g125 (d + 1) l = some (IntKind.i64.wrap (65535 - csV 0 l), true) := by
  rw [e125, decide_eq_false (show ¬ ((l.length : Nat) : Int) > 4000 by omega), oif_f]
  refine (iter_eq (fun s => some (IntKind.i64.wrap (65535 - csV s.1 (l.drop s.2.toNat)), true)) (fun s => l.length + 1 - s.2.toNat) (fun s => 0 ≤ s.1 ∧ s.1 ≤ 65535 ∧ 0 ≤ s.2 ∧ s.2 ≤ (l.length : Int) + 1) ?_ fuelN (0, 0) (by simp; omega) (by rw [fuelN_eq]; simp; omega)).trans ?_
  · rintro ⟨a, n⟩ ag ⟨h1, h2, h3, h4⟩ hag
    simp only at h1 h2 h3 h4
    obtain ⟨i, rfl⟩ := Int.eq_ofNat_of_zero_le h3
    simp only [l125_0, l125_0_b]
    rcases Nat.lt_or_ge i l.length with hlt | hge
    · obtain ⟨b1, b2, b3⟩ := byte_get hb hlt
      have hd := List.drop_eq_getElem_cons hlt
      have hx : l[i] = l.getD i 0 := by simp [List.getD, List.getElem?_eq_getElem hlt]
      rw [decide_eq_true (show ((i : Int)) < ((l.length : Nat) : Int) by omega), oif_t, nn, oif_t, ofNat_toNat, b1, ob_s, wr1 (by omega)]
      rcases Nat.lt_or_ge (i + 1) l.length with hlt2 | hge2
      · obtain ⟨c1, c2, c3⟩ := byte_get hb hlt2
        have hd2 := List.drop_eq_getElem_cons hlt2
        have hy : l[i + 1] = l.getD (i + 1) 0 := by simp [List.getD, List.getElem?_eq_getElem hlt2]
        obtain ⟨k1, k2⟩ := csAdd_in h1 h2 (w := l.getD i 0 * 256 + l.getD (i + 1) 0) (by omega) (by omega)
        rw [decide_eq_true (show ((i + 1 : Nat) : Int) < ((l.length : Nat) : Int) by omega), oif_t, nn, oif_t, ofNat_toNat, c1, ob_s]
        have eo : IntKind.i64.wrap ((BitVec.ofInt IntKind.i64.bits (IntKind.i64.wrap ((IntKind.i64.wrap (l.getD i 0)) * 2 ^ (min (8 : Int).toNat IntKind.i64.bits))) ||| BitVec.ofInt IntKind.i64.bits (IntKind.i64.wrap (l.getD (i + 1) 0))).toNat : Int) = l.getD i 0 * 256 + l.getD (i + 1) 0 := by
          rw [wr (n := l.getD i 0) (by omega) (by omega)]; exact orI b2 (by omega) c2 c3
        rw [eo]; unfold j125_1
        rw [hd, hd2, hx, hy]; simp only [csV]
        have := hag (csAdd a (l.getD i 0 * 256 + l.getD (i + 1) 0), ((i : Int) + 2)) ⟨k1, k2, by simp only; omega, by simp only; omega⟩ (by simp only; omega)
        simp only [show ((i : Int) + 2).toNat = i + 2 by omega] at this
        rw [← this]
        rw [wr (n := a + _) (by omega) (by omega), wr (n := (i : Int) + 2) (by omega) (by omega)]
        unfold csAdd
        by_cases hc : a + (l.getD i 0 * 256 + l.getD (i + 1) 0) > 65535
        · rw [decide_eq_true hc, oif_t, if_pos hc, wr (by omega) (by omega)]
        · rw [decide_eq_false hc, oif_f, if_neg hc]
      · have hn : List.drop (i + 1) l = [] := List.drop_eq_nil_of_le hge2
        obtain ⟨k1, k2⟩ := csAdd_in h1 h2 (w := l.getD i 0 * 256) (by omega) (by omega)
        rw [decide_eq_false (show ¬ ((i + 1 : Nat) : Int) < ((l.length : Nat) : Int) by omega), oif_f, shl8 b2 b3]
        unfold j125_1
        rw [hd, hn, hx]; simp only [csV]
        have := hag (csAdd a (l.getD i 0 * 256), ((i : Int) + 2)) ⟨k1, k2, by simp only; omega, by simp only; omega⟩ (by simp only; omega)
        simp only [show ((i : Int) + 2).toNat = i + 2 by omega] at this
        rw [List.drop_eq_nil_of_le (show l.length ≤ i + 2 by omega)] at this
        simp only [csV] at this
        rw [← this]
        rw [wr (n := a + _) (by omega) (by omega), wr (n := (i : Int) + 2) (by omega) (by omega)]
        unfold csAdd
        by_cases hc : a + l.getD i 0 * 256 > 65535
        · rw [decide_eq_true hc, oif_t, if_pos hc, wr (by omega) (by omega)]
        · rw [decide_eq_false hc, oif_f, if_neg hc]
    · rw [decide_eq_false (show ¬ ((i : Int)) < ((l.length : Nat) : Int) by omega), oif_f, ofNat_toNat, List.drop_eq_nil_of_le hge]
      rfl
  · simp

theorem p_bytes {d m : Nat} {c : List Int × Int × Int} (hc : CurOk m c) (hm : m < 100000) : Ok (g246 (d + 4) c) fun r => r.1.length ≤ 4010 ∧ Bytes r.1 ∧ CurOk (m + 200) r.2 := by
  rw [e246]
  refine Ok.bind (p_one hc (by omega)) fun r hr => ?_
  refine Ok.oif (fun _ => ?_) (fun _ => ?_)
  · refine Ok.bind (p_pick hr (by omega)) fun u hu => ?_
    obtain ⟨u1, u2, u3⟩ := hu
    rw [wr (n := 4000 + u.1) (by omega) (by omega)]
    have e1 : decide (0 ≤ 4000 + u.1) = true := by simp; omega
    have e2 : (Nat.ble (4000 + u.1).toNat (4000 + u.1).toNat && Nat.ble ((4000 + u.1).toNat * 1) roomMax) = true := by
      rw [Bool.and_eq_true, Nat.ble_eq, Nat.ble_eq]; unfold roomMax; omega
    rw [e1, oif_t, oif_t, e2, oif_t]
    exact Ok.some ⟨by simp; omega, fun z hz => by rw [(List.mem_replicate.1 hz).2]; omega, u3.mono (by omega)⟩
  · refine Ok.bind (p_pick hr (by omega)) fun u hu => ?_
    obtain ⟨u1, u2, u3⟩ := hu
    refine iter_ok (fun k s => s.2.1 ≤ (k : Int) ∧ s.1.length + k ≤ 20 ∧ Bytes s.1 ∧ CurOk (m + 4 + 4 * s.1.length) s.2.2) ?_ _ 20 _ (by rw [fuelN_eq]; omega) ⟨by simp only; omega, by simp, by simp [Bytes], by simpa using u3⟩
    rintro k ⟨l, n, x⟩ ag ⟨h1, h2, h3, h4⟩ hag
    simp only at h1 h2 h3 h4
    simp only [l246_0, l246_0_b]
    refine Ok.oif (fun h => ?_) (fun h => ?_)
    · simp at h
      refine Ok.bind (p_pick h4 (by omega)) fun v hv => ?_
      refine Ok.bind (p_among hv.2.2 (by omega) (by simp)) fun q hq => ?_
      rw [room (by simp; omega), oif_t]
      refine hag (k - 1) _ (by omega) ⟨by simp only; rw [wr (by omega) (by omega)]; omega, by simp; omega, ?_, by simpa [Nat.mul_add, Nat.add_assoc] using hq.2⟩
      intro z hz
      rcases List.mem_append.1 hz with hz | hz
      · exact h3 z hz
      · simp only [List.mem_singleton] at hz
        subst hz; rw [IntKind.wrap_u8]; omega
    · unfold j246_0
      exact Ok.some ⟨by simp only; omega, h3, CurOk.mono (c := (x.1, x.2.1, x.2.2)) h4 (by omega)⟩

def vlOk (n : Int) : Bool := decide (0 ≤ n ∧ n ≤ 1000000000)

/-- Scaling. -/
def scN (n num den : Int) (up : Bool) : Int := if up then (n * num + (den - 1)) / den else (n * num) / den

def scOk (n num den : Int) : Bool := vlOk n && decide (0 ≤ num ∧ num ≤ 1000000 ∧ 1 ≤ den ∧ den ≤ 1000000)

def scV (n num den : Int) (up : Bool) : Int × Bool := if scOk n num den && decide (scN n num den up ≤ 1000000000) then (scN n num den up, true) else (0, false)

theorem sc_in {n num den : Int} (h : scOk n num den = true) : 0 ≤ n * num ∧ n * num ≤ 1000000000000000 ∧ 1 ≤ den ∧ den ≤ 1000000 := by
  simp only [scOk, vlOk, Bool.and_eq_true, decide_eq_true_eq] at h
  have k1 : 0 ≤ n * num := Int.mul_nonneg (by omega) (by omega)
  have k2 : n * num ≤ 1000000000 * num := Int.mul_le_mul_of_nonneg_right (by omega) (by omega)
  omega

theorem div_le_self' {a b : Int} (h0 : 0 ≤ a) (h1 : 1 ≤ b) : 0 ≤ a / b ∧ a / b ≤ a := ⟨Int.ediv_nonneg h0 (by omega), Int.ediv_le_self _ h0⟩

/-- Adding. -/
def vlsOk (l : List Int) : Bool := l.all vlOk && decide (l.length ≤ 40)

def adV (l : List Int) : Int × Bool := if vlsOk l && decide (l.sum ≤ 1000000000) then (l.sum, true) else (0, false)

theorem ad_range {β : Type} {no : Option β} {fin : Int → Option β} : ∀ (l : List Int) (i : Nat) (t : Int), (∀ x ∈ l, 0 ≤ x ∧ x ≤ 1000000000) → 0 ≤ t → t ≤ 1000000000 →
    rangeR (fun x _ t k => oif (decide (IntKind.i64.wrap (t + x) > 1000000000)) no (k (IntKind.i64.wrap (t + x)))) fin l i t = if t + l.sum ≤ 1000000000 then fin (t + l.sum) else no
  | [], i, t, _, h0, h1 => by
    have e : t + ([] : List Int).sum = t := by simp
    rw [e, if_pos h1]; rfl
  | x :: r, i, t, hl, h0, h1 => by
    have hx := hl x (by simp)
    have hr : 0 ≤ r.sum := List.sum_nonneg' r (fun y hy => (hl y (by simp [hy])).1)
    have e : t + (x :: r).sum = t + x + r.sum := by rw [List.sum_cons]; omega
    rw [e]
    simp only [rangeR]
    rw [wr (n := t + x) (by omega) (by omega)]
    by_cases h : t + x > 1000000000
    · rw [decide_eq_true h, oif_t, if_neg (by omega)]
    · rw [decide_eq_false h, oif_f, ad_range r (i + 1) (t + x) (fun y hy => hl y (by simp [hy])) (by omega) (by omega)]

theorem vlsOk_in {l : List Int} (h : vlsOk l = true) : (∀ x ∈ l, 0 ≤ x ∧ x ≤ 1000000000) ∧ l.length ≤ 40 := by
  simp only [vlsOk, vlOk, Bool.and_eq_true, List.all_eq_true, decide_eq_true_eq] at h
  exact h

/-- Multiplying. -/
def muV (a b : Int) : Int × Bool := if vlOk a && (vlOk b && decide (a * b ≤ 1000000000)) then (a * b, true) else (0, false)

theorem mu_in {a b : Int} (ha : vlOk a = true) (hb : vlOk b = true) : 0 ≤ a * b ∧ a * b ≤ 1000000000000000000 := by
  simp only [vlOk, decide_eq_true_eq] at ha hb
  have k1 : 0 ≤ a * b := Int.mul_nonneg (by omega) (by omega)
  have k2 : a * b ≤ 1000000000 * b := Int.mul_le_mul_of_nonneg_right (by omega) (by omega)
  omega

/-- Digits, and the number of a list of them. -/
def dg (c : UInt8) : Int := if 48 ≤ c.toNat ∧ c.toNat ≤ 57 then (c.toNat : Int) - 48 else if 97 ≤ c.toNat ∧ c.toNat ≤ 102 then (c.toNat : Int) - 87 else 99

theorem dg_in (c : UInt8) : 0 ≤ dg c ∧ dg c ≤ 99 := by unfold dg; (repeat' split) <;> omega

def rdL (base most : Int) : Int → List UInt8 → Int
  | n, [] => n
  | n, c :: r => if dg c ≥ base then -1 else if n * base + dg c > most then -1 else rdL base most (n * base + dg c) r

def rdS (base most : Int) : Int → List UInt8 → Int
  | n, [] => if n > most then -1 else n
  | n, c :: r => if dg c ≥ base then -1 else if n > most then -1 else rdS base most (n * base + dg c) r

theorem rdS_over {base most : Int} {n : Int} (h : n > most) : ∀ l, rdS base most n l = -1
  | [] => by simp only [rdS]; rw [if_pos h]
  | c :: r => by simp only [rdS]; rw [if_pos h]; split <;> rfl

theorem rdS_eq {base most : Int} : ∀ (l : List UInt8) {n : Int}, n ≤ most → rdS base most n l = rdL base most n l
  | [], n, h => by simp only [rdS, rdL]; rw [if_neg (by omega)]
  | c :: r, n, h => by
    simp only [rdS, rdL]
    split
    · rfl
    · rw [if_neg (by omega)]
      by_cases h2 : n * base + dg c > most
      · rw [if_pos h2, rdS_over h2]
      · rw [if_neg h2, rdS_eq r (by omega)]

theorem rdL_in {base most : Int} (hb : 1 ≤ base) : ∀ (l : List UInt8) {n : Int}, 0 ≤ n → n ≤ most → rdL base most n l = -1 ∨ (n ≤ rdL base most n l ∧ rdL base most n l ≤ most)
  | [], n, h0, h1 => .inr ⟨Int.le_refl _, h1⟩
  | c :: r, n, h0, h1 => by
    simp only [rdL]
    split
    · exact .inl rfl
    · split
      · exact .inl rfl
      · have hd := dg_in c
        have k : n * 1 ≤ n * base := Int.mul_le_mul_of_nonneg_left hb h0
        rcases rdL_in (most := most) hb r (n := n * base + dg c) (by omega) (by omega) with h | h
        · exact .inl h
        · exact .inr (by omega)

def rcV (base most : Int) : List UInt8 → Int
  | [] => -1
  | c :: r => if c.toNat = 48 ∧ r ≠ [] then -1 else rdL base most 0 (c :: r)

theorem rcV_in {base most : Int} (hb : 1 ≤ base) (hm : 0 ≤ most) : ∀ l, -1 ≤ rcV base most l ∧ rcV base most l ≤ most
  | [] => by simp only [rcV]; omega
  | c :: r => by
    simp only [rcV]
    split
    · omega
    · have := rdL_in (base := base) (most := most) hb (c :: r) (n := 0) (by omega) hm
      omega

/-- No needless zero: the number is positive. -/
theorem rdL_pos {base most : Int} {c : UInt8} {r : List UInt8} (hb : 1 ≤ base) (hm : 0 ≤ most) (hc : c.toNat ≠ 48) : rdL base most 0 (c :: r) = -1 ∨ 1 ≤ rdL base most 0 (c :: r) := by
  simp only [rdL]
  split
  · exact .inl rfl
  · split
    · exact .inl rfl
    · have hd : 1 ≤ dg c := by unfold dg; (repeat' split) <;> omega
      rcases rdL_in (most := most) hb r (n := 0 * base + dg c) (by omega) (by omega) with h | h
      · exact .inl h
      · exact .inr (by omega)

def onR {β : Type} (no : Option β) (fin : Int → Option β) (v : Int) : Option β := if v = -1 then no else fin v

theorem nd_range {β : Type} {base most : Int} {no : Option β} {fin : Int → Option β} (hb : 1 ≤ base) (hb2 : base ≤ 16) (hm : most ≤ 1000000000) : ∀ (l : List UInt8) (i : Nat) (t : Int), 0 ≤ t →
    rangeR (fun x _ t k => oif (decide (dg x ≥ base)) no (oif (decide (t > most)) no (k (IntKind.i64.wrap (IntKind.i64.wrap (t * base) + dg x))))) (fun t => oif (decide (t > most)) no (fin t)) l i t = onR no fin (rdS base most t l)
  | [], i, t, h0 => by
    simp only [rangeR, rdS]
    by_cases h : t > most
    · rw [decide_eq_true h, oif_t, if_pos h]; rfl
    · rw [decide_eq_false h, oif_f, if_neg h]; unfold onR; rw [if_neg (by omega)]
  | c :: r, i, t, h0 => by
    simp only [rangeR, rdS]
    have hd := dg_in c
    by_cases h : dg c ≥ base
    · rw [decide_eq_true h, oif_t, if_pos h]; rfl
    rw [decide_eq_false h, oif_f, if_neg h]
    by_cases h2 : t > most
    · rw [decide_eq_true h2, oif_t, if_pos h2]; rfl
    have k1 : 0 ≤ t * base := Int.mul_nonneg h0 (by omega)
    have k2 : t * base ≤ t * 16 := Int.mul_le_mul_of_nonneg_left hb2 h0
    rw [decide_eq_false h2, oif_f, if_neg h2, wr (n := t * base) (by omega) (by omega), wr (n := t * base + dg c) (by omega) (by omega)]
    exact nd_range hb hb2 hm r (i + 1) _ (by omega)

theorem u8_lt (c : UInt8) : (c.toNat : Int) < 256 := by have := c.toNat_lt; omega

def unV2 (u most : Int) (l : List UInt8) : Int := if rcV 10 most l ≤ 0 then -1 else rcV 10 most l * u

def nrV (l : List UInt8) : Int := match l.getLast? with
  | none => -1
  | some c => if c.toNat = 109 then unV2 1000000 1000 l.dropLast else if c.toNat = 107 then unV2 1000 1000000 l.dropLast else rcV 10 1000000000 l

def toR (n : Int) : Int × Bool := if n < 0 then (0, false) else (n, true)

theorem unV2_in {u most : Int} (hm : 0 ≤ most) (h : most * u ≤ 1000000000) (hu : 1 ≤ u) (l : List UInt8) : -1 ≤ unV2 u most l ∧ unV2 u most l ≤ 1000000000 := by
  unfold unV2
  have := rcV_in (base := 10) (by omega) hm l
  split
  · omega
  · have k : rcV 10 most l * u ≤ most * u := Int.mul_le_mul_of_nonneg_right (by omega) (by omega)
    have k2 : 0 ≤ rcV 10 most l * u := Int.mul_nonneg (by omega) (by omega)
    omega

theorem nrV_in (l : List UInt8) : -1 ≤ nrV l ∧ nrV l ≤ 1000000000 := by
  unfold nrV
  split
  · omega
  · split
    · exact unV2_in (by omega) (by omega) (by omega) _
    · split
      · exact unV2_in (by omega) (by omega) (by omega) _
      · exact rcV_in (by omega) (by omega) _

def toU (u v : Int) : Int × Bool := if v = -1 then (0, false) else (v * u, true)

theorem rn_range {u most : Int} (hu : 1 ≤ u) (hum : most * u = 1000000000) (hm : 0 ≤ most) : ∀ (l : List UInt8) (i : Nat) (t : Int), 0 ≤ t → t ≤ most →
    rangeR (fun x _ t k => oif (decide (48 ≤ x.toNat ∧ x.toNat ≤ 57)) (oif (decide (IntKind.i64.wrap (IntKind.i64.wrap (IntKind.i64.wrap (10 * t) + IntKind.i64.wrap (IntKind.u8.wrap ((x.toNat : Int) - 48))) * u) > 1000000000)) (some (0, false)) (k (IntKind.i64.wrap (IntKind.i64.wrap (10 * t) + IntKind.i64.wrap (IntKind.u8.wrap ((x.toNat : Int) - 48)))))) (some (0, false))) (fun t => some (IntKind.i64.wrap (t * u), true)) l i t
      = some (toU u (rdL 10 most t l))
  | [], i, t, h0, h1 => by
    simp only [rangeR, rdL]
    have k : t * u ≤ most * u := Int.mul_le_mul_of_nonneg_right h1 (by omega)
    have k2 : 0 ≤ t * u := Int.mul_nonneg h0 (by omega)
    rw [wr (n := t * u) (by omega) (by omega)]; unfold toU; rw [if_neg (by omega)]
  | c :: r, i, t, h0, h1 => by
    simp only [rangeR, rdL]
    by_cases h : 48 ≤ c.toNat ∧ c.toNat ≤ 57
    · have e : dg c = (c.toNat : Int) - 48 := by unfold dg; rw [if_pos h]
      have hu8 : IntKind.u8.wrap ((c.toNat : Int) - 48) = (c.toNat : Int) - 48 := by
        show ((c.toNat : Int) - 48) % 256 = _
        omega
      have hmb : most ≤ 1000000000 := by
        have : most * 1 ≤ most * u := Int.mul_le_mul_of_nonneg_left hu hm
        omega
      rw [decide_eq_true h, oif_t, hu8, wr (n := (c.toNat : Int) - 48) (by omega) (by omega), wr (n := 10 * t) (by omega) (by omega), ← e, if_neg (by omega), Int.mul_comm 10 t]
      have hd : 0 ≤ dg c ∧ dg c ≤ 9 := by omega
      rw [wr (n := t * 10 + dg c) (by omega) (by omega)]
      have hub : u ≤ 1000000000 ∨ most = 0 := by
        rcases Int.lt_or_eq_of_le hm with h5 | h5
        · left
          have : 1 * u ≤ most * u := Int.mul_le_mul_of_nonneg_right (by omega) (by omega)
          omega
        · right; omega
      rcases hub with hub | hub
      · have k1 : (t * 10 + dg c) * u ≤ (most * 10 + 9) * u := Int.mul_le_mul_of_nonneg_right (by omega) (by omega)
        have k2 : (most * 10 + 9) * u = 10 * (most * u) + 9 * u := by rw [Int.add_mul, Int.mul_comm most 10, Int.mul_assoc]
        have k3 : 0 ≤ (t * 10 + dg c) * u := Int.mul_nonneg (by omega) (by omega)
        rw [wr (n := (t * 10 + dg c) * u) (by omega) (by omega)]
        have key : (t * 10 + dg c) * u > 1000000000 ↔ t * 10 + dg c > most := by
          constructor
          · intro hh
            rcases Int.lt_or_le most (t * 10 + dg c) with h6 | h6
            · exact h6
            · have := Int.mul_le_mul_of_nonneg_right h6 (show 0 ≤ u by omega); omega
          · intro hh
            have := Int.mul_le_mul_of_nonneg_right (show most + 1 ≤ t * 10 + dg c by omega) (show 0 ≤ u by omega)
            rw [Int.add_mul] at this; omega
        by_cases h7 : t * 10 + dg c > most
        · rw [decide_eq_true (key.2 h7), oif_t, if_pos h7]; rfl
        · rw [decide_eq_false (fun hh => h7 (key.1 hh)), oif_f, if_neg h7]
          exact rn_range hu hum hm r (i + 1) _ (by omega) (by omega)
      · rw [hub, Int.zero_mul] at hum; omega
    · have e : dg c ≥ 10 := by unfold dg; rw [if_neg h]; split <;> omega
      rw [decide_eq_false h, oif_f, if_pos e]; rfl

theorem q_isDigit {d : Nat} {c : UInt8} : g251 (d + 1) (c.toNat : Int) = some (decide (48 ≤ c.toNat ∧ c.toNat ≤ 57)) := by
  rw [e251]; simp only [oif_ss]; congr 1; rw [Bool.eq_iff_iff]; simp; omega

theorem last_get {l : List UInt8} {c : UInt8} (h : l.getLast? = some c) : 0 < l.length ∧ l[l.length - 1]? = some c := by
  rw [List.getLast?_eq_getElem?] at h
  exact ⟨by have := (List.getElem?_eq_some_iff.1 h).1; omega, h⟩

theorem bl_init (s : ByteArray) : bl (s.extract 0 (s.size - 1)) = (bl s).dropLast := by
  rw [bl_ext, bl_len, List.drop_zero, Nat.sub_zero, List.dropLast_eq_take]

theorem not_zero {l : List UInt8} {c : UInt8} (h : l.getLast? = some c) (hc : c.toNat ≠ 48) : l ≠ [48] := fun h2 => by
  rw [h2] at h
  simp at h
  rw [← h] at hc; exact hc rfl

theorem bl_last (s : ByteArray) {c : UInt8} (h : (bl s).getLast? = some c) : bl (s.extract (s.size - 1) s.size) = [c] := by
  obtain ⟨h1, h2⟩ := last_get h
  rw [bl_ext, bl_len, List.drop_eq_getElem_cons (show (bl s).length - 1 < (bl s).length by omega), List.drop_eq_nil_of_le (by omega)]
  rw [List.getElem?_eq_getElem (by omega)] at h2
  injection h2 with h2
  rw [h2, show (bl s).length - ((bl s).length - 1) = 1 by omega]; rfl

/-- Hexadecimal texts. -/
def hxB (l : List UInt8) : Bool := decide (l.take 2 = [48, 120])

def nyV (l : List UInt8) : Int := if hxB l then rcV 16 65535 (l.drop 2) else nrV l

theorem nyV_in (l : List UInt8) : -1 ≤ nyV l ∧ nyV l ≤ 1000000000 := by
  unfold nyV
  split
  · have := rcV_in (base := 16) (most := 65535) (by omega) (by omega) (l.drop 2); omega
  · exact nrV_in l

theorem hxB_cons {l : List UInt8} (h : hxB l = true) : ∃ r, l = 48 :: 120 :: r := by
  simp only [hxB, decide_eq_true_eq] at h
  match l, h with
  | a :: b :: r, h =>
    simp only [List.take_succ_cons, List.take_zero, List.cons.injEq, and_true] at h
    exact ⟨r, by rw [h.1, h.2]⟩

theorem hx_two {s : ByteArray} (h : ¬ ((s.size : Nat) : Int) ≥ 2) : hxB (bl s) = false := by
  cases hb : hxB (bl s) with
  | false => rfl
  | true =>
    obtain ⟨r, hr⟩ := hxB_cons hb
    rw [bl_len, hr] at h
    simp at h; omega

theorem hx_ext (s : ByteArray) : ((s.extract 0 2).toList == (⟨#[48, 120]⟩ : ByteArray).toList) = hxB (bl s) := by
  rw [bl_eq, bl_ext, bl_lit [48, 120], List.drop_zero]; rfl

theorem shl_or {n e : Int} (h0 : 0 ≤ n) (h1 : n ≤ 1099511627775) (h2 : 0 ≤ e) (h3 : e < 16) : IntKind.i64.wrap ((BitVec.ofInt IntKind.i64.bits (IntKind.i64.wrap (n * 2 ^ (min (4 : Int).toNat IntKind.i64.bits))) ||| BitVec.ofInt IntKind.i64.bits e).toNat : Int) = n * 16 + e := by
  obtain ⟨n, rfl⟩ := Int.eq_ofNat_of_zero_le h0
  obtain ⟨e, rfl⟩ := Int.eq_ofNat_of_zero_le h2
  have e1 : (2 : Int) ^ (min (4 : Int).toNat IntKind.i64.bits) = 16 := rfl
  rw [e1, wr (n := (n : Int) * 16) (by omega) (by omega)]
  have e2 : (n : Int) * 16 = ((n * 16 : Nat) : Int) := by push_cast; rfl
  rw [e2, BitVec.ofInt_natCast, BitVec.ofInt_natCast, BitVec.toNat_or, BitVec.toNat_ofNat, BitVec.toNat_ofNat]
  have e3 : (2 : Nat) ^ IntKind.i64.bits = 18446744073709551616 := rfl
  rw [e3, Nat.mod_eq_of_lt (by omega), Nat.mod_eq_of_lt (by omega)]
  have e4 := Nat.two_pow_add_eq_or_of_lt (i := 4) (b := e) (by omega) n
  rw [show n * 16 = 2 ^ 4 * n by omega, ← e4, wr (by omega) (by omega)]; omega

theorem q_hexDigit {d : Nat} {c : UInt8} : g248 (d + 2) (c.toNat : Int) = some (if dg c ≥ 16 then -1 else dg c) := by
  have hc := c.toNat_lt
  rw [e248, q_isDigit, ob_s]
  by_cases h : 48 ≤ c.toNat ∧ c.toNat ≤ 57
  · have e : dg c = (c.toNat : Int) - 48 := by unfold dg; rw [if_pos h]
    have hu8 : IntKind.u8.wrap ((c.toNat : Int) - 48) = (c.toNat : Int) - 48 := by
      show ((c.toNat : Int) - 48) % 256 = _
      omega
    rw [decide_eq_true h, oif_t, hu8, wr (by omega) (by omega), if_neg (by omega), e]
  · rw [decide_eq_false h, oif_f]
    by_cases h2 : 97 ≤ c.toNat ∧ c.toNat ≤ 102
    · have e : dg c = (c.toNat : Int) - 87 := by unfold dg; rw [if_neg h, if_pos h2]
      have hu8 : IntKind.u8.wrap ((c.toNat : Int) - 97) = (c.toNat : Int) - 97 := by
        show ((c.toNat : Int) - 97) % 256 = _
        omega
      rw [decide_eq_true (by omega), oif_t, decide_eq_true (by omega), oif_t, hu8, wr (n := (c.toNat : Int) - 97) (by omega) (by omega), wr (by omega) (by omega), if_neg (by omega), e]
      congr 1; omega
    · have e : dg c = 99 := by unfold dg; rw [if_neg h, if_neg h2]
      rw [if_pos (by omega)]
      by_cases h3 : (c.toNat : Int) ≥ 97
      · rw [decide_eq_true h3, oif_t, decide_eq_false (by omega), oif_f]
      · rw [decide_eq_false h3, oif_f]

theorem rh_range : ∀ (l : List UInt8) (i : Nat) (t : Int), 0 ≤ t → t ≤ 65535 →
    rangeR (fun (x : UInt8) _ (t : Int) k => oif (decide ((if dg x ≥ 16 then -1 else dg x) < 0)) (some ((0 : Int), false)) (oif (decide (IntKind.i64.wrap ((BitVec.ofInt IntKind.i64.bits (IntKind.i64.wrap (t * 2 ^ (min (4 : Int).toNat IntKind.i64.bits))) ||| BitVec.ofInt IntKind.i64.bits (if dg x ≥ 16 then -1 else dg x)).toNat : Int) > 65535)) (some (0, false)) (k (IntKind.i64.wrap ((BitVec.ofInt IntKind.i64.bits (IntKind.i64.wrap (t * 2 ^ (min (4 : Int).toNat IntKind.i64.bits))) ||| BitVec.ofInt IntKind.i64.bits (if dg x ≥ 16 then -1 else dg x)).toNat : Int))))) (fun t => some (t, true)) l i t = some (toR (rdL 16 65535 t l))
  | [], i, t, h0, h1 => by
    simp only [rangeR, rdL]; unfold toR; rw [if_neg (by omega)]
  | c :: r, i, t, h0, h1 => by
    simp only [rangeR, rdL]
    have hd := dg_in c
    by_cases h : dg c ≥ 16
    · rw [if_pos h, if_pos h]; rfl
    · rw [if_neg h, if_neg h, decide_eq_false (by omega), oif_f, shl_or h0 (by omega) hd.1 (by omega)]
      by_cases h2 : t * 16 + dg c > 65535
      · rw [decide_eq_true h2, oif_t, if_pos h2]; rfl
      · rw [decide_eq_false h2, oif_f, if_neg h2]
        exact rh_range r (i + 1) _ (by omega) (by omega)

def sgI (x y : Int) : Int := if x < y then -1 else if x > y then 1 else 0

def ctV (a b : List UInt8) : Int × Bool := if nyV a < 0 ∨ nyV b < 0 then (0, false) else (sgI (nyV a) (nyV b), true)

theorem sgI_flip (x y : Int) : sgI y x = 0 - sgI x y := by
  unfold sgI; (repeat' split) <;> omega

/-- A loop that leaves at the first that is not. -/
theorem rangeR_first {α τ β : Type} {p : α → Bool} {no : Nat → τ → Option β} {fin : τ → Option β} : ∀ (l : List α) (i : Nat) (t : τ), (∀ t, fin t = no (i + l.length) t) →
    rangeR (fun x i t k => oif (p x) (k t) (no i t)) fin l i t = no (i + (l.takeWhile p).length) t
  | [], i, t, h => by simp only [rangeR]; rw [h]; rfl
  | x :: r, i, t, h => by
    simp only [rangeR]
    cases hp : p x with
    | false => rw [oif_f]; simp [hp]
    | true =>
      rw [oif_t, rangeR_first r (i + 1) t (fun t => by rw [h t]; congr 1; simp; omega)]
      simp [hp]; congr 1; omega

theorem tw_le {α : Type} {p : α → Bool} (l : List α) : (l.takeWhile p).length ≤ l.length := by
  have := (List.takeWhile_sublist p (l := l)).length_le; exact this

theorem q_scBytes {d : Nat} {n : Int} : g256 (d + 1) n = some (decide (n ≤ 4000)) := e256 d n

/-- Plain bytes. -/
def pl (c : UInt8) : Bool := decide ((32 ≤ c.toNat ∧ c.toNat ≤ 126) ∨ c.toNat = 9 ∨ c.toNat = 10)

theorem pl_if (c : UInt8) : oif (decide ((c.toNat : Int) ≥ 32)) (oif (decide ((c.toNat : Int) ≤ 126)) (some true) (oif ((c.toNat : Int) == 9) (some true) (some ((c.toNat : Int) == 10)))) (oif ((c.toNat : Int) == 9) (some true) (some ((c.toNat : Int) == 10))) = some (pl c) := by
  simp only [oif_ss]; congr 1
  rw [Bool.eq_iff_iff]; unfold pl
  simp only [decide_eq_true_eq, beq_iff_eq]
  (repeat' split) <;> simp <;> omega

theorem q_isPlain {d : Nat} {c : UInt8} : g255 (d + 1) (c.toNat : Int) = some (pl c) := by rw [e255]; exact pl_if c

theorem q_scPlain {d : Nat} {c : UInt8} : g309 (d + 1) (c.toNat : Int) = some (pl c) := by rw [e309]; exact pl_if c

def fbN (s : ByteArray) : Nat := ((bl s).takeWhile pl).length

def fbV (s : ByteArray) : Int × Bool := if s.size ≤ 4000 then ((fbN s : Int), true) else (0, false)

theorem q_FirstBad {d : Nat} {s : ByteArray} : g114 (d + 2) s = some (fbV s) := by
  rw [e114]; unfold fbV
  by_cases h : ((s.size : Nat) : Int) > 4000
  · rw [decide_eq_true h, oif_t, if_neg (by omega)]
  rw [decide_eq_false h, oif_f, if_pos (by omega)]
  have hs : (bl s).length < 4194304 := by rw [bl_len] at h; omega
  refine (range_eq (fun (t : Int × Bool) (i : Int) => (t.1, t.2, i)) (bl s) (fun x i t k => oif (pl x) (k t) (some ((i : Int), true))) (fun t => j114_0 (d + 1) s t.1 t.2) ?_ ?_ (by rw [fuelN_eq]; exact hs) (0, false)).trans ?_
  · intro ag t i x hx
    have hi := (List.getElem?_eq_some_iff.1 hx).1
    simp only [l114_0, l114_0_b, bl_def]
    rw [bl_len]
    simp only [bl_def, ltl hx, nn, ofNat_toNat, hx, ob_s, oif_t, q_isPlain]
    rw [wr1 (by omega)]
    cases pl x <;> rfl
  · intro ag t
    simp only [l114_0, l114_0_b]
    rw [bl_len, ltn, oif_f]
  · rw [rangeR_first (no := fun i _ => some ((i : Int), true)) (bl s) 0 (0, false) (fun t => by unfold j114_0; rw [bl_len, Nat.zero_add])]
    rw [Nat.zero_add]; rfl

theorem q_sFirstBad {d : Nat} {s : ByteArray} : g115 (d + 3) s = some (fbV s) := by
  rw [e115, q_scBytes, ob_s]; unfold fbV
  by_cases h : ((s.size : Nat) : Int) ≤ 4000
  · have hs : (bl s).length < 4194304 := by rw [bl_len] at h; omega
    rw [decide_eq_true h, Bool.not_true, oif_f, if_pos (by omega), e257]
    have key : iterP (l257_0 (d + 1) s (j257_0 (d + 1))) fuelN 0 = some (fbN s : Int) := by
      refine (range_eq (fun (t : Unit) (i : Int) => i) (bl s) (fun x i t k => oif (pl x) (k t) (some (i : Int))) (fun t => some ((s.size : Nat) : Int)) ?_ ?_ (by rw [fuelN_eq]; exact hs) ()).trans ?_
      · intro ag t i x hx
        have hi := (List.getElem?_eq_some_iff.1 hx).1
        simp only [l257_0, l257_0_b, bl_def]
        rw [bl_len]
        simp only [bl_def, ltl hx, nn, ofNat_toNat, hx, ob_s, oif_t, q_scPlain]
        rw [wr1 (by omega)]; rfl
      · intro ag t
        simp only [l257_0, l257_0_b]
        rw [bl_len, ltn, oif_f]; rfl
      · rw [rangeR_first (no := fun i _ => some (i : Int)) (bl s) 0 () (fun t => by rw [bl_len, Nat.zero_add])]
        rw [Nat.zero_add]; rfl
    rw [key, ob_s]
  · rw [decide_eq_false h, if_neg (by omega)]; rfl

theorem tw_take {p : UInt8 → Bool} : ∀ (l : List UInt8), (l.take (l.takeWhile p).length).takeWhile p = l.takeWhile p
  | [] => rfl
  | x :: r => by
    cases h : p x with
    | false => simp [h]
    | true => simp [h, tw_take r]

theorem tw_next {p : UInt8 → Bool} : ∀ (l : List UInt8) {c : UInt8}, l[(l.takeWhile p).length]? = some c → p c = false
  | [], c, h => by simp at h
  | x :: r, c, h => by
    cases hp : p x with
    | false => simp [hp] at h; rw [← h]; exact hp
    | true => simp [hp] at h; exact tw_next r h

/-- Padding. -/
def ipV (l : List Int) (a b : Int) : Bool × Bool := if l.length ≤ 4000 ∧ 0 ≤ a ∧ a ≤ b ∧ b ≤ (l.length : Int) then (((l.take b.toNat).drop a.toNat).all (fun x => x == 0), true) else (false, false)

theorem q_IsPadded2 {d : Nat} {l : List Int} {a b : Int} : g120 (d + 1) l a b = some (ipV l a b) := by
  rw [e120]; unfold ipV j120_1
  by_cases h1 : ((l.length : Nat) : Int) > 4000
  · rw [decide_eq_true h1, oif_t, oif_t, if_neg (by omega)]
  rw [decide_eq_false h1, oif_f]
  by_cases h2 : a < 0
  · rw [decide_eq_true h2, oif_t, oif_t, if_neg (by omega)]
  rw [decide_eq_false h2, oif_f]
  by_cases h3 : a > b
  · rw [decide_eq_true h3, oif_t, oif_t, if_neg (by omega)]
  rw [decide_eq_false h3, oif_f]
  by_cases h4 : b > ((l.length : Nat) : Int)
  · rw [decide_eq_true h4, oif_t, if_neg (by omega)]
  rw [decide_eq_false h4, oif_f, if_pos (by omega), decide_eq_true (show 0 ≤ b by omega), oif_t, decide_eq_true (show 0 ≤ a by omega), oif_t, slice_t (by omega) (by omega)]
  have hlen : ((l.take b.toNat).drop a.toNat).length < 4194304 := by rw [List.length_drop, List.length_take]; omega
  refine (range_eq (fun (t : Bool × Bool) (i : Int) => (t.1, t.2, i)) ((l.take b.toNat).drop a.toNat) (fun x _ t k => oif (x == 0) (k t) (some (false, true))) (fun t => j120_0 d t.1 t.2) ?_ ?_ (by rw [fuelN_eq]; exact hlen) (false, false)).trans ?_
  · intro ag t i x hx
    have hi := (List.getElem?_eq_some_iff.1 hx).1
    simp only [l120_0, l120_0_b, ltl hx, nn, ofNat_toNat, hx, ob_s, oif_t]
    rw [wr1 (by omega)]
    unfold bne
    cases x == 0 <;> rfl
  · intro ag t; simp only [l120_0, l120_0_b, ltn, oif_f]
  · rw [rangeR_all (p := fun x => x == 0)]
    cases ((l.take b.toNat).drop a.toNat).all _ <;> rfl

theorem q_scZero {d : Nat} {l : List Int} (hl : l.length < 4194304) : g259 (d + 1) l = some (l.all fun x => x == 0) := by
  rw [e259]
  refine (range_eq (fun (t : Bool) (i : Int) => (t, i)) l (fun x _ t k => oif (x == 0) (k t) (some false)) (j259_0 d) ?_ ?_ (by rw [fuelN_eq]; exact hl) false).trans ?_
  · intro ag t i x hx; have hi := (List.getElem?_eq_some_iff.1 hx).1; simp only [l259_0, l259_0_b, ltl hx, bltl hx, nn, ofNat_toNat, hx, ob_s, oif_t]; rw [wr1 (by omega)]
    unfold bne
    cases x == 0 <;> rfl
  · intro ag t; simp only [l259_0, l259_0_b, ltn, oif_f]
  · rw [rangeR_all (p := fun x => x == 0)]; cases l.all _ <;> rfl

theorem q_sIsPadded {d : Nat} {l : List Int} {a b : Int} : g121 (d + 2) l a b = some (ipV l a b) := by
  rw [e121, q_scBytes, ob_s]; unfold ipV j121_0
  by_cases h1 : ((l.length : Nat) : Int) ≤ 4000
  · rw [decide_eq_true h1, Bool.not_true, oif_f, q_l1In, ob_s]
    by_cases h2 : 0 ≤ a ∧ a ≤ ((l.length : Nat) : Int)
    · rw [decide_eq_true h2, Bool.not_true, oif_f, q_l1In, ob_s]
      by_cases h3 : a ≤ b ∧ b ≤ ((l.length : Nat) : Int)
      · have hlen : ((l.take b.toNat).drop a.toNat).length < 4194304 := by rw [List.length_drop, List.length_take]; omega
        rw [decide_eq_true h3, Bool.not_true, oif_f, if_pos (by omega), decide_eq_true (show 0 ≤ b by omega), oif_t, decide_eq_true (show 0 ≤ a by omega), oif_t, slice_t (by omega) (by omega), q_scZero hlen, ob_s]
      · rw [decide_eq_false h3, if_neg (by omega)]; rfl
    · rw [decide_eq_false h2, if_neg (by omega)]; rfl
  · rw [decide_eq_false h1, if_neg (by omega)]; rfl

/-- The sum of numbers of two bytes, byte by byte. -/
def ckS (par : Bool) (s b : Int) : Int := csAdd s (if par then b * 256 else b)

def ckB : Bool → Int → List Int → Int
  | _, s, [] => s
  | p, s, b :: r => ckB (!p) (ckS p s b) r

theorem ckB_eq : ∀ (l : List Int) {s : Int}, Bytes l → 0 ≤ s → s ≤ 65535 → ckB true s l = csV s l
  | [], s, _, _, _ => rfl
  | [a], s, h, h0, h1 => by
    simp [ckB, ckS, csV]
  | a :: b :: r, s, h, h0, h1 => by
    have ha := h a (by simp)
    have hb := h b (by simp)
    have e : ckS false (ckS true s a) b = csAdd s (a * 256 + b) := by
      simp only [ckS, if_true, Bool.false_eq_true, if_false, csAdd]
      (repeat' split) <;> omega
    have hin := csAdd_in h0 h1 (show 0 ≤ a * 256 + b by omega) (show a * 256 + b ≤ 65535 by omega)
    simp only [ckB, csV, Bool.not_true, Bool.not_false]
    rw [e]
    exact ckB_eq r (fun x hx => h x (by simp [hx])) hin.1 hin.2

theorem ck_fold {n : Int} (h0 : 0 ≤ n) (h1 : n ≤ 130815) : IntKind.i64.wrap (n.tmod 65536 + IntKind.i64.wrap (n.tdiv 65536)) = if n > 65535 then n - 65535 else n := by
  rw [Int.tmod_eq_emod_of_nonneg h0, Int.tdiv_eq_ediv_of_nonneg h0, wr (n := n / 65536) (by omega) (by omega), wr (by omega) (by omega)]
  split <;> omega

theorem ck_range {β : Type} {fin : Int → Option β} : ∀ (l : List Int) (i : Nat) (p : Bool) (s : Int), Bytes l → 0 ≤ s → s ≤ 65535 → (p = true ↔ i % 2 = 0) →
    rangeR (fun x i t k => oif (((i : Int).tmod 2) == 0) (k (IntKind.i64.wrap ((IntKind.i64.wrap (t + IntKind.i64.wrap (IntKind.i64.wrap x * 256))).tmod 65536 + IntKind.i64.wrap ((IntKind.i64.wrap (t + IntKind.i64.wrap (IntKind.i64.wrap x * 256))).tdiv 65536)))) (k (IntKind.i64.wrap ((IntKind.i64.wrap (t + IntKind.i64.wrap x)).tmod 65536 + IntKind.i64.wrap ((IntKind.i64.wrap (t + IntKind.i64.wrap x)).tdiv 65536))))) fin l i s = fin (ckB p s l)
  | [], i, p, s, _, _, _, _ => rfl
  | b :: r, i, p, s, hb, h0, h1, hp => by
    have hx := hb b (by simp)
    simp only [rangeR, ckB]
    rw [wr (n := b) (by omega) (by omega), wr (n := b * 256) (by omega) (by omega), wr (n := s + b * 256) (by omega) (by omega), wr (n := s + b) (by omega) (by omega), ck_fold (n := s + b * 256) (by omega) (by omega), ck_fold (n := s + b) (by omega) (by omega)]
    have e1 : ((i : Int).tmod 2) = ((i % 2 : Nat) : Int) := rfl
    rw [e1]
    cases p with
    | true =>
      have : i % 2 = 0 := hp.1 rfl
      rw [this, show (((0 : Nat) : Int) == 0) = true from rfl, oif_t]
      have hin := csAdd_in h0 h1 (show 0 ≤ b * 256 by omega) (show b * 256 ≤ 65535 by omega)
      exact ck_range r (i + 1) false (ckS true s b) (fun x hx => hb x (by simp [hx])) hin.1 hin.2 (by simp; omega)
    | false =>
      have : i % 2 = 1 := by
        have : ¬ i % 2 = 0 := fun h => by have := hp.2 h; simp at this
        omega
      rw [this, show (((1 : Nat) : Int) == 0) = false from rfl, oif_f]
      have hin := csAdd_in h0 h1 (show 0 ≤ b by omega) (show b ≤ 65535 by omega)
      exact ck_range r (i + 1) true (ckS false s b) (fun x hx => hb x (by simp [hx])) hin.1 hin.2 (by simp; omega)

theorem q_scSum {d : Nat} {l : List Int} (hb : Bytes l) (hl : l.length < 4194304) : g260 (d + 1) l = some (csV 0 l) := by
  rw [e260]
  refine (range_eq (fun (t : Int) (i : Int) => (t, i)) l (fun x i t k => oif (((i : Int).tmod 2) == 0) (k (IntKind.i64.wrap ((IntKind.i64.wrap (t + IntKind.i64.wrap (IntKind.i64.wrap x * 256))).tmod 65536 + IntKind.i64.wrap ((IntKind.i64.wrap (t + IntKind.i64.wrap (IntKind.i64.wrap x * 256))).tdiv 65536)))) (k (IntKind.i64.wrap ((IntKind.i64.wrap (t + IntKind.i64.wrap x)).tmod 65536 + IntKind.i64.wrap ((IntKind.i64.wrap (t + IntKind.i64.wrap x)).tdiv 65536))))) (j260_0 d) ?_ ?_ (by rw [fuelN_eq]; exact hl) 0).trans ?_
  · intro ag t i x hx
    have hi := (List.getElem?_eq_some_iff.1 hx).1
    simp only [l260_0, l260_0_b, ltl hx, nn, ofNat_toNat, hx, ob_s, oif_t, j260_1]
    rw [wr1 (by omega)]
  · intro ag t; simp only [l260_0, l260_0_b, ltn, oif_f]
  · rw [ck_range l 0 true 0 hb (by omega) (by omega) (by simp), ckB_eq l hb (by omega) (by omega)]; rfl

def ccV (l : List Int) : Int × Bool := if l.length ≤ 4000 then (IntKind.i64.wrap (65535 - csV 0 l), true) else (0, false)

theorem q_ChecksumOf2 {d : Nat} {l : List Int} (hb : Bytes l) : g125 (d + 1) l = some (ccV l) := by
  unfold ccV
  by_cases h : ((l.length : Nat) : Int) ≤ 4000
  · rw [q_ChecksumOf hb h, if_pos (by omega)]
  · rw [e125, decide_eq_true (show ((l.length : Nat) : Int) > 4000 by omega), oif_t, if_neg (by omega)]

theorem q_sChecksumOf {d : Nat} {l : List Int} (hb : Bytes l) : g126 (d + 2) l = some (ccV l) := by
  rw [e126, q_scBytes, ob_s]
  unfold ccV
  by_cases h : ((l.length : Nat) : Int) ≤ 4000
  · rw [decide_eq_true h, Bool.not_true, oif_f, q_scSum hb (by omega), ob_s, if_pos (by omega)]
  · rw [decide_eq_false h, if_neg (by omega)]; rfl

theorem q_scDigit {d : Nat} {c : UInt8} {base : Int} (hb : 0 ≤ base) (hb2 : base ≤ 16) : g307 (d + 1) (c.toNat : Int) base = some (if dg c ≥ base then -1 else dg c) := by
  have hc := c.toNat_lt
  rw [e307]
  unfold j307_1 j307_0
  by_cases h1 : 48 ≤ c.toNat
  · rw [decide_eq_true (show (c.toNat : Int) ≥ 48 by omega), oif_t]
    by_cases h2 : c.toNat ≤ 57
    · have e : dg c = (c.toNat : Int) - 48 := by unfold dg; rw [if_pos ⟨h1, h2⟩]
      have hu8 : IntKind.u8.wrap ((c.toNat : Int) - 48) = (c.toNat : Int) - 48 := by
        show ((c.toNat : Int) - 48) % 256 = _
        omega
      rw [decide_eq_true (show (c.toNat : Int) ≤ 57 by omega), oif_t, hu8, wr (n := (c.toNat : Int) - 48) (by omega) (by omega), oif_ss, e]
      simp only [decide_eq_true_eq]
    · rw [decide_eq_false (show ¬ (c.toNat : Int) ≤ 57 by omega), oif_f]
      by_cases h3 : 97 ≤ c.toNat
      · rw [decide_eq_true (show (c.toNat : Int) ≥ 97 by omega), oif_t]
        by_cases h4 : c.toNat ≤ 102
        · have e : dg c = (c.toNat : Int) - 87 := by unfold dg; rw [if_neg (by omega), if_pos ⟨h3, h4⟩]
          have hu8 : IntKind.u8.wrap ((c.toNat : Int) - 97) = (c.toNat : Int) - 97 := by
            show ((c.toNat : Int) - 97) % 256 = _
            omega
          rw [decide_eq_true (show (c.toNat : Int) ≤ 102 by omega), oif_t, hu8, wr (n := (c.toNat : Int) - 97) (by omega) (by omega), wr (n := (c.toNat : Int) - 97 + 10) (by omega) (by omega), oif_ss, e, show (c.toNat : Int) - 97 + 10 = (c.toNat : Int) - 87 by omega]
          simp only [decide_eq_true_eq]
        · have e : dg c = 99 := by unfold dg; rw [if_neg (by omega), if_neg (by omega)]
          rw [decide_eq_false (show ¬ (c.toNat : Int) ≤ 102 by omega), oif_f, oif_same, if_pos (by omega)]
      · have e : dg c = 99 := by unfold dg; rw [if_neg (by omega), if_neg (by omega)]
        rw [decide_eq_false (show ¬ (c.toNat : Int) ≥ 97 by omega), oif_f, oif_f, oif_same, if_pos (by omega)]
  · have e : dg c = 99 := by unfold dg; rw [if_neg (by omega), if_neg (by omega)]
    rw [decide_eq_false (show ¬ (c.toNat : Int) ≥ 48 by omega), oif_f, oif_f, decide_eq_false (show ¬ (c.toNat : Int) ≥ 97 by omega), oif_f, oif_f, oif_same, if_pos (by omega)]

/-- Runs of digits. -/
def isD (base : Int) (c : UInt8) : Bool := decide (dg c < base)

def rdB (base bound : Int) : Int → List UInt8 → Int
  | n, [] => n
  | n, c :: r => rdB base bound (if n ≤ bound then n * base + dg c else n) r

def rdF (base : Int) : Int → List UInt8 → Int
  | n, [] => n
  | n, c :: r => rdF base (n * base + dg c) r

theorem dgs_if {base : Int} (c : UInt8) : decide ((if dg c ≥ base then -1 else dg c) ≥ 0) = isD base c := by
  have := dg_in c
  unfold isD
  by_cases h : dg c ≥ base
  · rw [if_pos h, decide_eq_false (by omega), decide_eq_false (by omega)]
  · rw [if_neg h, decide_eq_true (by omega), decide_eq_true (by omega)]

theorem rdB_over {base bound : Int} : ∀ (l : List UInt8) {n : Int}, n > bound → rdB base bound n l = n
  | [], n, h => rfl
  | c :: r, n, h => by simp only [rdB]; rw [if_neg (by omega)]; exact rdB_over r h

theorem rdB_rdL {base bound : Int} (hb : 0 ≤ base) : ∀ (l : List UInt8) {n : Int}, (∀ c ∈ l, isD base c = true) → 0 ≤ n → n ≤ bound → (rdB base bound n l > bound ∧ rdL base bound n l = -1) ∨ (rdB base bound n l = rdL base bound n l ∧ 0 ≤ rdL base bound n l ∧ rdL base bound n l ≤ bound)
  | [], n, _, h0, h => .inr ⟨rfl, h0, h⟩
  | c :: r, n, hd, h0, h => by
    have hc := hd c (by simp)
    have hc2 := dg_in c
    simp only [isD, decide_eq_true_eq] at hc
    simp only [rdB, rdL]
    rw [if_pos h, if_neg (by omega)]
    have k0 : 0 ≤ n * base := Int.mul_nonneg h0 hb
    by_cases h2 : n * base + dg c > bound
    · rw [if_pos h2, rdB_over r h2]; exact .inl ⟨h2, rfl⟩
    · rw [if_neg h2]; exact rdB_rdL hb r (fun x hx => hd x (by simp [hx])) (by omega) (by omega)

theorem rdB_rdF {bound : Int} : ∀ (j : Nat) (l : List UInt8) {n : Int}, (∀ c ∈ l, isD 16 c = true) → 0 ≤ n → (n + 1) * 16 ^ l.length ≤ bound + 1 → rdB 16 bound n l = rdF 16 n l ∧ 0 ≤ rdF 16 n l ∧ rdF 16 n l ≤ bound
  | _, [], n, _, h0, h => by
    simp at h
    exact ⟨rfl, h0, by show n ≤ bound; omega⟩
  | j, c :: r, n, hd, h0, h => by
    have hc := hd c (by simp)
    have hc2 := dg_in c
    simp only [isD, decide_eq_true_eq] at hc
    simp only [rdB, rdF]
    have hp : (1 : Int) ≤ 16 ^ r.length := Int.pow_pos (by omega)
    rw [List.length_cons, Int.pow_succ] at h
    have e1 : (n + 1) * (16 ^ r.length * 16) = ((n + 1) * 16) * 16 ^ r.length := by rw [Int.mul_assoc, Int.mul_comm (16 ^ r.length) 16]
    rw [e1] at h
    have k1 : (n * 16 + dg c + 1) * 16 ^ r.length ≤ ((n + 1) * 16) * 16 ^ r.length := Int.mul_le_mul_of_nonneg_right (by omega) (by omega)
    have k2 : ((n + 1) * 16) * 1 ≤ ((n + 1) * 16) * 16 ^ r.length := Int.mul_le_mul_of_nonneg_left hp (by omega)
    rw [if_pos (by omega)]
    exact rdB_rdF j r (fun x hx => hd x (by simp [hx])) (by omega) (by omega)

theorem tw_all {p : UInt8 → Bool} (l : List UInt8) : ∀ c ∈ l.takeWhile p, p c = true := fun c hc => by
  have := List.all_takeWhile (p := p) (l := l)
  rw [List.all_eq_true] at this; exact this c hc

theorem sn_range {base bound : Int} {N : Nat} (hb : 1 ≤ base) (hb2 : base ≤ 16) (hq : bound ≤ 4294967295) : ∀ (l : List UInt8) (i : Nat) (t : Int), i + l.length = N → 0 ≤ t →
    rangeR (fun x i t k => oif (isD base x) (oif (decide (t ≤ bound)) (k (IntKind.i64.wrap (IntKind.i64.wrap (base * t) + (if dg x ≥ base then -1 else dg x)))) (k t)) (some (t, (i : Int)))) (fun t => some (t, (N : Int))) l i t = some (rdB base bound t (l.takeWhile (isD base)), ((i + (l.takeWhile (isD base)).length : Nat) : Int))
  | [], i, t, h, h0 => by
    simp at h; subst h; rfl
  | c :: r, i, t, h, h0 => by
    simp only [rangeR]
    have hd := dg_in c
    cases hp : isD base c with
    | false => rw [oif_f]; simp [hp, rdB]
    | true =>
      have hlt : dg c < base := by simpa [isD] using hp
      rw [oif_t, if_neg (by omega)]
      simp only [List.length_cons] at h
      simp only [List.takeWhile_cons, hp, if_true, rdB, List.length_cons]
      by_cases hle : t ≤ bound
      · have k1 : 0 ≤ base * t := Int.mul_nonneg (by omega) h0
        have k2 : base * t ≤ 16 * t := Int.mul_le_mul_of_nonneg_right hb2 h0
        rw [decide_eq_true hle, oif_t, if_pos hle, wr (n := base * t) (by omega) (by omega), wr (n := base * t + dg c) (by omega) (by omega), Int.mul_comm base t]
        rw [Int.mul_comm base t] at k1
        rw [sn_range hb hb2 hq r (i + 1) _ (by omega) (by omega)]
        congr 3; omega
      · rw [decide_eq_false hle, oif_f, if_neg hle, sn_range hb hb2 hq r (i + 1) _ (by omega) h0]
        congr 3; omega

theorem q_scNumber {d : Nat} {s : ByteArray} {n : Nat} {base bound : Int} (hn : n ≤ s.size) (hs : s.size < 4194304) (hb : 1 ≤ base) (hb2 : base ≤ 16) (hq : bound ≤ 4294967295) : g308 (d + 2) s (n : Int) base bound = some (rdB base bound 0 (((bl s).drop n).takeWhile (isD base)), ((n + (((bl s).drop n).takeWhile (isD base)).length : Nat) : Int)) := by
  rw [e308]
  have hs2 := hs; have hn2 := hn
  rw [bl_len] at hs2 hn2
  refine (range_from (fun (t : Int) (i : Int) => (i, t)) (bl s) (fun x i t k => oif (isD base x) (oif (decide (t ≤ bound)) (k (IntKind.i64.wrap (IntKind.i64.wrap (base * t) + (if dg x ≥ base then -1 else dg x)))) (k t)) (some (t, (i : Int)))) (fun t => some (t, (((bl s).length : Nat) : Int))) ?_ ?_ fuelN n 0 (by rw [fuelN_eq]; omega) hn2).trans (sn_range hb hb2 hq _ n 0 (by rw [List.length_drop]; omega) (Int.le_refl 0))
  · intro ag t i x hx
    have hi := (List.getElem?_eq_some_iff.1 hx).1
    simp only [l308_0, l308_0_b, bl_def]
    rw [bl_len]
    simp only [bl_def, ltl hx, nn, ofNat_toNat, hx, ob_s, oif_t, q_scDigit (show 0 ≤ base by omega) hb2, j308_1, dgs_if]
    rw [wr1 (by omega)]; rfl
  · intro ag t
    simp only [l308_0, l308_0_b]
    rw [bl_len, ltn, oif_f]; rfl

/-- Decimal numbers in a text. -/
def dcW (s : ByteArray) (n : Nat) : List UInt8 := ((bl s).drop n).takeWhile (isD 10)

def dcOk (w : List UInt8) : Bool := decide (w ≠ [] ∧ ¬ (w.head? = some 48 ∧ 1 < w.length) ∧ rdL 10 1000000000 0 w ≠ -1)

def dcV (s : ByteArray) (a : Int) : Int × Int × Bool := if (decide (s.size ≤ 4000 ∧ 0 ≤ a ∧ a ≤ (s.size : Int)) && dcOk (dcW s a.toNat)) then (rdL 10 1000000000 0 (dcW s a.toNat), a + ((dcW s a.toNat).length : Int), true) else (0, 0, false)

theorem isD10 (c : UInt8) : decide (48 ≤ c.toNat ∧ c.toNat ≤ 57) = isD 10 c := by
  unfold isD dg
  by_cases h : 48 ≤ c.toNat ∧ c.toNat ≤ 57
  · rw [decide_eq_true h, if_pos h, decide_eq_true (by omega)]
  · rw [decide_eq_false h, if_neg h, decide_eq_false (by split <;> omega)]

def dmR (z : Bool) (n i : Nat) (v : Int) (k : Nat) : Int × Int × Bool := if (z && decide (i + k > n + 1)) || decide (v = -1) then (0, 0, false) else (v, ((i + k : Nat) : Int), true)

theorem dmR_end {z : Bool} {n i : Nat} {t : Int} (h2 : z = true → i ≤ n + 1) (h0 : 0 ≤ t) : dmR z n i t 0 = (t, (i : Int), true) := by
  unfold dmR
  rw [decide_eq_false (show ¬ t = -1 by omega), Bool.or_false]
  cases z with
  | false => rfl
  | true =>
    have := h2 rfl
    rw [decide_eq_false (show ¬ (i + 0 > n + 1) by omega)]; rfl

theorem dm_range {z : Bool} {n N : Nat} : ∀ (l : List UInt8) (i : Nat) (t : Int), i + l.length = N → n ≤ i → (z = true → i ≤ n + 1) → 0 ≤ t → t ≤ 1000000000 →
    rangeR (fun (x : UInt8) i (t : Int) k => oif (isD 10 x) (oif (z && decide ((i : Int) > (n : Int))) (some ((0 : Int), (0 : Int), false)) (oif (decide (IntKind.i64.wrap (IntKind.i64.wrap (10 * t) + IntKind.i64.wrap (IntKind.u8.wrap ((x.toNat : Int) - 48))) > 1000000000)) (some (0, 0, false)) (k (IntKind.i64.wrap (IntKind.i64.wrap (10 * t) + IntKind.i64.wrap (IntKind.u8.wrap ((x.toNat : Int) - 48))))))) (some (t, (i : Int), true))) (fun t => some (t, (N : Int), true)) l i t
      = some (dmR z n i (rdL 10 1000000000 t (l.takeWhile (isD 10))) (l.takeWhile (isD 10)).length)
  | [], i, t, h, h1, h2, h0, h3 => by
    simp at h; subst h
    show some (t, (i : Int), true) = some (dmR z n i t 0)
    rw [dmR_end h2 h0]
  | c :: r, i, t, h, h1, h2, h0, h3 => by
    simp only [rangeR]
    simp only [List.length_cons] at h
    have hc2 := c.toNat_lt
    cases hp : isD 10 c with
    | false =>
      rw [oif_f, List.takeWhile_cons, hp]
      show some (t, (i : Int), true) = some (dmR z n i t 0)
      rw [dmR_end h2 h0]
    | true =>
      have hdc : 48 ≤ c.toNat ∧ c.toNat ≤ 57 := by rw [← isD10] at hp; simpa using hp
      have hlt : dg c < 10 := by simpa [isD] using hp
      have e : dg c = (c.toNat : Int) - 48 := by unfold dg; rw [if_pos hdc]
      have hu8 : IntKind.u8.wrap ((c.toNat : Int) - 48) = (c.toNat : Int) - 48 := by
        show ((c.toNat : Int) - 48) % 256 = _
        omega
      have hd := dg_in c
      have hw : (c :: r).takeWhile (isD 10) = c :: r.takeWhile (isD 10) := by rw [List.takeWhile_cons, hp]; rfl
      have hv : rdL 10 1000000000 t (c :: r.takeWhile (isD 10)) = if t * 10 + dg c > 1000000000 then -1 else rdL 10 1000000000 (t * 10 + dg c) (r.takeWhile (isD 10)) := by
        simp only [rdL]; rw [if_neg (by omega)]
      rw [oif_t, hu8, wr (n := (c.toNat : Int) - 48) (by omega) (by omega), wr (n := 10 * t) (by omega) (by omega), ← e, Int.mul_comm 10 t, wr (n := t * 10 + dg c) (by omega) (by omega), hw, hv, List.length_cons]
      by_cases hz : (z && decide ((i : Int) > (n : Int))) = true
      · rw [hz, oif_t]
        simp only [Bool.and_eq_true, decide_eq_true_eq] at hz
        unfold dmR
        rw [hz.1, decide_eq_true (show i + ((r.takeWhile (isD 10)).length + 1) > n + 1 by omega)]; rfl
      · have hz' : (z && decide ((i : Int) > (n : Int))) = false := by simpa using hz
        rw [hz', oif_f]
        by_cases hov : t * 10 + dg c > 1000000000
        · rw [decide_eq_true hov, oif_t, if_pos hov]
          unfold dmR
          rw [decide_eq_true (show (-1 : Int) = -1 from rfl), Bool.or_true]; rfl
        · rw [decide_eq_false hov, oif_f, if_neg hov, dm_range r (i + 1) _ (by omega) (by omega) (fun hzt => by
            rw [hzt, Bool.true_and, decide_eq_false_iff_not] at hz'; omega) (by omega) (by omega)]
          unfold dmR
          rw [show i + 1 + (r.takeWhile (isD 10)).length = i + ((r.takeWhile (isD 10)).length + 1) by omega]

theorem drop_head {l : List UInt8} {n : Nat} (h : n < l.length) {p : UInt8 → Bool} (hp : p l[n] = true) : ∃ r, (l.drop n).takeWhile p = l[n] :: r := by
  rw [List.drop_eq_getElem_cons h, List.takeWhile_cons, hp]; exact ⟨_, rfl⟩

theorem drop_none {l : List UInt8} {n : Nat} (h : n < l.length) {p : UInt8 → Bool} (hp : p l[n] = false) : (l.drop n).takeWhile p = [] := by
  rw [List.drop_eq_getElem_cons h, List.takeWhile_cons, hp]; rfl

theorem q_DecimalAt {d : Nat} {s : ByteArray} {a : Int} : g108 (d + 2) s a = some (dcV s a) := by
  rw [e108]
  unfold j108_3
  have bad : ¬ (s.size ≤ 4000 ∧ 0 ≤ a ∧ a ≤ (s.size : Int)) → dcV s a = (0, 0, false) := fun h => by unfold dcV; rw [decide_eq_false h]; rfl
  by_cases h1 : ((s.size : Nat) : Int) > 4000
  · rw [decide_eq_true h1, oif_t, oif_t, bad (by omega)]
  rw [decide_eq_false h1, oif_f]
  by_cases h2 : a < 0
  · rw [decide_eq_true h2, oif_t, oif_t, bad (by omega)]
  rw [decide_eq_false h2, oif_f]
  obtain ⟨n, rfl⟩ := Int.eq_ofNat_of_zero_le (show 0 ≤ a by omega)
  have bad2 : dcOk (dcW s n) = false → dcV s n = (0, 0, false) := fun h => by unfold dcV; rw [ofNat_toNat, h, Bool.and_false]; rfl
  by_cases h3 : (n : Int) ≥ ((s.size : Nat) : Int)
  · have hw : dcW s n = [] := by
      unfold dcW
      rw [List.drop_eq_nil_of_le (by rw [← bl_len]; omega)]; rfl
    rw [decide_eq_true h3, oif_t, oif_t, bad2 (by rw [hw]; rfl)]
  rw [decide_eq_false h3, oif_f, nn, oif_t, ofNat_toNat]
  have hlt : n < (bl s).length := by rw [← bl_len]; omega
  rw [bl_def, List.getElem?_eq_getElem hlt, ob_s, q_isDigit, ob_s, isD10]
  cases hp : isD 10 (bl s)[n] with
  | false =>
    have hw : dcW s n = [] := drop_none hlt hp
    rw [bad2 (by rw [hw]; rfl)]; rfl
  | true =>
    obtain ⟨r, hw⟩ := drop_head hlt hp
    rw [Bool.not_true, oif_f]
    have hs2 : (bl s).length < 4194304 := by rw [← bl_len]; omega
    refine (range_from (fun (t : Int) (i : Int) => ((0 : Int), (0 : Int), false, i, t)) (bl s) (fun (x : UInt8) i (t : Int) k => oif (isD 10 x) (oif (decide ((bl s)[n].toNat = 48) && decide ((i : Int) > (n : Int))) (some ((0 : Int), (0 : Int), false)) (oif (decide (IntKind.i64.wrap (IntKind.i64.wrap (10 * t) + IntKind.i64.wrap (IntKind.u8.wrap ((x.toNat : Int) - 48))) > 1000000000)) (some (0, 0, false)) (k (IntKind.i64.wrap (IntKind.i64.wrap (10 * t) + IntKind.i64.wrap (IntKind.u8.wrap ((x.toNat : Int) - 48))))))) (some (t, (i : Int), true))) (fun t => some (t, (((bl s).length : Nat) : Int), true)) ?_ ?_ fuelN n 0 (by rw [fuelN_eq]; omega) (by omega)).trans ((dm_range (N := (bl s).length) ((bl s).drop n) n 0 (by rw [List.length_drop]; omega) (Nat.le_refl _) (fun _ => by omega) (Int.le_refl 0) (by omega)).trans ?_)
    · intro ag t i x hx
      have hi := (List.getElem?_eq_some_iff.1 hx).1
      simp only [l108_0, l108_0_b, bl_def]
      rw [bl_len]
      simp only [bl_def, ltl hx, nn, ofNat_toNat, hx, ob_s, oif_t, q_isDigit, isD10, j108_2, List.getElem?_eq_getElem hlt, j108_1]
      rw [wr1 (by omega)]
      cases isD 10 x with
      | false => rfl
      | true =>
        by_cases hz : (bl s)[n].toNat = 48
        · have hz2 : (((bl s)[n].toNat : Int) == 48) = true := by rw [hz]; rfl
          rw [hz2, decide_eq_true hz, Bool.true_and]; rfl
        · have hz2 : (((bl s)[n].toNat : Int) == 48) = false := by simp; omega
          rw [hz2, decide_eq_false hz, Bool.false_and]; rfl
    · intro ag t
      simp only [l108_0, l108_0_b]
      rw [bl_len, ltn, oif_f]; rfl
    · have hwd : ((bl s).drop n).takeWhile (isD 10) = dcW s n := rfl
      rw [hwd]
      unfold dmR
      change dcW s n = _ at hw
      unfold dcV
      rw [ofNat_toNat, decide_eq_true (show s.size ≤ 4000 ∧ 0 ≤ (n : Int) ∧ (n : Int) ≤ (s.size : Int) by omega), Bool.true_and]
      have hh : dcOk (dcW s n) = !((decide ((bl s)[n].toNat = 48) && decide (n + (dcW s n).length > n + 1)) || decide (rdL 10 1000000000 0 (dcW s n) = -1)) := by
        unfold dcOk
        rw [Bool.eq_iff_iff]
        have hne : dcW s n ≠ [] := by rw [hw]; simp
        have h48 : (dcW s n).head? = some 48 ↔ (bl s)[n].toNat = 48 := by
          rw [hw]
          simp only [List.head?_cons, Option.some.injEq]
          rw [← UInt8.toNat_inj]; rfl
        simp only [decide_eq_true_eq, Bool.not_eq_true', Bool.or_eq_false_iff, Bool.and_eq_false_iff, decide_eq_false_iff_not]
        rw [h48]
        constructor
        · rintro ⟨_, k1, k2⟩
          refine ⟨?_, k2⟩
          by_cases k3 : (bl s)[n].toNat = 48
          · exact .inr (fun k4 => k1 ⟨k3, by omega⟩)
          · exact .inl k3
        · rintro ⟨k1, k2⟩
          refine ⟨hne, fun k3 => ?_, k2⟩
          rcases k1 with k1 | k1
          · exact k1 k3.1
          · exact k1 (by omega)
      rw [hh]
      cases ((decide ((bl s)[n].toNat = 48) && decide (n + (dcW s n).length > n + 1)) || decide (rdL 10 1000000000 0 (dcW s n) = -1)) with
      | true => rfl
      | false => simp only [Bool.not_false, if_true, Bool.false_eq_true, if_false]; congr 2

theorem q_scIndex {d : Nat} {s : ByteArray} {a : Int} : g252 (d + 2) s a = some (decide (s.size ≤ 4000 ∧ 0 ≤ a ∧ a ≤ (s.size : Int))) := by
  rw [e252, q_scBytes, ob_s]
  by_cases h : ((s.size : Nat) : Int) ≤ 4000
  · rw [decide_eq_true h, oif_t, q_l1In, ob_s]; congr 1
    rw [Bool.eq_iff_iff, decide_eq_true_eq, decide_eq_true_eq]; omega
  · rw [decide_eq_false h, oif_f, decide_eq_false (by omega)]

theorem tw_cons {l : List UInt8} {n : Nat} {p : UInt8 → Bool} (h : (l.drop n).takeWhile p ≠ []) : ∃ (hn : n < l.length) (r : List UInt8), (l.drop n).takeWhile p = l[n] :: r := by
  rcases Nat.lt_or_ge n l.length with hn | hn
  · cases hp : p l[n] with
    | true => obtain ⟨r, hr⟩ := drop_head hn hp; exact ⟨hn, r, hr⟩
    | false => exact absurd (drop_none hn hp) h
  · rw [List.drop_eq_nil_of_le hn] at h; simp at h

theorem q_sDecimalAt {d : Nat} {s : ByteArray} {a : Int} : g109 (d + 4) s a = some (dcV s a) := by
  rw [e109, q_scIndex, ob_s]
  by_cases h : s.size ≤ 4000 ∧ 0 ≤ a ∧ a ≤ (s.size : Int)
  · rw [decide_eq_true h, Bool.not_true, oif_f, e253]
    obtain ⟨n, rfl⟩ := Int.eq_ofNat_of_zero_le h.2.1
    have hn : n ≤ s.size := by omega
    rw [q_scNumber hn (by omega) (by omega) (by omega) (by omega), ob_s]
    unfold dcV
    rw [decide_eq_true h, Bool.true_and, ofNat_toNat]
    have hwd : ((bl s).drop n).takeWhile (isD 10) = dcW s n := rfl
    rw [hwd]
    by_cases hw : dcW s n = []
    · have hk : dcOk (dcW s n) = false := by rw [hw]; rfl
      rw [hk, hw]
      simp only [List.length_nil, Nat.add_zero, beq_self_eq_true, oif_t, ob_s, Bool.false_eq_true, if_false]; rfl
    · obtain ⟨hlt, r, hr⟩ := tw_cons (l := bl s) (n := n) (p := isD 10) hw
      change dcW s n = _ at hr
      have hlen : 0 < (dcW s n).length := by rw [hr]; simp
      have h48 : (dcW s n).head? = some 48 ↔ (bl s)[n].toNat = 48 := by
        rw [hr]
        simp only [List.head?_cons, Option.some.injEq]
        rw [← UInt8.toNat_inj]; rfl
      rw [show ((((n + (dcW s n).length : Nat) : Int)) == (n : Int)) = false by simp; omega, oif_f, nn, oif_t, bl_def, List.getElem?_eq_getElem hlt, ob_s, wr1 (by omega)]
      simp only
      have hin := rdB_rdL (base := 10) (bound := 1000000000) (by omega) (dcW s n) (n := 0) (tw_all _) (by omega) (by omega)
      have hge := rdL_in (base := 10) (most := 1000000000) (by omega) (dcW s n) (n := 0) (by omega) (by omega)
      have fin : obind (oif (decide (rdB 10 1000000000 0 (dcW s n) > 1000000000)) (some ((0 : Int), (-1 : Int))) (some (rdB 10 1000000000 0 (dcW s n), ((n + (dcW s n).length : Nat) : Int)))) (fun r4 => oif (decide (r4.2 < 0)) (some ((0 : Int), (0 : Int), false)) (some (r4.1, r4.2, true))) = some (if rdL 10 1000000000 0 (dcW s n) ≠ -1 then (rdL 10 1000000000 0 (dcW s n), (n : Int) + ((dcW s n).length : Int), true) else (0, 0, false)) := by
        rcases hin with ⟨k1, k2⟩ | ⟨k1, k5, k2⟩
        · rw [decide_eq_true k1, oif_t, k2]; rfl
        · rw [k1, decide_eq_false (by omega), oif_f, ob_s]
          rcases hge with k3 | k3
          · omega
          · rw [if_pos (by omega)]
            simp only
            rw [decide_eq_false (by omega), oif_f]; congr 2
      by_cases hz : (bl s)[n].toNat = 48
      · have hz2 : (((bl s)[n].toNat : Int) == 48) = true := by rw [hz]; rfl
        rw [hz2, oif_t]
        by_cases hk : 1 < (dcW s n).length
        · have hko : dcOk (dcW s n) = false := by unfold dcOk; rw [decide_eq_false (fun hh => hh.2.1 ⟨h48.2 hz, hk⟩)]
          rw [decide_eq_true (by omega), oif_t, hko]; rfl
        · rw [decide_eq_false (by omega), oif_f, fin]
          have hko : dcOk (dcW s n) = decide (rdL 10 1000000000 0 (dcW s n) ≠ -1) := by
            unfold dcOk
            rw [Bool.eq_iff_iff, decide_eq_true_eq, decide_eq_true_eq]
            exact ⟨fun hh => hh.2.2, fun hh => ⟨hw, fun h6 => hk h6.2, hh⟩⟩
          rw [hko]; simp only [decide_eq_true_eq]
      · have hz2 : (((bl s)[n].toNat : Int) == 48) = false := by simp; omega
        rw [hz2, oif_f, fin]
        have hko : dcOk (dcW s n) = decide (rdL 10 1000000000 0 (dcW s n) ≠ -1) := by
          unfold dcOk
          rw [Bool.eq_iff_iff, decide_eq_true_eq, decide_eq_true_eq]
          exact ⟨fun hh => hh.2.2, fun hh => ⟨hw, fun h6 => hz (h48.1 h6.1), hh⟩⟩
        rw [hko]; simp only [decide_eq_true_eq]
  · rw [decide_eq_false h]; unfold dcV; rw [decide_eq_false h]; rfl

theorem dcV_in {s : ByteArray} {a : Int} (h : (dcV s a).2.2 = true) : (dcV s a).2.1 > a ∧ (dcV s a).1 ≥ 0 := by
  unfold dcV at h ⊢
  cases hc : (decide (s.size ≤ 4000 ∧ 0 ≤ a ∧ a ≤ (s.size : Int)) && dcOk (dcW s a.toNat)) with
  | false => rw [hc] at h; simp at h
  | true =>
    simp only [Bool.and_eq_true, dcOk, decide_eq_true_eq] at hc
    have hge := rdL_in (base := 10) (most := 1000000000) (by omega) (dcW s a.toNat) (n := 0) (by omega) (by omega)
    have hlen : 0 < (dcW s a.toNat).length := List.length_pos_iff.2 hc.2.1
    simp only [if_true]
    rcases hge with k | k
    · exact absurd k hc.2.2.2
    · omega

/-- Hexadecimal numbers in a text. -/
def hxW (s : ByteArray) (n : Nat) : List UInt8 := ((bl s).drop (n + 2)).takeWhile (isD 16)

def hxO (s : ByteArray) (a : Int) : Bool := decide (s.size ≤ 4000 ∧ 0 ≤ a ∧ a + 2 ≤ (s.size : Int)) && (decide (((bl s).drop a.toNat).take 2 = [48, 120]) && decide (1 ≤ (hxW s a.toNat).length ∧ (hxW s a.toNat).length ≤ 8))

def hxV (s : ByteArray) (a : Int) : Int × Int × Bool := if hxO s a then (rdF 16 0 (hxW s a.toNat), a + 2 + ((hxW s a.toNat).length : Int), true) else (0, 0, false)

def hmR (n i : Nat) (v : Int) (k : Nat) : Int × Int × Bool := if i + k > n + 10 ∨ i + k = n + 2 then (0, 0, false) else (v, ((i + k : Nat) : Int), true)

theorem hm_end {n i : Nat} {t : Int} (h : i ≤ n + 10) : oif ((i : Int) == ((n + 2 : Nat) : Int)) (some ((0 : Int), (0 : Int), false)) (some (t, (i : Int), true)) = some (hmR n i t 0) := by
  unfold hmR
  by_cases h2 : i = n + 2
  · rw [show ((i : Int) == ((n + 2 : Nat) : Int)) = true by rw [h2]; simp, oif_t, if_pos (by omega)]
  · rw [show ((i : Int) == ((n + 2 : Nat) : Int)) = false by simp; omega, oif_f, if_neg (by omega)]; rfl

theorem hm_range {n N : Nat} : ∀ (l : List UInt8) (i r : Nat) (t : Int), i + l.length = N → i + r = n + 10 → 0 ≤ t → (t + 1) * 16 ^ r ≤ 4294967296 →
    rangeR (fun (x : UInt8) i (t : Int) k => oif (isD 16 x) (oif ((i : Int) == ((n + 10 : Nat) : Int)) (some ((0 : Int), (0 : Int), false)) (k (IntKind.i64.wrap ((BitVec.ofInt IntKind.i64.bits (IntKind.i64.wrap (t * 2 ^ (min (4 : Int).toNat IntKind.i64.bits))) ||| BitVec.ofInt IntKind.i64.bits (if dg x ≥ 16 then -1 else dg x)).toNat : Int)))) (oif ((i : Int) == ((n + 2 : Nat) : Int)) (some (0, 0, false)) (some (t, (i : Int), true)))) (fun t => oif ((N : Int) == ((n + 2 : Nat) : Int)) (some (0, 0, false)) (some (t, (N : Int), true))) l i t
      = some (hmR n i (rdF 16 t (l.takeWhile (isD 16))) (l.takeWhile (isD 16)).length)
  | [], i, r, t, h, h1, h0, h2 => by
    simp at h; subst h
    exact hm_end (by omega)
  | c :: l, i, r, t, h, h1, h0, h2 => by
    simp only [rangeR]
    simp only [List.length_cons] at h
    have hd := dg_in c
    cases hp : isD 16 c with
    | false =>
      rw [oif_f, List.takeWhile_cons, hp]
      exact hm_end (by omega)
    | true =>
      have hlt : dg c < 16 := by simpa [isD] using hp
      have hw : (c :: l).takeWhile (isD 16) = c :: l.takeWhile (isD 16) := by rw [List.takeWhile_cons, hp]; rfl
      rw [oif_t, hw, List.length_cons]
      simp only [rdF]
      cases r with
      | zero =>
        rw [show ((i : Int) == ((n + 10 : Nat) : Int)) = true by simp; omega, oif_t]
        unfold hmR
        rw [if_pos (by omega)]
      | succ r =>
        have hp1 : (1 : Int) ≤ 16 ^ (r + 1) := Int.pow_pos (by omega)
        have k0 : (t + 1) * 1 ≤ (t + 1) * 16 ^ (r + 1) := Int.mul_le_mul_of_nonneg_left hp1 (by omega)
        rw [show ((i : Int) == ((n + 10 : Nat) : Int)) = false by simp; omega, oif_f, if_neg (by omega), shl_or h0 (by omega) hd.1 hlt]
        have hp2 : (1 : Int) ≤ 16 ^ r := Int.pow_pos (by omega)
        have e1 : (t + 1) * 16 ^ (r + 1) = ((t + 1) * 16) * 16 ^ r := by rw [Int.pow_succ, Int.mul_assoc, Int.mul_comm (16 ^ r) 16]
        have k1 : (t * 16 + dg c + 1) * 16 ^ r ≤ ((t + 1) * 16) * 16 ^ r := Int.mul_le_mul_of_nonneg_right (by omega) (by omega)
        rw [hm_range l (i + 1) r _ (by omega) (by omega) (by omega) (by omega)]
        unfold hmR
        rw [show i + 1 + (l.takeWhile (isD 16)).length = i + ((l.takeWhile (isD 16)).length + 1) by omega]

theorem take2 {l : List UInt8} {n : Nat} (h : n + 1 < l.length) : (l.drop n).take 2 = [l[n], l[n + 1]] := by
  rw [List.drop_eq_getElem_cons (show n < l.length by omega), List.drop_eq_getElem_cons h]; rfl

theorem q_HexAt {d : Nat} {s : ByteArray} {a : Int} : g111 (d + 3) s a = some (hxV s a) := by
  rw [e111]
  unfold j111_2
  have bad : hxO s a = false → hxV s a = (0, 0, false) := fun h => by unfold hxV; rw [h]; rfl
  by_cases h1 : ((s.size : Nat) : Int) > 4000
  · rw [decide_eq_true h1, oif_t, oif_t, bad (by unfold hxO; rw [decide_eq_false (by omega)]; rfl)]
  rw [decide_eq_false h1, oif_f]
  by_cases h2 : a < 0
  · rw [decide_eq_true h2, oif_t, oif_t, bad (by unfold hxO; rw [decide_eq_false (by omega)]; rfl)]
  rw [decide_eq_false h2, oif_f, wr (n := ((s.size : Nat) : Int) - 3) (by omega) (by omega)]
  obtain ⟨n, rfl⟩ := Int.eq_ofNat_of_zero_le (show 0 ≤ a by omega)
  by_cases h3 : (n : Int) > ((s.size : Nat) : Int) - 3
  · rw [decide_eq_true h3, oif_t, oif_t, bad ?_]
    unfold hxO
    by_cases h4 : (n : Int) + 2 ≤ (s.size : Int)
    · have : hxW s n = [] := by
        unfold hxW
        rw [List.drop_eq_nil_of_le (by rw [← bl_len]; omega)]; rfl
      rw [ofNat_toNat, this, decide_eq_false (p := 1 ≤ ([] : List UInt8).length ∧ ([] : List UInt8).length ≤ 8) (by simp), Bool.and_false, Bool.and_false]
    · rw [decide_eq_false (by omega)]; rfl
  rw [decide_eq_false h3, oif_f, nn, oif_t, ofNat_toNat, wr1 (by omega), nn, oif_t, ofNat_toNat]
  have hlt : n + 1 < (bl s).length := by rw [← bl_len]; omega
  rw [bl_def, List.getElem?_eq_getElem (show n < (bl s).length by omega), ob_s, List.getElem?_eq_getElem hlt, ob_s]
  have hO : hxO s n = (decide ((bl s)[n].toNat = 48 ∧ (bl s)[n + 1].toNat = 120) && decide (1 ≤ (hxW s n).length ∧ (hxW s n).length ≤ 8)) := by
    unfold hxO
    rw [decide_eq_true (show s.size ≤ 4000 ∧ 0 ≤ (n : Int) ∧ (n : Int) + 2 ≤ (s.size : Int) by omega), Bool.true_and, ofNat_toNat, take2 hlt]
    congr 1
    rw [Bool.eq_iff_iff, decide_eq_true_eq, decide_eq_true_eq]
    simp only [List.cons.injEq, and_true]
    rw [← UInt8.toNat_inj, ← UInt8.toNat_inj]; rfl
  by_cases h5 : (bl s)[n].toNat = 48
  · rw [show (((bl s)[n].toNat : Int) != 48) = false by rw [h5]; rfl, oif_f]
    by_cases h6 : (bl s)[n + 1].toNat = 120
    · rw [show (((bl s)[n + 1].toNat : Int) != 120) = false by rw [h6]; rfl, oif_f]
      rw [wr (n := (n : Int) + 2) (by omega) (by omega), show (n : Int) + 2 = ((n + 2 : Nat) : Int) by omega]
      have hs2 : (bl s).length < 4194304 := by rw [← bl_len]; omega
      refine (range_from (fun (t : Int) (i : Int) => ((0 : Int), (0 : Int), false, i, t)) (bl s) (fun (x : UInt8) i (t : Int) k => oif (isD 16 x) (oif ((i : Int) == ((n + 10 : Nat) : Int)) (some ((0 : Int), (0 : Int), false)) (k (IntKind.i64.wrap ((BitVec.ofInt IntKind.i64.bits (IntKind.i64.wrap (t * 2 ^ (min (4 : Int).toNat IntKind.i64.bits))) ||| BitVec.ofInt IntKind.i64.bits (if dg x ≥ 16 then -1 else dg x)).toNat : Int)))) (oif ((i : Int) == ((n + 2 : Nat) : Int)) (some (0, 0, false)) (some (t, (i : Int), true)))) (fun t => oif ((((bl s).length : Nat) : Int) == ((n + 2 : Nat) : Int)) (some (0, 0, false)) (some (t, (((bl s).length : Nat) : Int), true))) ?_ ?_ fuelN (n + 2) 0 (by rw [fuelN_eq]; omega) (by omega)).trans ((hm_range (N := (bl s).length) ((bl s).drop (n + 2)) (n + 2) 8 0 (by rw [List.length_drop]; omega) (by omega) (Int.le_refl 0) (by decide)).trans ?_)
      · intro ag t i x hx
        have hi := (List.getElem?_eq_some_iff.1 hx).1
        simp only [l111_0, l111_0_b, bl_def]
        rw [bl_len]
        simp only [bl_def, ltl hx, nn, ofNat_toNat, hx, ob_s, oif_t, q_hexDigit, j111_1, j111_0, dgs_if]
        rw [wr1 (by omega), wr (n := (n : Int) + 10) (by omega) (by omega), show (n : Int) + 10 = ((n + 10 : Nat) : Int) by omega, wr (n := (n : Int) + 2) (by omega) (by omega), show (n : Int) + 2 = ((n + 2 : Nat) : Int) by omega]
      · intro ag t
        simp only [l111_0, l111_0_b]
        rw [bl_len, ltn, oif_f]
        unfold j111_1 j111_0
        rw [wr (n := (n : Int) + 2) (by omega) (by omega), show (n : Int) + 2 = ((n + 2 : Nat) : Int) by omega]; rfl
      · have hwd : ((bl s).drop (n + 2)).takeWhile (isD 16) = hxW s n := rfl
        rw [hwd]
        unfold hmR hxV
        rw [hO, decide_eq_true ⟨h5, h6⟩, Bool.true_and, ofNat_toNat]
        by_cases h7 : 1 ≤ (hxW s n).length ∧ (hxW s n).length ≤ 8
        · rw [if_neg (by omega), decide_eq_true h7]
          simp only [if_true]
          congr 3
        · rw [if_pos (by omega), decide_eq_false h7]; rfl
    · rw [show (((bl s)[n + 1].toNat : Int) != 120) = true by simp; omega, bad (by rw [hO, decide_eq_false (by omega)]; rfl)]; rfl
  · rw [show (((bl s)[n].toNat : Int) != 48) = true by simp; omega, oif_t, bad (by rw [hO, decide_eq_false (by omega)]; rfl)]

theorem q_sHexAt {d : Nat} {s : ByteArray} {a : Int} : g112 (d + 4) s a = some (hxV s a) := by
  rw [e112, q_scIndex, ob_s]
  have bad : hxO s a = false → hxV s a = (0, 0, false) := fun h => by unfold hxV; rw [h]; rfl
  by_cases h : s.size ≤ 4000 ∧ 0 ≤ a ∧ a ≤ (s.size : Int)
  · rw [decide_eq_true h, Bool.not_true, oif_f, e254]
    unfold j254_0
    obtain ⟨n, rfl⟩ := Int.eq_ofNat_of_zero_le h.2.1
    rw [wr (n := (n : Int) + 2) (by omega) (by omega)]
    by_cases h3 : (n : Int) + 2 > ((s.size : Nat) : Int)
    · rw [decide_eq_true h3, oif_t, oif_t, ob_s, bad (by unfold hxO; rw [decide_eq_false (by omega)]; rfl)]; rfl
    · have e2 : (n : Int) + 2 = ((n + 2 : Nat) : Int) := by omega
      rw [decide_eq_false h3, oif_f, e2, nn, oif_t, nn, oif_t, ofNat_toNat, ofNat_toNat, slice_t (by omega) (by omega), bl_eq, bl_ext, bl_lit [48, 120], show n + 2 - n = 2 by omega]
      by_cases h4 : ((bl s).drop n).take 2 = [48, 120]
      · rw [decide_eq_true h4, Bool.not_true, oif_f, q_scNumber (by omega) (by omega) (by omega) (by omega) (by omega), ob_s]
        have hwd : ((bl s).drop (n + 2)).takeWhile (isD 16) = hxW s n := rfl
        rw [hwd]
        have hle : (hxW s n).length ≤ s.size := by
          unfold hxW
          have := tw_le (p := isD 16) ((bl s).drop (n + 2))
          rw [List.length_drop] at this; rw [bl_len]; omega
        have e3 : IntKind.i64.wrap (IntKind.i64.wrap (((n + 2 + (hxW s n).length : Nat) : Int) - (n : Int)) - 2) = ((hxW s n).length : Int) := by
          rw [wr (n := ((n + 2 + (hxW s n).length : Nat) : Int) - (n : Int)) (by omega) (by omega), wr (by omega) (by omega)]; omega
        simp only
        rw [e3, q_l1In, ob_s]
        unfold hxV hxO
        rw [ofNat_toNat, decide_eq_true (show s.size ≤ 4000 ∧ 0 ≤ (n : Int) ∧ (n : Int) + 2 ≤ (s.size : Int) by omega), decide_eq_true h4, Bool.true_and, Bool.true_and]
        by_cases h7 : 1 ≤ (hxW s n).length ∧ (hxW s n).length ≤ 8
        · have hb : (0 + 1) * (16 : Int) ^ (hxW s n).length ≤ 4294967295 + 1 := by
            rcases (show (hxW s n).length = 1 ∨ (hxW s n).length = 2 ∨ (hxW s n).length = 3 ∨ (hxW s n).length = 4 ∨ (hxW s n).length = 5 ∨ (hxW s n).length = 6 ∨ (hxW s n).length = 7 ∨ (hxW s n).length = 8 by omega) with h8 | h8 | h8 | h8 | h8 | h8 | h8 | h8 <;> rw [h8] <;> decide
          have hv := rdB_rdF (bound := 4294967295) 0 (hxW s n) (n := 0) (tw_all _) (by omega) hb
          rw [decide_eq_true h7, decide_eq_true (by omega), Bool.not_true, oif_f, ob_s, hv.1]
          simp only [if_true]
          rw [decide_eq_false (by omega), oif_f]; congr 3
        · rw [decide_eq_false h7, decide_eq_false (by omega)]; rfl
      · rw [decide_eq_false h4, bad (by unfold hxO; rw [ofNat_toNat, decide_eq_false h4, Bool.false_and, Bool.and_false])]; rfl
  · rw [decide_eq_false h, bad (by unfold hxO; rw [decide_eq_false (by omega)]; rfl)]; rfl

/-- Hexadecimal digits. -/
def hdg (k : Nat) : UInt8 := if k < 10 then UInt8.ofNat (48 + k) else UInt8.ofNat (87 + k)

def hxT : List UInt8 := [48, 49, 50, 51, 52, 53, 54, 55, 56, 57, 97, 98, 99, 100, 101, 102]

theorem hxT_get {k : Nat} (h : k < 16) : hxT[k]? = some (hdg k) := by
  rcases (show k = 0 ∨ k = 1 ∨ k = 2 ∨ k = 3 ∨ k = 4 ∨ k = 5 ∨ k = 6 ∨ k = 7 ∨ k = 8 ∨ k = 9 ∨ k = 10 ∨ k = 11 ∨ k = 12 ∨ k = 13 ∨ k = 14 ∨ k = 15 by omega) with rfl | rfl | rfl | rfl | rfl | rfl | rfl | rfl | rfl | rfl | rfl | rfl | rfl | rfl | rfl | rfl <;> rfl

theorem dg_hdg {k : Nat} (h : k < 16) : dg (hdg k) = (k : Int) := by
  rcases (show k = 0 ∨ k = 1 ∨ k = 2 ∨ k = 3 ∨ k = 4 ∨ k = 5 ∨ k = 6 ∨ k = 7 ∨ k = 8 ∨ k = 9 ∨ k = 10 ∨ k = 11 ∨ k = 12 ∨ k = 13 ∨ k = 14 ∨ k = 15 by omega) with rfl | rfl | rfl | rfl | rfl | rfl | rfl | rfl | rfl | rfl | rfl | rfl | rfl | rfl | rfl | rfl <;> rfl

theorem hdg_dg {c : UInt8} (h : dg c < 16) : hdg (dg c).toNat = c := by
  have hc := c.toNat_lt
  rw [← UInt8.toNat_inj]
  unfold dg at h ⊢
  unfold hdg
  by_cases h1 : 48 ≤ c.toNat ∧ c.toNat ≤ 57
  · rw [if_pos h1, if_pos (by omega), UInt8.toNat_ofNat']; omega
  · rw [if_neg h1] at h ⊢
    by_cases h2 : 97 ≤ c.toNat ∧ c.toNat ≤ 102
    · rw [if_pos h2, if_neg (by omega), UInt8.toNat_ofNat']; omega
    · rw [if_neg h2] at h; omega

def hxS : ByteArray := ⟨#[48, 49, 50, 51, 52, 53, 54, 55, 56, 57, 97, 98, 99, 100, 101, 102]⟩

theorem hxS_bl : bl hxS = hxT := rfl

theorem hxS_size : hxS.size = 16 := rfl

theorem hxS_ext {k : Nat} (h : k < 16) : bl (hxS.extract k (k + 1)) = [hdg k] := by
  have hg := hxT_get h
  have hlt : k < hxT.length := h
  rw [bl_ext, hxS_bl, List.drop_eq_getElem_cons hlt, show k + 1 - k = 1 by omega]
  rw [List.getElem?_eq_getElem hlt] at hg
  injection hg with hg
  rw [hg]; rfl

theorem hxS_len {k : Nat} (h : k < 16) : (hxS.extract k (k + 1)).size = 1 := by rw [bl_len, hxS_ext h]; rfl

def ofL (l : List UInt8) : ByteArray := ⟨l.toArray⟩

theorem bl_ofL (l : List UInt8) : bl (ofL l) = l := by simp [bl, ofL]

theorem ofL_bl (s : ByteArray) : ofL (bl s) = s := bl_inj.1 (bl_ofL _)

def toHx : Nat → Nat → List UInt8 → List UInt8
  | 0, n, acc => hdg n :: acc
  | f + 1, n, acc => if n < 16 then hdg n :: acc else toHx f (n / 16) (hdg (n % 16) :: acc)

theorem toHx_len : ∀ (f n : Nat) (acc : List UInt8), 1 + acc.length ≤ (toHx f n acc).length ∧ (toHx f n acc).length ≤ f + 1 + acc.length
  | 0, n, acc => by simp [toHx]; omega
  | f + 1, n, acc => by
    simp only [toHx]
    split
    · simp; omega
    · have := toHx_len f (n / 16) (hdg (n % 16) :: acc)
      simp only [List.length_cons] at this; omega

theorem toHx_val : ∀ (f n : Nat) (acc : List UInt8), n < 16 ^ (f + 1) → rdF 16 0 (toHx f n acc) = rdF 16 (n : Int) acc
  | 0, n, acc, h => by
    simp only [toHx, rdF]
    rw [dg_hdg (by omega)]; congr 1; omega
  | f + 1, n, acc, h => by
    simp only [toHx]
    split
    · next h2 => simp only [rdF]; rw [dg_hdg h2]; congr 1; omega
    · next h2 =>
      rw [Nat.pow_succ] at h
      rw [toHx_val f (n / 16) _ (by omega)]
      simp only [rdF]
      rw [dg_hdg (by omega)]; congr 1; omega

theorem toHx_dig : ∀ (f n : Nat) (acc : List UInt8), n < 16 ^ (f + 1) → (∀ c ∈ acc, isD 16 c = true) → ∀ c ∈ toHx f n acc, isD 16 c = true
  | 0, n, acc, h, ha, c, hc => by
    simp only [toHx, List.mem_cons] at hc
    rcases hc with rfl | hc
    · unfold isD; rw [dg_hdg (by omega), decide_eq_true_eq]; omega
    · exact ha c hc
  | f + 1, n, acc, h, ha, c, hc => by
    simp only [toHx] at hc
    rw [Nat.pow_succ] at h
    split at hc
    · next h2 =>
      simp only [List.mem_cons] at hc
      rcases hc with rfl | hc
      · unfold isD; rw [dg_hdg h2, decide_eq_true_eq]; omega
      · exact ha c hc
    · refine toHx_dig f (n / 16) _ (by omega) (fun x hx => ?_) c hc
      simp only [List.mem_cons] at hx
      rcases hx with rfl | hx
      · unfold isD; rw [dg_hdg (by omega), decide_eq_true_eq]; omega
      · exact ha x hx

def hoL (n : Nat) : List UInt8 := 48 :: 120 :: toHx 7 n []

def hoV (n : Int) : ByteArray × Bool := if 0 ≤ n ∧ n ≤ 4294967295 then (ofL (hoL n.toNat), true) else (⟨#[]⟩, false)

theorem app_bl {a b : ByteArray} {l : List UInt8} (h : bl a ++ bl b = l) : a ++ b = ofL l := bl_inj.1 (by rw [bl_app, bl_ofL]; exact h)

theorem ho_spec {d : Nat} : ∀ (f fuel n : Nat) (s : ByteArray), n < 16 ^ (f + 1) → f < fuel → s.size + f ≤ 100 → n ≤ 4294967295 → iterP (l258_0 d (j258_0 d)) fuel ((n : Int), s) = some (ofL (48 :: 120 :: toHx f n (bl s)))
  | _, 0, _, _, _, h, _, _ => by omega
  | f, fuel + 1, n, s, h, hf, hs, hn => by
    simp only [iterP, l258_0, l258_0_b]
    by_cases h2 : n < 16
    · rw [decide_eq_false (by omega), oif_f]
      unfold j258_0
      change oif _ (oif _ (oif (Nat.ble _ _ && Nat.ble _ hxS.size) (oif (Nat.ble ((⟨#[48, 120]⟩ : ByteArray).size + (hxS.extract _ _).size) _) (oif (Nat.ble (((⟨#[48, 120]⟩ : ByteArray) ++ hxS.extract _ _).size + _) _) (some (((⟨#[48, 120]⟩ : ByteArray) ++ hxS.extract _ _) ++ s)) _) _) _) _) _ = _
      have hz : (⟨#[48, 120]⟩ : ByteArray).size = 2 := rfl
      rw [wr1 (by omega)]
      simp only [ofNat_toNat, nn, oif_t]
      rw [slice_t (by omega) (by rw [hxS_size]; omega), room2 (by rw [hxS_len h2, hz]; omega), room2 (by rw [ByteArray.size_append, hxS_len h2, hz]; omega)]
      congr 1
      refine app_bl ?_
      rw [bl_app, hxS_ext h2, bl_lit [48, 120]]
      cases f with
      | zero => rfl
      | succ f => simp only [toHx]; rw [if_pos h2]; rfl
    · obtain ⟨f, rfl⟩ : ∃ g, f = g + 1 := ⟨f - 1, by
        cases f with
        | zero => simp at h; omega
        | succ f => omega⟩
      rw [Nat.pow_succ] at h
      rw [decide_eq_true (by omega), oif_t]
      change oif _ (oif _ (oif (Nat.ble _ _ && Nat.ble _ hxS.size) (oif (Nat.ble ((hxS.extract _ _).size + _) _) (iterP _ fuel (_, hxS.extract _ _ ++ s)) _) _) _) _ = _
      have e1 : ((n : Int)).tmod 16 = ((n % 16 : Nat) : Int) := rfl
      have e2 : ((n : Int)).tdiv 16 = ((n / 16 : Nat) : Int) := rfl
      rw [e1, e2, wr1 (by omega), wr (n := ((n / 16 : Nat) : Int)) (by omega) (by omega)]
      simp only [ofNat_toNat, nn, oif_t]
      have h3 : n % 16 < 16 := Nat.mod_lt _ (by omega)
      rw [slice_t (by omega) (by rw [hxS_size]; omega), room2 (by rw [hxS_len h3]; omega)]
      rw [ho_spec f fuel (n / 16) _ (by omega) (by omega) (by rw [ByteArray.size_append, hxS_len h3]; omega) (by omega), bl_app, hxS_ext h3]
      simp only [toHx]; rw [if_neg h2]; rfl

theorem q_sHexOf {d : Nat} {n : Int} : g118 (d + 2) n = some (hoV n) := by
  rw [e118, q_l1In, ob_s]
  unfold hoV
  by_cases h : 0 ≤ n ∧ n ≤ 4294967295
  · obtain ⟨m, rfl⟩ := Int.eq_ofNat_of_zero_le h.1
    rw [decide_eq_true h, Bool.not_true, oif_f, if_pos h, e258, ho_spec 7 fuelN m _ (by omega) (by rw [fuelN_eq]; omega) (by decide) (by omega), ob_s]
    have : bl (⟨#[]⟩ : ByteArray) = [] := rfl
    rw [this]; rfl
  · rw [decide_eq_false h, if_neg h]; rfl

theorem and15 {n : Nat} (h : n ≤ 4294967295) : IntKind.i64.wrap ((BitVec.ofInt IntKind.i64.bits (n : Int) &&& BitVec.ofInt IntKind.i64.bits 15).toNat : Int) = ((n % 16 : Nat) : Int) := by
  have hb : IntKind.i64.bits = 64 := rfl
  have e1 : (BitVec.ofInt IntKind.i64.bits (n : Int)).toNat = n := by
    rw [hb, BitVec.toNat_ofInt]; omega
  have e2 : (BitVec.ofInt IntKind.i64.bits 15).toNat = 2 ^ 4 - 1 := by decide
  rw [BitVec.toNat_and, e1, e2, Nat.and_two_pow_sub_one_eq_mod, wr (by omega) (by omega)]

theorem ho_impl {d : Nat} : ∀ (f fuel n : Nat) (s : ByteArray), n < 16 ^ (f + 1) → f + 1 < fuel → s.size + f ≤ 100 → n ≤ 4294967295 → (1 ≤ n ∨ bl s = []) → iterP (l117_0 d (j117_0 d)) fuel ((n : Int), s) = some (ofL (48 :: 120 :: toHx f n (bl s)), true)
  | _, 0, _, _, _, h, _, _, _ => by omega
  | f, fuel + 1, n, s, h, hf, hs, hn, hc => by
    simp only [iterP, l117_0, l117_0_b]
    have h3 : n % 16 < 16 := Nat.mod_lt _ (by omega)
    have step : ∀ b, j117_1 d (j117_0 d) (iterP (l117_0 d (j117_0 d)) fuel) (n : Int) s b true = iterP (l117_0 d (j117_0 d)) fuel (((n / 16 : Nat) : Int), hxS.extract (n % 16) (n % 16 + 1) ++ s) := by
      intro b
      unfold j117_1
      rw [oif_t, and15 hn]
      have e2 : ((n : Int)).fdiv (2 ^ (min (4 : Int).toNat IntKind.i64.bits)) = ((n / 16 : Nat) : Int) := by
        have : (2 : Int) ^ (min (4 : Int).toNat IntKind.i64.bits) = 16 := rfl
        rw [this, Int.fdiv_eq_ediv_of_nonneg _ (by omega)]; rfl
      rw [e2, wr1 (by omega)]
      change oif _ (oif _ (oif (Nat.ble _ _ && Nat.ble _ hxS.size) (oif (Nat.ble ((hxS.extract _ _).size + _) _) (iterP _ fuel (_, hxS.extract _ _ ++ s)) _) _) _) _ = _
      simp only [ofNat_toNat, nn, oif_t]
      rw [slice_t (by omega) (by rw [hxS_size]; omega), room2 (by rw [hxS_len h3]; omega)]
    have go : (oif (decide ((n : Int) > 0)) (j117_1 d (j117_0 d) (iterP (l117_0 d (j117_0 d)) fuel) (n : Int) s true true) (j117_1 d (j117_0 d) (iterP (l117_0 d (j117_0 d)) fuel) (n : Int) s false (s.toList == (⟨#[]⟩ : ByteArray).toList))) = iterP (l117_0 d (j117_0 d)) fuel (((n / 16 : Nat) : Int), hxS.extract (n % 16) (n % 16 + 1) ++ s) := by
      by_cases h0 : (n : Int) > 0
      · rw [decide_eq_true h0, oif_t, step]
      · rcases hc with hc | hc
        · omega
        · rw [decide_eq_false h0, oif_f, bl_eq, bl_lit [], hc, decide_eq_true rfl, step]
    rw [go]
    have hbl : bl (hxS.extract (n % 16) (n % 16 + 1) ++ s) = hdg (n % 16) :: bl s := by rw [bl_app, hxS_ext h3]; rfl
    by_cases h2 : n < 16
    · obtain ⟨fuel, rfl⟩ : ∃ g, fuel = g + 1 := ⟨fuel - 1, by omega⟩
      rw [show n / 16 = 0 by omega]
      simp only [iterP, l117_0, l117_0_b]
      rw [decide_eq_false (by omega), oif_f, bl_eq, bl_lit [], hbl, decide_eq_false (by simp)]
      unfold j117_1
      rw [oif_f]
      unfold j117_0
      have hz : (⟨#[48, 120]⟩ : ByteArray).size = 2 := rfl
      rw [room2 (by rw [ByteArray.size_append, hxS_len h3, hz]; omega)]
      congr 2
      refine app_bl ?_
      rw [bl_lit [48, 120], hbl, show n % 16 = n by omega]
      cases f with
      | zero => rfl
      | succ f => simp only [toHx]; rw [if_pos h2]; rfl
    · obtain ⟨f, rfl⟩ : ∃ g, f = g + 1 := ⟨f - 1, by
        cases f with
        | zero => simp at h; omega
        | succ f => omega⟩
      rw [Nat.pow_succ] at h
      rw [ho_impl f fuel (n / 16) _ (by omega) (by omega) (by rw [ByteArray.size_append, hxS_len h3]; omega) (by omega) (.inl (by omega)), hbl]
      simp only [toHx]; rw [if_neg h2]

theorem q_HexOf {d : Nat} {n : Int} : g117 (d + 1) n = some (hoV n) := by
  rw [e117]
  unfold hoV j117_2
  by_cases h1 : n < 0
  · rw [decide_eq_true h1, oif_t, oif_t, if_neg (by omega)]
  · rw [decide_eq_false h1, oif_f]
    by_cases h2 : n > 4294967295
    · rw [decide_eq_true h2, oif_t, if_neg (by omega)]
    · obtain ⟨m, rfl⟩ := Int.eq_ofNat_of_zero_le (show 0 ≤ n by omega)
      have hb : bl (⟨#[]⟩ : ByteArray) = [] := rfl
      rw [decide_eq_false h2, oif_f, if_pos (by omega), ho_impl 7 fuelN m _ (by omega) (by rw [fuelN_eq]; omega) (by decide) (by omega) (.inr hb), hb]; rfl

theorem tw_self {p : UInt8 → Bool} : ∀ {l : List UInt8}, (∀ c ∈ l, p c = true) → l.takeWhile p = l
  | [], _ => rfl
  | c :: r, h => by rw [List.takeWhile_cons, h c (by simp)]; simp only [if_true]; rw [tw_self (fun x hx => h x (by simp [hx]))]

theorem ho_back {n : Nat} (h : n ≤ 4294967295) : hxV (ofL (hoL n)) 0 = ((n : Int), ((ofL (hoL n)).size : Int), true) := by
  have hlen := toHx_len 7 n []
  have hsz : (ofL (hoL n)).size = 2 + (toHx 7 n []).length := by rw [bl_len, bl_ofL]; simp [hoL]; omega
  simp only [List.length_nil] at hlen
  have hw : hxW (ofL (hoL n)) 0 = toHx 7 n [] := by
    unfold hxW
    rw [bl_ofL]
    show ((hoL n).drop 2).takeWhile (isD 16) = _
    exact tw_self (toHx_dig 7 n [] (by omega) (by simp))
  unfold hxV hxO
  rw [show (0 : Int).toNat = 0 from rfl, hw, bl_ofL, decide_eq_true (show (ofL (hoL n)).size ≤ 4000 ∧ (0 : Int) ≤ 0 ∧ (0 : Int) + 2 ≤ ((ofL (hoL n)).size : Int) by omega), decide_eq_true (show ((hoL n).drop 0).take 2 = [48, 120] from rfl), decide_eq_true (show 1 ≤ (toHx 7 n []).length ∧ (toHx 7 n []).length ≤ 8 by omega), toHx_val 7 n [] (by omega), hsz]
  simp only [Bool.and_self, if_true, rdF]
  congr 2

/-- Bytes and their texts. -/
def btL : List Int → List UInt8
  | [] => []
  | n :: r => hdg (n.toNat / 16) :: hdg (n.toNat % 16) :: btL r

def pbL : List UInt8 → Option (List Int)
  | [] => some []
  | [_] => none
  | a :: b :: r => if dg a < 16 ∧ dg b < 16 then (pbL r).map fun l => (dg a * 16 + dg b) :: l else none

def pbR (t : List Int) : Option (List Int) → List Int × Bool
  | some l => (t ++ l, true)
  | none => ([], false)

theorem pbR_snoc {t : List Int} {v : Int} : ∀ o : Option (List Int), pbR (t ++ [v]) o = pbR t (o.map fun l => v :: l)
  | none => rfl
  | some l => by simp [pbR]

theorem pbL_in : ∀ (l : List UInt8) {b : List Int}, pbL l = some b → Bytes b ∧ 2 * b.length = l.length ∧ btL b = l
  | [], b, h => by
    simp only [pbL, Option.some.injEq] at h; subst h
    exact ⟨fun x hx => by simp at hx, rfl, rfl⟩
  | [_], b, h => by simp [pbL] at h
  | x :: y :: r, b, h => by
    simp only [pbL] at h
    by_cases hd : dg x < 16 ∧ dg y < 16
    · rw [if_pos hd] at h
      cases hr : pbL r with
      | none => rw [hr] at h; simp at h
      | some l =>
        rw [hr] at h
        simp only [Option.map_some, Option.some.injEq] at h
        obtain ⟨k1, k2, k3⟩ := pbL_in r hr
        have d1 := dg_in x
        have d2 := dg_in y
        subst h
        refine ⟨fun z hz => ?_, by simp; omega, ?_⟩
        · simp only [List.mem_cons] at hz
          rcases hz with rfl | hz
          · omega
          · exact k1 z hz
        · simp only [btL]
          have e1 : (dg x * 16 + dg y).toNat / 16 = (dg x).toNat := by omega
          have e2 : (dg x * 16 + dg y).toNat % 16 = (dg y).toNat := by omega
          rw [e1, e2, hdg_dg hd.1, hdg_dg hd.2, k3]
    · rw [if_neg hd] at h; simp at h

theorem pb_loop {F : ((List Int × Bool × List Int × Int) → Option (List Int × Bool)) → (List Int × Bool × List Int × Int) → Option (List Int × Bool)} {L : List UInt8}
    (h1 : ∀ ag t (i : Nat) a b, L[i]? = some a → L[i + 1]? = some b → t.length ≤ 10000 → F ag ([], false, t, (i : Int)) = oif (decide (dg a < 16 ∧ dg b < 16)) (ag ([], false, t ++ [dg a * 16 + dg b], ((i + 2 : Nat) : Int))) (some ([], false)))
    (h2 : ∀ ag t, F ag ([], false, t, (L.length : Int)) = some (t, true)) :
    ∀ (r : List UInt8) (fuel i : Nat) (t : List Int), L.drop i = r → r.length % 2 = 0 → i ≤ L.length → r.length < fuel → t.length + r.length ≤ 9000 → iterP F fuel ([], false, t, (i : Int)) = some (pbR t (pbL r))
  | _, 0, _, _, _, _, _, h, _ => by omega
  | [], fuel + 1, i, t, hd, _, hi, _, _ => by
    have : i = L.length := by
      have := List.drop_eq_nil_iff.1 hd; omega
    subst this
    simp only [iterP]
    rw [h2]; simp [pbR, pbL]
  | [x], fuel + 1, i, t, _, hp, _, _, _ => by simp at hp
  | a :: b :: r, fuel + 1, i, t, hd, hp, hi, hf, ht => by
    have hlt : i + 1 < L.length := by
      have := congrArg List.length hd
      rw [List.length_drop] at this
      simp only [List.length_cons] at this; omega
    have e1 := List.drop_eq_getElem_cons (show i < L.length by omega)
    have e2 := List.drop_eq_getElem_cons hlt
    rw [hd] at e1
    rw [e2] at e1
    injection e1 with e3 e1
    injection e1 with e4 e1
    simp only [List.length_cons] at hp hf ht
    simp only [iterP]
    rw [h1 _ t i a b (by rw [List.getElem?_eq_getElem (by omega), e3]) (by rw [List.getElem?_eq_getElem hlt, e4]) (by omega)]
    simp only [pbL]
    by_cases hdg : dg a < 16 ∧ dg b < 16
    · rw [decide_eq_true hdg, oif_t, if_pos hdg, pb_loop h1 h2 r fuel (i + 2) _ e1.symm (by omega) (by omega) (by omega) (by rw [List.length_append]; simp; omega), pbR_snoc]
    · rw [decide_eq_false hdg, oif_f, if_neg hdg]; rfl

def pbV (s : ByteArray) : List Int × Bool := if s.size ≤ 8000 ∧ s.size % 2 = 0 then pbR [] (pbL (bl s)) else ([], false)

theorem hx2 (c : UInt8) : decide ((if dg c ≥ 16 then -1 else dg c) < 0) = !decide (dg c < 16) := by
  have := dg_in c
  by_cases h : dg c ≥ 16
  · rw [if_pos h, decide_eq_true (by omega), decide_eq_false (by omega)]; rfl
  · rw [if_neg h, decide_eq_false (by omega), decide_eq_true (by omega)]; rfl

theorem or4 {h l : Int} (h0 : 0 ≤ h) (h1 : h < 16) (h2 : 0 ≤ l) (h3 : l < 16) : IntKind.u8.wrap (IntKind.i64.wrap ((BitVec.ofInt IntKind.i64.bits (IntKind.i64.wrap (h * 2 ^ (min (4 : Int).toNat IntKind.i64.bits))) ||| BitVec.ofInt IntKind.i64.bits l).toNat : Int)) = h * 16 + l := by
  rw [shl_or h0 (by omega) h2 h3]
  show (h * 16 + l) % 256 = _
  omega

theorem q_ParseBytes {d : Nat} {s : ByteArray} : g105 (d + 3) s = some (pbV s) := by
  rw [e105]
  unfold pbV j105_2
  have e1 : ((s.size : Int)).tmod 2 = ((s.size % 2 : Nat) : Int) := rfl
  have e2 : ((s.size : Int)).tdiv 2 = ((s.size / 2 : Nat) : Int) := rfl
  by_cases h1 : ((s.size : Nat) : Int) > 8000
  · rw [decide_eq_true h1, oif_t, oif_t, if_neg (by omega)]
  rw [decide_eq_false h1, oif_f, e1, e2]
  by_cases h2 : s.size % 2 = 0
  · rw [h2, show (((0 : Nat) : Int) != 0) = false from rfl, oif_f, wr (n := ((s.size / 2 : Nat) : Int)) (by omega) (by omega), nn, oif_t, if_pos (by omega), ofNat_toNat]
    have hr : (Nat.ble 0 (s.size / 2) && Nat.ble (s.size / 2 * 1) roomMax) = true := by
      rw [Bool.and_eq_true, Nat.ble_eq, Nat.ble_eq]; unfold roomMax; omega
    rw [hr, oif_t]
    have hs := bl_len s
    refine pb_loop (F := l105_0 (d + 2) s (j105_0 (d + 2))) (L := bl s) ?_ ?_ (bl s) fuelN 0 [] (by simp) (by omega) (by omega) (by rw [fuelN_eq]; omega) (by simp; omega)
    · intro ag t i a b ha hb ht
      have hi := (List.getElem?_eq_some_iff.1 hb).1
      simp only [l105_0, l105_0_b, bl_def]
      rw [bl_len]
      rw [wr1 (by omega)]
      simp only [bl_def, ltl ha, nn, ofNat_toNat, ha, hb, ob_s, oif_t, q_hexDigit, hx2]
      unfold j105_1
      have da := dg_in a
      have db := dg_in b
      by_cases k1 : dg a < 16
      · rw [decide_eq_true k1, Bool.not_true, oif_f]
        by_cases k2 : dg b < 16
        · rw [decide_eq_true k2, decide_eq_true (show dg a < 16 ∧ dg b < 16 from ⟨k1, k2⟩), Bool.not_true, oif_f, oif_t, if_neg (show ¬ dg a ≥ 16 by omega), if_neg (show ¬ dg b ≥ 16 by omega), or4 da.1 k1 db.1 k2, room (by simp; omega), oif_t, wr (n := (i : Int) + 2) (by omega) (by omega)]; rfl
        · rw [decide_eq_false k2, decide_eq_false (show ¬ (dg a < 16 ∧ dg b < 16) from fun h => k2 h.2), Bool.not_false, oif_t, oif_f]
      · rw [decide_eq_false k1, decide_eq_false (show ¬ (dg a < 16 ∧ dg b < 16) from fun h => k1 h.1), Bool.not_false, oif_t, oif_t, oif_f]
    · intro ag t
      simp only [l105_0, l105_0_b]
      rw [bl_len, ltn, oif_f]; rfl
  · have h3 : s.size % 2 = 1 := by omega
    rw [h3, show (((1 : Nat) : Int) != 0) = true from rfl, oif_t, if_neg (by omega)]

theorem q_sParseBytes {d : Nat} {s : ByteArray} (hs0 : s.size < 1000000) : g106 (d + 3) s = some (pbV s) := by
  rw [e106, e249]
  unfold pbV j249_2
  have e1 : ((s.size : Int)).tmod 2 = ((s.size % 2 : Nat) : Int) := rfl
  have e2 : ((s.size : Int)).tdiv 2 = ((s.size / 2 : Nat) : Int) := rfl
  rw [e1, e2, wr (n := ((s.size / 2 : Nat) : Int)) (by omega) (by omega), q_scBytes]
  by_cases h2 : s.size % 2 = 0
  · rw [h2, show (((0 : Nat) : Int) != 0) = false from rfl, oif_f, ob_s]
    by_cases h1 : ((s.size / 2 : Nat) : Int) ≤ 4000
    · rw [decide_eq_true h1, Bool.not_true, oif_f, if_pos (by omega)]
      have hs := bl_len s
      have key := pb_loop (F := l249_0 (d + 1) s (j249_0 (d + 1))) (L := bl s) ?_ ?_ (bl s) fuelN 0 [] (by simp) (by omega) (by omega) (by rw [fuelN_eq]; omega) (by simp; omega)
      · rw [show ((0 : Nat) : Int) = 0 from rfl] at key
        rw [key, ob_s]
      · intro ag t i a b ha hb ht
        have hi := (List.getElem?_eq_some_iff.1 hb).1
        simp only [l249_0, l249_0_b, bl_def]
        rw [bl_len]
        rw [wr1 (by omega)]
        simp only [bl_def, ltl ha, nn, ofNat_toNat, ha, hb, ob_s, oif_t, q_scDigit (show (0 : Int) ≤ 16 by omega) (Int.le_refl 16), hx2]
        unfold j249_1
        have da := dg_in a
        have db := dg_in b
        by_cases k1 : dg a < 16
        · rw [decide_eq_true k1, Bool.not_true, oif_f]
          by_cases k2 : dg b < 16
          · have hu8 : IntKind.u8.wrap (dg a * 16 + dg b) = dg a * 16 + dg b := by
              show (dg a * 16 + dg b) % 256 = _
              omega
            rw [decide_eq_true k2, decide_eq_true (show dg a < 16 ∧ dg b < 16 from ⟨k1, k2⟩), Bool.not_true, oif_f, oif_t, if_neg (show ¬ dg a ≥ 16 by omega), if_neg (show ¬ dg b ≥ 16 by omega), wr (n := 16 * dg a) (by omega) (by omega), wr (n := 16 * dg a + dg b) (by omega) (by omega), Int.mul_comm 16 (dg a), hu8, room (by simp; omega), oif_t, wr (n := (i : Int) + 2) (by omega) (by omega)]; rfl
          · rw [decide_eq_false k2, decide_eq_false (show ¬ (dg a < 16 ∧ dg b < 16) from fun h => k2 h.2), Bool.not_false, oif_t, oif_f]
        · rw [decide_eq_false k1, decide_eq_false (show ¬ (dg a < 16 ∧ dg b < 16) from fun h => k1 h.1), Bool.not_false, oif_t, oif_t, oif_f]
      · intro ag t
        simp only [l249_0, l249_0_b]
        rw [bl_len, ltn, oif_f]; rfl
    · rw [decide_eq_false h1, Bool.not_false, oif_t, ob_s, if_neg (by omega)]
  · have h3 : s.size % 2 = 1 := by omega
    rw [h3, show (((1 : Nat) : Int) != 0) = true from rfl, oif_t, oif_t, ob_s, if_neg (by omega)]

theorem bt_len : ∀ l : List Int, (btL l).length = 2 * l.length
  | [] => rfl
  | n :: r => by simp only [btL, List.length_cons, bt_len r]; omega

def u8I (c : UInt8) : Int := (c.toNat : Int)

theorem strL_back (l : List UInt8) : bl (strL (l.map u8I)) = l := by
  simp only [bl, strL, List.map_map]
  have : ((fun n : Int => UInt8.ofNat n.toNat) ∘ u8I) = id := by
    funext c; simp [u8I]
  rw [this, List.map_id]

theorem bt_range {β : Type} {fin : List Int → Option β} : ∀ (l : List Int) (i : Nat) (t : List Int), Bytes l → t.length + 2 * l.length ≤ 10000 →
    rangeR (fun (x : Int) _ (t : List Int) k => oif (Nat.ble ((t.length + [u8I (hdg (x.toNat / 16)), u8I (hdg (x.toNat % 16))].length) * 1) roomMax) (k (t ++ [u8I (hdg (x.toNat / 16)), u8I (hdg (x.toNat % 16))])) none) fin l i t = fin (t ++ (btL l).map u8I)
  | [], i, t, _, _ => by simp [rangeR, btL]
  | x :: r, i, t, hb, h => by
    simp only [rangeR]
    simp only [List.length_cons] at h
    rw [room (by simp; omega), oif_t, bt_range r (i + 1) _ (fun y hy => hb y (by simp [hy])) (by rw [List.length_append]; simp; omega)]
    simp [btL]

theorem q_BytesText {d : Nat} {l : List Int} (hb : Bytes l) (hl : l.length ≤ 4000) : g123 (d + 1) l = some (ofL (btL l), true) := by
  rw [e123, decide_eq_false (show ¬ ((l.length : Nat) : Int) > 4000 by omega), oif_f, wr (n := 2 * ((l.length : Nat) : Int)) (by omega) (by omega), decide_eq_true (by omega), oif_t]
  have hr : (Nat.ble 0 (2 * ((l.length : Nat) : Int)).toNat && Nat.ble ((2 * ((l.length : Nat) : Int)).toNat * 1) roomMax) = true := by
    rw [Bool.and_eq_true, Nat.ble_eq, Nat.ble_eq]; unfold roomMax; omega
  rw [hr, oif_t]
  refine (range_eq (fun (t : List Int) (i : Int) => (t, i)) l (fun (x : Int) _ (t : List Int) k => oif (Nat.ble ((t.length + [u8I (hdg (x.toNat / 16)), u8I (hdg (x.toNat % 16))].length) * 1) roomMax) (k (t ++ [u8I (hdg (x.toNat / 16)), u8I (hdg (x.toNat % 16))])) none) (j123_0 d) ?_ ?_ (by rw [fuelN_eq]; omega) _).trans ?_
  · intro ag t i x hx
    have hi := (List.getElem?_eq_some_iff.1 hx).1
    obtain ⟨b0, b1⟩ := hb x (List.mem_of_getElem? hx)
    obtain ⟨n, rfl⟩ := Int.eq_ofNat_of_zero_le b0
    simp only [l123_0, l123_0_b, ltl hx, nn, ofNat_toNat, hx, ob_s, oif_t]
    have e1 : ((n : Int)).fdiv (2 ^ (min (4 : Int).toNat IntKind.u8.bits)) = ((n / 16 : Nat) : Int) := by
      have : (2 : Int) ^ (min (4 : Int).toNat IntKind.u8.bits) = 16 := rfl
      rw [this, Int.fdiv_eq_ediv_of_nonneg _ (by omega)]; rfl
    have e2 : IntKind.u8.wrap ((BitVec.ofInt IntKind.u8.bits (n : Int) &&& BitVec.ofInt IntKind.u8.bits 15).toNat : Int) = ((n % 16 : Nat) : Int) := by
      have hb8 : IntKind.u8.bits = 8 := rfl
      have k1 : (BitVec.ofInt IntKind.u8.bits (n : Int)).toNat = n := by
        rw [hb8, BitVec.toNat_ofInt]; omega
      have k2 : (BitVec.ofInt IntKind.u8.bits 15).toNat = 2 ^ 4 - 1 := by decide
      rw [BitVec.toNat_and, k1, k2, Nat.and_two_pow_sub_one_eq_mod]
      show ((n % 16 : Nat) : Int) % 256 = _
      omega
    rw [e1, e2]
    change oif (decide (0 ≤ ((n / 16 : Nat) : Int))) (obind ((bl hxS)[((n / 16 : Nat) : Int).toNat]?) fun c6 => oif (decide (0 ≤ ((n % 16 : Nat) : Int))) (obind ((bl hxS)[((n % 16 : Nat) : Int).toNat]?) fun c7 => _) none) none = _
    rw [hxS_bl, nn, oif_t, ofNat_toNat, hxT_get (by omega), ob_s, nn, oif_t, ofNat_toNat, hxT_get (Nat.mod_lt _ (by omega)), ob_s, wr1 (by omega)]
    rfl
  · intro ag t; simp only [l123_0, l123_0_b, ltn, oif_f]
  · rw [show List.replicate 0 (0 : Int) = [] from rfl, bt_range l 0 [] hb (by simp; omega), List.nil_append]
    unfold j123_0
    congr 2
    exact bl_inj.1 (by rw [strL_back, bl_ofL])

theorem p_scBytesText {d : Nat} {l : List Int} (hb : Bytes l) (hl : l.length ≤ 100000) : Ok (g245 (d + 1) l) fun s => s.size ≤ 2 * l.length := by
  rw [e245]
  refine iter_ok (fun k s => ∃ i : Nat, s.2 = (i : Int) ∧ i + k = l.length ∧ s.1.size = 2 * i) ?_ _ l.length _ (by rw [fuelN_eq]; omega) ⟨0, rfl, by omega, rfl⟩
  rintro k ⟨s, _⟩ ag ⟨i, rfl, h1, h2⟩ hag
  simp only at h2
  simp only [l245_0, l245_0_b]
  rcases Nat.lt_or_ge i l.length with hlt | hge
  · obtain ⟨b0, b1⟩ := hb l[i] (List.getElem_mem hlt)
    rw [decide_eq_true (by omega), oif_t, nn, oif_t, ofNat_toNat, List.getElem?_eq_getElem hlt, ob_s]
    generalize l[i] = x at b0 b1
    obtain ⟨n, rfl⟩ := Int.eq_ofNat_of_zero_le b0
    rw [wr (n := (n : Int)) (by omega) (by omega)]
    have e1 : ((n : Int)).tmod 16 = ((n % 16 : Nat) : Int) := rfl
    have e2 : ((n : Int)).tdiv 16 = ((n / 16 : Nat) : Int) := rfl
    rw [e1, e2, wr (n := ((n / 16 : Nat) : Int)) (by omega) (by omega), wr1 (i := n / 16) (by omega), wr1 (i := n % 16) (by omega)]
    have m1 : n % 16 < 16 := Nat.mod_lt _ (by omega)
    have m2 : n / 16 < 16 := by omega
    change Ok (oif (decide (0 ≤ ((n / 16 + 1 : Nat) : Int))) (oif (decide (0 ≤ ((n / 16 : Nat) : Int))) (oif (Nat.ble _ _ && Nat.ble _ hxS.size) (oif (decide (0 ≤ ((n % 16 + 1 : Nat) : Int))) (oif (decide (0 ≤ ((n % 16 : Nat) : Int))) (oif (Nat.ble _ _ && Nat.ble _ hxS.size) (oif (Nat.ble ((hxS.extract _ _).size + (hxS.extract _ _).size) _) (oif (Nat.ble (s.size + (hxS.extract _ _ ++ hxS.extract _ _).size) _) (ag (s ++ (hxS.extract _ _ ++ hxS.extract _ _), _)) none) none) none) none) none) none) none) none) _
    simp only [ofNat_toNat, nn, oif_t]
    have z1 := hxS_len m1
    have z2 := hxS_len m2
    rw [slice_t (by omega) (by rw [hxS_size]; omega), slice_t (by omega) (by rw [hxS_size]; omega), room2 (by omega), room2 (by rw [ByteArray.size_append]; omega), wr1 (by omega)]
    exact hag (k - 1) _ (by omega) ⟨i + 1, rfl, by omega, by simp only [ByteArray.size_append]; omega⟩
  · rw [decide_eq_false (by omega), oif_f]
    unfold j245_0
    exact Ok.some (by omega)

theorem p_words {d m : Nat} {c : List Int × Int × Int} (hc : CurOk m c) (hm : m + 100 < 4611686018427387904) : Ok (g250 (d + 4) c) fun r => r.1.size ≤ 4100 ∧ CurOk (m + 60) r.2 := by
  rw [e250]
  refine Ok.bind (p_pick hc (by omega)) fun r hr => ?_
  obtain ⟨a1, a2, a3⟩ := hr
  refine iter_ok (fun k q => q.2.1 ≤ (k : Int) ∧ k ≤ 20 ∧ q.1.size + 4 * k ≤ 80 ∧ CurOk (m + 50 - 2 * k) q.2.2) ?_ _ 20 _ (by rw [fuelN_eq]; omega) ⟨by simp only; omega, by omega, by show (⟨#[]⟩ : ByteArray).size + 4 * 20 ≤ 80; decide, a3.mono (by omega)⟩
  rintro k ⟨q, n, x⟩ ag ⟨h1, h2, h3, h4⟩ hag
  simp only at h1 h2 h3 h4
  simp only [l250_0, l250_0_b]
  refine Ok.oif (fun h => ?_) (fun h => ?_)
  · simp only [decide_eq_true_eq] at h
    refine Ok.bind (p_of h4 (by omega) (by simp)) fun u hu => ?_
    have hsz : u.1.size ≤ 4 := by
      have all : ∀ x ∈ [(⟨#[97]⟩ : ByteArray), (⟨#[98, 32]⟩ : ByteArray), (⟨#[10]⟩ : ByteArray), (⟨#[49, 50]⟩ : ByteArray), (⟨#[48]⟩ : ByteArray), (⟨#[48, 120, 49, 102]⟩ : ByteArray), (⟨#[10, 10]⟩ : ByteArray), (⟨#[120, 121, 122]⟩ : ByteArray)], x.size ≤ 4 := by
        intro x hx
        simp only [List.mem_cons, List.not_mem_nil, or_false] at hx
        rcases hx with rfl | rfl | rfl | rfl | rfl | rfl | rfl | rfl <;> decide
      exact all _ hu.1
    rw [room2 (by omega), wr (n := n - 1) (by omega) (by omega)]
    exact hag (k - 1) _ (by omega) ⟨by simp only; omega, by omega, by simp only [ByteArray.size_append]; omega, hu.2.mono (by omega)⟩
  · unfold j250_1
    refine Ok.bind (p_one h4 (by omega)) fun u hu => ?_
    refine Ok.oif (fun _ => ?_) (fun _ => Ok.some ⟨by simp only; omega, hu.mono (by omega)⟩)
    refine Ok.bind (p_pick hu (by omega)) fun v hv => ?_
    obtain ⟨v1, v2, v3⟩ := hv
    refine iter_ok (fun k (q : ByteArray) => q.size + k = 4100) ?_ _ (4100 - q.size) _ (by rw [fuelN_eq]; omega) (by omega)
    intro k q ag hq hag2
    simp only [l250_1, l250_1_b]
    rw [wr (n := 4000 + v.1) (by omega) (by omega)]
    have h1s : (⟨#[49]⟩ : ByteArray).size = 1 := rfl
    refine Ok.oif (fun h => ?_) (fun h => ?_)
    · simp only [decide_eq_true_eq] at h
      rw [room2 (by omega)]
      exact hag2 (k - 1) _ (by omega) (by rw [ByteArray.size_append]; omega)
    · unfold j250_0
      exact Ok.some ⟨by simp only; omega, v3.mono (by omega)⟩

theorem p_DrawParseBytes {d : Nat} {x : List Int} (hx : Bytes x) : Ok (g104 (d + 5) x) fun s => s.size ≤ 9000 := by
  rw [e104]
  refine Ok.bind (p_bytes (CurOk.new hx) (by omega)) fun r hr => ?_
  refine Ok.bind (p_scBytesText hr.2.1 (by omega)) fun s hs => ?_
  refine Ok.bind (p_one hr.2.2 (by omega)) fun u hu => ?_
  refine Ok.oif (fun _ => ?_) (fun _ => Ok.some (by omega))
  exact Ok.bind (p_spoilt hu (by omega) (by omega) (by decide)) fun v hv => Ok.some (by omega)

theorem p_DrawDecimalAt {d : Nat} {x : List Int} (hx : Bytes x) : Ok (g107 (d + 5) x) fun _ => True := by
  rw [e107]
  refine Ok.bind (p_words (CurOk.new hx) (by omega)) fun r hr => ?_
  refine Ok.bind (p_of hr.2 (by omega) (by simp)) fun u hu => ?_
  have hsz : u.1.size ≤ 20 := by
    have all : ∀ x ∈ [(⟨#[48]⟩ : ByteArray), (⟨#[55]⟩ : ByteArray), (⟨#[48, 48]⟩ : ByteArray), (⟨#[49, 48, 48, 48, 48, 48, 48, 48, 48, 48]⟩ : ByteArray), (⟨#[49, 48, 48, 48, 48, 48, 48, 48, 48, 49]⟩ : ByteArray), (⟨#[57, 57, 57, 57, 57, 57, 57, 57, 57, 57, 57, 57, 57, 57, 57, 57, 57, 57, 57, 57]⟩ : ByteArray), (⟨#[49, 50, 120]⟩ : ByteArray), (⟨#[]⟩ : ByteArray), (⟨#[49, 50]⟩ : ByteArray)], x.size ≤ 20 := by
      intro x hx
      simp only [List.mem_cons, List.not_mem_nil, or_false] at hx
      rcases hx with rfl | rfl | rfl | rfl | rfl | rfl | rfl | rfl | rfl <;> decide
    exact all _ hu.1
  rw [room2 (by omega)]
  exact Ok.bind (p_among hu.2 (by omega) (by simp)) fun v hv => Ok.some trivial

theorem p_DrawHexAt {d : Nat} {x : List Int} (hx : Bytes x) : Ok (g110 (d + 5) x) fun _ => True := by
  rw [e110]
  refine Ok.bind (p_of (CurOk.new hx) (by omega) (by simp)) fun u hu => ?_
  have hsz : u.1.size ≤ 20 := by
    have all : ∀ x ∈ [(⟨#[48, 120, 48]⟩ : ByteArray), (⟨#[48, 120]⟩ : ByteArray), (⟨#[48, 120, 102, 102, 102, 102, 102, 102, 102, 102]⟩ : ByteArray), (⟨#[48, 120, 49, 48, 48, 48, 48, 48, 48, 48, 48]⟩ : ByteArray), (⟨#[48, 120, 65]⟩ : ByteArray), (⟨#[48, 120, 48, 48, 48, 48, 48, 48, 48, 49]⟩ : ByteArray), (⟨#[48, 120, 49, 102, 103]⟩ : ByteArray), (⟨#[120, 49]⟩ : ByteArray)], x.size ≤ 20 := by
      intro x hx
      simp only [List.mem_cons, List.not_mem_nil, or_false] at hx
      rcases hx with rfl | rfl | rfl | rfl | rfl | rfl | rfl | rfl <;> decide
    exact all _ hu.1
  refine Ok.bind (p_words hu.2 (by omega)) fun r hr => ?_
  rw [room2 (by omega)]
  exact Ok.bind (p_among hr.2 (by omega) (by simp)) fun v hv => Ok.some trivial

theorem p_DrawFirstBad {d : Nat} {x : List Int} (hx : Bytes x) : Ok (g113 (d + 5) x) fun _ => True := by
  rw [e113]
  refine Ok.bind (p_words (CurOk.new hx) (by omega)) fun r hr => ?_
  refine Ok.bind (p_one hr.2 (by omega)) fun u hu => ?_
  refine Ok.oif (fun _ => ?_) (fun _ => Ok.some trivial)
  exact Ok.bind (p_spoilt hu (by omega) (by omega) (by decide)) fun v hv => Ok.some trivial

theorem p_DrawHexOf {d : Nat} {x : List Int} (hx : Bytes x) : Ok (g116 (d + 4) x) fun _ => True := by
  rw [e116]
  refine Ok.bind (p_pick (CurOk.new hx) (by omega)) fun r hr => ?_
  exact Ok.bind (p_among hr.2.2 (by omega) (by simp)) fun v hv => Ok.some trivial

theorem p_DrawIsPadded {d : Nat} {x : List Int} (hx : Bytes x) : Ok (g119 (d + 5) x) fun _ => True := by
  rw [e119]
  refine Ok.bind (p_bytes (CurOk.new hx) (by omega)) fun r hr => ?_
  refine Ok.bind (p_pick hr.2.2 (by omega)) fun u hu => ?_
  refine Ok.bind (p_pick hu.2.2 (by omega)) fun v hv => ?_
  refine Ok.bind (p_pick hv.2.2 (by omega)) fun w hw => ?_
  exact Ok.bind (p_pick hw.2.2 (by omega)) fun z hz => Ok.some trivial

theorem p_DrawChecksumOf {d : Nat} {x : List Int} (hx : Bytes x) : Ok (g124 (d + 5) x) fun l => Bytes l := by
  rw [e124]
  exact Ok.bind (p_bytes (CurOk.new hx) (by omega)) fun r hr => Ok.some hr.2.1

end Go.Proofs.Ytmjhgkmiafemfaa
