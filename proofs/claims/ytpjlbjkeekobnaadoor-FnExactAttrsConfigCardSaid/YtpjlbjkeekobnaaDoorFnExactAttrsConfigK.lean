/-
  What the cursor's functions and the small ones give by value.
  Conditions: the cursor has not been moved 2^62 times.
  Comparing and adding up lists of numbers; ranges.
  Conditions: the lists are shorter than the fuel.
  Texts: their elements, and the draws of texts.
  Conditions: none, but those of the cursor for the draws.
  Packets, in both packages: valid ones, flows, sizes; the draws.
  Conditions: none, but those of the cursor for the draws.
  Flows and their packets at ticks, in both packages.
  Conditions: none, but those of the cursor for the draws.
  Nested attributes, in both packages.
  Conditions: none, but those of the cursor for the draws.
  Number data read back, in both packages.
  Conditions: none.
  Key words.
  Conditions: none.
  Nothing is given for functions outside.
  Conditions: none.
-/
import Derived.Test.YtpjlbjkeekobnaaDoorFnExactAttrsConfigRes
import Derived.Test.YtpjlbjkeekobnaaDoorPKit2
import Derived.Laws.Strings
set_option linter.all false
namespace Go.Proofs.YtpjlbjkeekobnaaDoor
open Go.Ev Go.Pv

theorem q_l1In {d : Nat} {x y z : Int} : g31 (d + 1) x y z = some (decide (y ≤ x ∧ x ≤ z)) := by
  rw [e31]; simp only [oif_ss]; congr 1; rw [Bool.eq_iff_iff]; simp

theorem q_l1Least {d : Nat} {x y : Int} : g64 (d + 1) x y = some (min x y) := by
  rw [e64]; simp only [oif_ss]; congr 1; split <;> simp_all <;> omega

def szOk (s : Int) : Bool := decide (1 ≤ s ∧ s ≤ 1500)

abbrev By := ByteArray

def bl (s : ByteArray) : List UInt8 := s.data.toList

theorem bl_len (s : ByteArray) : s.size = (bl s).length := rfl

theorem bl_def (s : ByteArray) : s.data.toList = bl s := rfl

theorem bl_app (a b : ByteArray) : bl (a ++ b) = bl a ++ bl b := by simp [bl]

theorem bl_ext (s : ByteArray) (a b : Nat) : bl (s.extract a b) = ((bl s).drop a).take (b - a) := by simp [bl]

theorem bl_lit (l : List UInt8) : bl ⟨l.toArray⟩ = l := by simp [bl]

theorem bl_inj {a b : ByteArray} : bl a = bl b ↔ a = b := by
  constructor
  · intro h
    cases a with | mk a => cases b with | mk b =>
      simp only [bl] at h
      rw [Array.toList_inj.1 h]
  · intro h; rw [h]

theorem bl_eq (a b : ByteArray) : (a.toList == b.toList) = decide (bl a = bl b) := by
  rw [ByteArray.toList_eq, ByteArray.toList_eq]
  by_cases h : bl a = bl b
  · rw [decide_eq_true h]; simpa [bl] using h
  · rw [decide_eq_false h]; simpa [bl] using h

theorem strL_len (l : List Int) : (strL l).size = l.length := by rw [bl_len]; simp [bl, strL]

theorem ble_t {a b : Nat} (h : a ≤ b) : Nat.ble a b = true := by rw [Nat.ble_eq]; exact h

theorem slice_t {α : Type} {a b n : Nat} {x y : Option α} (h1 : a ≤ b) (h2 : b ≤ n) : oif (Nat.ble a b && Nat.ble b n) x y = x := by rw [ble_t h1, ble_t h2]; rfl

theorem room2 {α : Type} {a b : Nat} {x y : Option α} (h : a + b ≤ 9223372036854775807) : oif (Nat.ble (a + b) 9223372036854775807) x y = x := by rw [ble_t h]; rfl

theorem q_nuValue {d : Nat} {n : Int} : g96 (d + 2) n = some (decide (0 ≤ n ∧ n ≤ 1000000000)) := by rw [e96, q_l1In, ob_s]

abbrev Pk := Int × Int × Int × Int × Int × Int

def wordOk (n : Int) : Bool := decide (0 ≤ n ∧ n ≤ 65535)

def pkOk (p : Pk) : Bool := decide (1 ≤ p.1 ∧ p.1 ≤ 100000 ∧ 0 ≤ p.2.1 ∧ p.2.1 ≤ 65535 ∧ 0 ≤ p.2.2.1 ∧ p.2.2.1 ≤ 65535 ∧ 0 ≤ p.2.2.2.1 ∧ p.2.2.2.1 ≤ 65535 ∧ 0 ≤ p.2.2.2.2.1 ∧ p.2.2.2.2.1 ≤ 65535 ∧ 1 ≤ p.2.2.2.2.2 ∧ p.2.2.2.2.2 ≤ 1500)

theorem pkOk_in {p : Pk} (h : pkOk p = true) : 1 ≤ p.1 ∧ p.1 ≤ 100000 ∧ 0 ≤ p.2.1 ∧ p.2.1 ≤ 65535 ∧ 0 ≤ p.2.2.1 ∧ p.2.2.1 ≤ 65535 ∧ 0 ≤ p.2.2.2.1 ∧ p.2.2.2.1 ≤ 65535 ∧ 0 ≤ p.2.2.2.2.1 ∧ p.2.2.2.2.1 ≤ 65535 ∧ 1 ≤ p.2.2.2.2.2 ∧ p.2.2.2.2.2 ≤ 1500 := by
  simpa [pkOk] using h

/-- Valid packets, in order, from an Id on. -/
def incI : Int → List Pk → Bool
  | _, [] => true
  | a, p :: r => pkOk p && (decide (a < p.1) && incI p.1 r)

def pksOk (l : List Pk) : Bool := incI 0 l && decide (((l.length : Nat) : Int) ≤ 60)

theorem incI_all : ∀ {l : List Pk} {a : Int}, incI a l = true → ∀ p ∈ l, pkOk p = true
  | [], _, _, p, hp => by simp at hp
  | q :: r, a, h, p, hp => by
    simp only [incI, Bool.and_eq_true] at h
    rcases List.mem_cons.1 hp with rfl | hp
    · exact h.1
    · exact incI_all h.2.2 p hp

theorem pksOk_in {l : List Pk} (h : pksOk l = true) : (∀ p ∈ l, pkOk p = true) ∧ l.length ≤ 60 := by
  simp only [pksOk, Bool.and_eq_true, decide_eq_true_eq] at h
  exact ⟨incI_all h.1, by omega⟩

def lastI : Int → List Pk → Int
  | a, [] => a
  | _, p :: r => lastI p.1 r

theorem inc_spec {β : Type} {fin : Bool × Int → Option β} {no : Option β} : ∀ (l : List Pk) (i : Nat) (t : Bool × Int),
    rangeR (fun x _ t k => oif (!pkOk x) no (oif (decide (x.1 ≤ t.2)) no (k (t.1, x.1)))) fin l i t = oif (incI t.2 l) (fin (t.1, lastI t.2 l)) no
  | [], i, t => rfl
  | x :: r, i, t => by
    simp only [rangeR, incI]
    cases hx : pkOk x with
    | false => rfl
    | true =>
      simp only [Bool.not_true, oif_f, Bool.true_and]
      by_cases h : x.1 ≤ t.2
      · rw [decide_eq_true h, oif_t, decide_eq_false (by omega)]; rfl
      · rw [decide_eq_false h, oif_f, decide_eq_true (by omega), Bool.true_and, inc_spec r (i + 1) (t.1, x.1)]; rfl

theorem inc_impl {β : Type} {l : List Pk} {fin : Bool → Option β} {no : Option β} : ∀ (r : List Pk) (i : Nat) (a : Int) (t : Bool), l.drop i = r → (i = 0 → a = 0) → (0 < i → ∃ y, l[i - 1]? = some y ∧ y.1 = a) →
    rangeR (fun x i t k => oif (!pkOk x) no (oif (decide ((i : Int) > 0)) (obind (l[i - 1]?) fun y => oif (decide (x.1 ≤ y.1)) no (k t)) (k t))) fin r i t = oif (incI a r) (fin t) no
  | [], i, a, t, _, _, _ => rfl
  | x :: r, i, a, t, hd, h0, h1 => by
    have hi : i < l.length := by
      rcases Nat.lt_or_ge i l.length with h | h
      · exact h
      · rw [List.drop_of_length_le h] at hd; simp at hd
    have hx : l[i]? = some x := by
      have := List.drop_eq_getElem_cons hi
      rw [hd] at this; injection this with e _; rw [List.getElem?_eq_getElem hi, ← e]
    have hd' : l.drop (i + 1) = r := by
      have := List.drop_eq_getElem_cons hi
      rw [hd] at this; injection this with _ e; exact e.symm
    have ih := inc_impl (fin := fin) (no := no) r (i + 1) x.1 t hd' (by omega) (fun _ => ⟨x, by simpa using hx, rfl⟩)
    simp only [rangeR, incI]
    cases hp : pkOk x with
    | false => rfl
    | true =>
      simp only [Bool.not_true, oif_f, Bool.true_and]
      by_cases hi0 : i = 0
      · subst hi0
        obtain rfl := h0 rfl
        have := pkOk_in hp
        rw [decide_eq_true (show (0 : Int) < x.1 by omega), Bool.true_and]
        simp only [Int.natCast_zero]
        rw [show decide ((0 : Int) > 0) = false from rfl, oif_f]
        exact ih
      · obtain ⟨y, e1, e2⟩ := h1 (by omega)
        rw [decide_eq_true (show ((i : Int) > 0) by omega), oif_t, e1, ob_s, e2]
        by_cases h : x.1 ≤ a
        · rw [decide_eq_true h, oif_t, decide_eq_false (by omega)]; rfl
        · rw [decide_eq_false h, oif_f, decide_eq_true (by omega), Bool.true_and]; exact ih

theorem sum_range {α β : Type} {f : α → Int} {fin : Int → Option β} : ∀ (l : List α) (i : Nat) (t : Int), (∀ x ∈ l, 0 ≤ f x ∧ f x ≤ 1000000) → 0 ≤ t → t + 1000000 * (l.length : Int) ≤ 9000000000000000000 →
    rangeR (fun x _ t k => k (IntKind.i64.wrap (t + f x))) fin l i t = fin (t + (l.map f).sum)
  | [], i, t, _, _, _ => by simp [rangeR]
  | x :: r, i, t, h, h0, h1 => by
    have hx := h x (by simp)
    simp only [List.length_cons] at h1
    simp only [rangeR]
    rw [wr (n := t + f x) (by omega) (by omega), sum_range r (i + 1) (t + f x) (fun y hy => h y (by simp [hy])) (by omega) (by omega)]
    simp only [List.map_cons, List.sum_cons]; congr 1; omega

def pkSz (p : Pk) : Int := p.2.2.2.2.2

def szs (l : List Pk) : Int := (l.map pkSz).sum

theorem szs_in {l : List Pk} (h : pksOk l = true) : ∀ x ∈ l, 0 ≤ pkSz x ∧ pkSz x ≤ 1000000 := fun x hx => by
  have := pkOk_in ((pksOk_in h).1 x hx); unfold pkSz; omega

theorem szs_le : ∀ l : List Pk, (∀ p ∈ l, pkOk p = true) → szs l ≤ 1500 * (l.length : Int)
  | [], _ => by simp [szs]
  | p :: r, h => by
    have h1 := pkOk_in (h p (by simp))
    have h2 := szs_le r (fun q hq => h q (by simp [hq]))
    have h3 : pkSz p ≤ 1500 := h1.2.2.2.2.2.2.2.2.2.2.2
    simp only [szs, List.map_cons, List.sum_cons, List.length_cons] at h2 ⊢
    omega

def tsV (l : List Pk) : Int × Bool := if pksOk l then (szs l, true) else (0, false)

def flOk (k : Int) : Bool := decide (1 ≤ k ∧ k ≤ 64)

def fl1 (a n : Int) : Int := (31 * a + n + 7) % 1000003

def fl3 (p : Pk) : Int := fl1 (fl1 (fl1 40503 p.2.1) p.2.2.1) p.2.2.2.1

def flV (p : Pk) (k : Int) : Int := fl3 p % k

theorem fl1_in (a n : Int) : 0 ≤ fl1 a n ∧ fl1 a n < 1000003 := ⟨Int.emod_nonneg _ (by omega), Int.emod_lt_of_pos _ (by omega)⟩

theorem fl1_raw {a n : Int} (h0 : 0 ≤ a) (h1 : a < 1000003) (h2 : 0 ≤ n) (h3 : n ≤ 65535) : (IntKind.i64.wrap ((IntKind.i64.wrap ((IntKind.i64.wrap ((31 : Int) * a)) + n)) + 7)).tmod 1000003 = fl1 a n := by
  rw [wr (n := 31 * a) (by omega) (by omega), wr (n := 31 * a + n) (by omega) (by omega), wr (by omega) (by omega), Int.tmod_eq_emod_of_nonneg (by omega)]; rfl

theorem flV_in {p : Pk} {k : Int} (h : flOk k = true) : 0 ≤ flV p k ∧ flV p k < k := by
  simp only [flOk, decide_eq_true_eq] at h
  exact ⟨Int.emod_nonneg _ (by omega), Int.emod_lt_of_pos _ (by omega)⟩

def foV (p : Pk) (k : Int) : Int × Bool := if pkOk p && flOk k then (flV p k, true) else (0, false)

/-- The sizes flow by flow. -/
def fsL (k : Int) : List Int → List Pk → List Int
  | t, [] => t
  | t, p :: r => fsL k (t.set (flV p k).toNat (t.getD (flV p k).toNat 0 + pkSz p)) r

theorem fs_range {β : Type} {k : Int} {G : Pk → Option Int} {fin : List Int → Option β} (hk : flOk k = true) (hG : ∀ p, pkOk p = true → G p = some (flV p k)) :
    ∀ (l : List Pk) (i : Nat) (t : List Int) (B : Int), t.length = k.toNat → (∀ e ∈ t, 0 ≤ e ∧ e ≤ B) → (∀ p ∈ l, pkOk p = true) → B + 1500 * (l.length : Int) ≤ 1000000000 →
    rangeR (fun x _ t kk => obind (G x) fun r8 => oif (decide (0 ≤ (r8 : Int))) (oif (Nat.blt ((r8 : Int).toNat) t.length) (obind (t[(r8 : Int).toNat]?) fun n9 => oif (decide (0 ≤ (r8 : Int))) (oif (Nat.blt ((r8 : Int).toNat) t.length) (obind (t[(r8 : Int).toNat]?) fun n10 => kk (t.set ((r8 : Int).toNat) (IntKind.i64.wrap (n9 + x.2.2.2.2.2)))) none) none) none) none) fin l i t = fin (fsL k t l)
  | [], i, t, B, _, _, _, _ => rfl
  | x :: r, i, t, B, hl, ht, hx, hB => by
    have hxp := hx x (by simp)
    obtain ⟨f1, f2⟩ := flV_in (p := x) hk
    have hlt : (flV x k).toNat < t.length := by omega
    have hg : t[(flV x k).toNat]? = some (t.getD (flV x k).toNat 0) := by rw [List.getElem?_eq_getElem hlt]; simp [List.getD, List.getElem?_eq_getElem hlt]
    have he := ht _ (List.mem_of_getElem? hg)
    have hp := pkOk_in hxp
    simp only [List.length_cons] at hB
    simp only [rangeR, hG x hxp, ob_s, decide_eq_true f1, oif_t, blt_of hlt, hg]
    rw [wr (by omega) (by omega)]
    have ih := fs_range (fin := fin) hk hG r (i + 1) (t.set (flV x k).toNat (t.getD (flV x k).toNat 0 + pkSz x)) (B + 1500) (by simpa using hl) (fun e he' => by
      rcases List.mem_or_eq_of_mem_set he' with h | h
      · have := ht e h; omega
      · rw [h]; unfold pkSz; omega) (fun p hp => hx p (by simp [hp])) (by omega)
    exact ih

theorem fsL_len {k : Int} : ∀ {l : List Pk} {t : List Int}, (fsL k t l).length = t.length
  | [], _ => rfl
  | x :: r, t => by simp only [fsL]; rw [fsL_len]; simp

theorem fsL_sum {k : Int} (hk : flOk k = true) : ∀ {l : List Pk} {t : List Int}, t.length = k.toNat → (fsL k t l).sum = t.sum + szs l
  | [], t, _ => by simp [fsL, szs]
  | x :: r, t, hl => by
    obtain ⟨f1, f2⟩ := flV_in (p := x) hk
    simp only [fsL]
    rw [fsL_sum hk (by simpa using hl), sum_set (by omega)]
    simp only [szs, List.map_cons, List.sum_cons]; omega

theorem fsL_nonneg {k : Int} : ∀ {l : List Pk} {t : List Int}, (∀ p ∈ l, pkOk p = true) → (∀ e ∈ t, 0 ≤ e) → ∀ e ∈ fsL k t l, 0 ≤ e
  | [], t, _, ht => ht
  | x :: r, t, hx, ht => by
    have hp := pkOk_in (hx x (by simp))
    simp only [fsL]
    refine fsL_nonneg (fun p hp => hx p (by simp [hp])) (fun e he => ?_)
    rcases List.mem_or_eq_of_mem_set he with h | h
    · exact ht e h
    · rw [h]
      have : 0 ≤ t.getD (flV x k).toNat 0 := by
        unfold List.getD
        cases hg : t[(flV x k).toNat]? with
        | none => simp
        | some v => simpa using ht v (List.mem_of_getElem? hg)
      unfold pkSz; omega

def fsV (l : List Pk) (k : Int) : List Int × Bool := if pksOk l && flOk k then (fsL k (List.replicate k.toNat 0) l, true) else ([], false)

def mkE (a m v : Int) : Int := IntKind.i64.wrap ((BitVec.ofInt IntKind.i64.bits (IntKind.i64.wrap ((BitVec.ofInt IntKind.i64.bits a &&& ~~~BitVec.ofInt IntKind.i64.bits m).toNat : Int)) ||| BitVec.ofInt IntKind.i64.bits (IntKind.i64.wrap ((BitVec.ofInt IntKind.i64.bits v &&& BitVec.ofInt IntKind.i64.bits m).toNat : Int))).toNat : Int)

def mkV (x : Pk) (m v : Int) : Pk × Bool := if pkOk x && (wordOk m && wordOk v) then ((x.1, x.2.1, x.2.2.1, x.2.2.2.1, mkE x.2.2.2.2.1 m v, x.2.2.2.2.2), true) else ((0, 0, 0, 0, 0, 0), false)

theorem bv_word {n : Int} (h0 : 0 ≤ n) (h1 : n ≤ 65535) : ((BitVec.ofInt 64 n).toNat : Int) = n := by
  rw [BitVec.toNat_ofInt]
  have : n % ((2 ^ 64 : Nat) : Int) = n := Int.emod_eq_of_lt h0 (by omega)
  rw [this]; omega

theorem bv_back (x : BitVec 64) : BitVec.ofInt 64 (x.toNat : Int) = x := by
  apply BitVec.eq_of_toNat_eq
  rw [BitVec.toNat_ofInt]
  have h := x.isLt
  have : ((x.toNat : Int)) % ((2 ^ 64 : Nat) : Int) = (x.toNat : Int) := Int.emod_eq_of_lt (by omega) (by omega)
  rw [this]; simp

theorem bv_and_le (x y : BitVec 64) : (x &&& y).toNat ≤ x.toNat := by rw [BitVec.toNat_and]; exact Nat.and_le_left

theorem mkE_laws {a m v : Int} (ha : wordOk a = true) (hm : wordOk m = true) (hv : wordOk v = true) :
    IntKind.i64.wrap ((BitVec.ofInt IntKind.i64.bits (mkE a m v) &&& BitVec.ofInt IntKind.i64.bits m).toNat : Int) = IntKind.i64.wrap ((BitVec.ofInt IntKind.i64.bits v &&& BitVec.ofInt IntKind.i64.bits m).toNat : Int) ∧
    IntKind.i64.wrap ((BitVec.ofInt IntKind.i64.bits (mkE a m v) &&& ~~~BitVec.ofInt IntKind.i64.bits m).toNat : Int) = IntKind.i64.wrap ((BitVec.ofInt IntKind.i64.bits a &&& ~~~BitVec.ofInt IntKind.i64.bits m).toNat : Int) := by
  simp only [wordOk, decide_eq_true_eq] at ha hm hv
  have e64 : IntKind.i64.bits = 64 := rfl
  unfold mkE
  rw [e64]
  have a1 := bv_word ha.1 ha.2
  have v1 := bv_word hv.1 hv.2
  generalize BitVec.ofInt 64 a = A at *
  generalize BitVec.ofInt 64 v = V at *
  generalize BitVec.ofInt 64 m = M at *
  have l1 := bv_and_le A (~~~M)
  have l2 := bv_and_le V M
  rw [wr (n := ((A &&& ~~~M).toNat : Int)) (by omega) (by omega), wr (n := ((V &&& M).toNat : Int)) (by omega) (by omega), bv_back, bv_back]
  have hA : A.toNat < 2 ^ 16 := by omega
  have hV : V.toNat < 2 ^ 16 := by omega
  have l3 : ((A &&& ~~~M) ||| (V &&& M)).toNat < 2 ^ 16 := by
    rw [BitVec.toNat_or]; exact Nat.or_lt_two_pow (by omega) (by omega)
  rw [wr (n := (((A &&& ~~~M) ||| (V &&& M)).toNat : Int)) (by omega) (by omega), bv_back]
  have i1 : ((A &&& ~~~M) ||| (V &&& M)) &&& M = V &&& M := by
    apply BitVec.eq_of_getLsbD_eq; intro i hi
    simp only [BitVec.getLsbD_and, BitVec.getLsbD_or, BitVec.getLsbD_not, hi, decide_true, Bool.true_and]
    cases A.getLsbD i <;> cases M.getLsbD i <;> cases V.getLsbD i <;> rfl
  have i2 : ((A &&& ~~~M) ||| (V &&& M)) &&& ~~~M = A &&& ~~~M := by
    apply BitVec.eq_of_getLsbD_eq; intro i hi
    simp only [BitVec.getLsbD_and, BitVec.getLsbD_or, BitVec.getLsbD_not, hi, decide_true, Bool.true_and]
    cases A.getLsbD i <;> cases M.getLsbD i <;> cases V.getLsbD i <;> rfl
  rw [i1, i2]
  exact ⟨by rw [wr (by omega) (by omega)], by rw [wr (by omega) (by omega)]⟩

abbrev Fl := Int × Int × Int × Int × Int × Int × Int × Int × Int
abbrev Tm := Int × Pk

def flowOk (f : Fl) : Bool := decide (0 ≤ f.1 ∧ f.1 ≤ 1000000000 ∧ 0 ≤ f.2.1 ∧ f.2.1 ≤ 65535 ∧ 0 ≤ f.2.2.1 ∧ f.2.2.1 ≤ 65535 ∧ 0 ≤ f.2.2.2.1 ∧ f.2.2.2.1 ≤ 65535 ∧ 0 ≤ f.2.2.2.2.1 ∧ f.2.2.2.2.1 ≤ 65535 ∧ 0 ≤ f.2.2.2.2.2.1 ∧ f.2.2.2.2.2.1 ≤ 10000 ∧ 1 ≤ f.2.2.2.2.2.2.1 ∧ f.2.2.2.2.2.2.1 ≤ 500 ∧ 1 ≤ f.2.2.2.2.2.2.2.1 ∧ f.2.2.2.2.2.2.2.1 ≤ 10 ∧ 1 ≤ f.2.2.2.2.2.2.2.2 ∧ f.2.2.2.2.2.2.2.2 ≤ 1500)

theorem flowOk_in {f : Fl} (h : flowOk f = true) : 0 ≤ f.1 ∧ f.1 ≤ 1000000000 ∧ 0 ≤ f.2.1 ∧ f.2.1 ≤ 65535 ∧ 0 ≤ f.2.2.1 ∧ f.2.2.1 ≤ 65535 ∧ 0 ≤ f.2.2.2.1 ∧ f.2.2.2.1 ≤ 65535 ∧ 0 ≤ f.2.2.2.2.1 ∧ f.2.2.2.2.1 ≤ 65535 ∧ 0 ≤ f.2.2.2.2.2.1 ∧ f.2.2.2.2.2.1 ≤ 10000 ∧ 1 ≤ f.2.2.2.2.2.2.1 ∧ f.2.2.2.2.2.2.1 ≤ 500 ∧ 1 ≤ f.2.2.2.2.2.2.2.1 ∧ f.2.2.2.2.2.2.2.1 ≤ 10 ∧ 1 ≤ f.2.2.2.2.2.2.2.2 ∧ f.2.2.2.2.2.2.2.2 ≤ 1500 := by
  simpa only [flowOk, decide_eq_true_eq] using h

/-- A loop whose states are numbered. -/
theorem count_from {σ β : Type} {F : (σ → Option β) → σ → Option β} {S : Nat → σ} {N : Nat} {fin : Option β} (h1 : ∀ ag k, k < N → F ag (S k) = ag (S (k + 1))) (h2 : ∀ ag, F ag (S N) = fin) :
    ∀ (fuel r k : Nat), k + r = N → r < fuel → iterP F fuel (S k) = fin
  | 0, r, k, _, h => by omega
  | fuel + 1, 0, k, h, _ => by
    simp only [iterP]
    have : k = N := by omega
    subst this; exact h2 _
  | fuel + 1, r + 1, k, h, hf => by
    simp only [iterP]
    rw [h1 _ _ (by omega)]
    exact count_from h1 h2 fuel r (k + 1) (by omega) (by omega)

theorem count_eq {σ β : Type} {F : (σ → Option β) → σ → Option β} (S : Nat → σ) (N : Nat) {fin : Option β} (h1 : ∀ ag k, k < N → F ag (S k) = ag (S (k + 1))) (h2 : ∀ ag, F ag (S N) = fin) {fuel : Nat} (hf : N < fuel) :
    iterP F fuel (S 0) = fin := count_from h1 h2 fuel N 0 (by omega) hf

theorem nilB_same {β : Type} {n : Nat} {a b : Option β} (h : n = 0 → a = b) : nilB n a b = b := by
  cases n with
  | zero => rw [h rfl]; simp [nilB, both]
  | succ n => rfl

def mx0 (a n : Int) : Int := (31 * a + n + 7) % 1000003

def mx1 (a n : Int) : Int := (mx0 a n * (mx0 a n / 32 + 3)) % 1000003

def mxV (l : List Int) : Int := (l ++ [3, 1]).foldl mx1 (7919 + (l.length : Int))

theorem mx1_in (a n : Int) : 0 ≤ mx1 a n ∧ mx1 a n < 1000003 := ⟨Int.emod_nonneg _ (by omega), Int.emod_lt_of_pos _ (by omega)⟩

theorem mxf_in : ∀ {l : List Int} {a : Int}, 0 ≤ a → a < 1000003 → 0 ≤ l.foldl mx1 a ∧ l.foldl mx1 a < 1000003
  | [], a, h0, h1 => ⟨h0, h1⟩
  | x :: r, a, _, _ => mxf_in (l := r) (mx1_in a x).1 (mx1_in a x).2

theorem mxV_in {l : List Int} (hl : l.length ≤ 1000) : 0 ≤ mxV l ∧ mxV l < 1000003 := mxf_in (by omega) (by omega)

theorem mx1_raw {a n : Int} (h0 : 0 ≤ a) (h1 : a < 1000003) (h2 : 0 ≤ n) (h3 : n ≤ 1000000000) : (IntKind.i64.wrap (((IntKind.i64.wrap ((IntKind.i64.wrap ((IntKind.i64.wrap ((31 : Int) * a)) + n)) + 7)).tmod 1000003) * (IntKind.i64.wrap ((IntKind.i64.wrap (((IntKind.i64.wrap ((IntKind.i64.wrap ((IntKind.i64.wrap ((31 : Int) * a)) + n)) + 7)).tmod 1000003).tdiv 32)) + 3)))).tmod 1000003 = mx1 a n := by
  rw [wr (n := 31 * a) (by omega) (by omega), wr (n := 31 * a + n) (by omega) (by omega), wr (n := 31 * a + n + 7) (by omega) (by omega), Int.tmod_eq_emod_of_nonneg (a := 31 * a + n + 7) (by omega)]
  have eb : (31 * a + n + 7) % 1000003 = mx0 a n := rfl
  have b1 : 0 ≤ mx0 a n := Int.emod_nonneg _ (by omega)
  have b2 : mx0 a n < 1000003 := Int.emod_lt_of_pos _ (by omega)
  rw [eb, Int.tdiv_eq_ediv_of_nonneg b1, wr (n := mx0 a n / 32) (by omega) (by omega), wr (n := mx0 a n / 32 + 3) (by omega) (by omega)]
  have k1 : 0 ≤ mx0 a n * (mx0 a n / 32 + 3) := Int.mul_nonneg b1 (by omega)
  have k2 : mx0 a n * (mx0 a n / 32 + 3) ≤ 1000003 * (mx0 a n / 32 + 3) := Int.mul_le_mul_of_nonneg_right (by omega) (by omega)
  rw [wr (n := mx0 a n * (mx0 a n / 32 + 3)) (by omega) (by omega), Int.tmod_eq_emod_of_nonneg k1]; rfl

theorem mx_range {β : Type} {fin : Int → Option β} : ∀ (l : List Int) (i : Nat) (t : Int), 0 ≤ t → t < 1000003 → (∀ x ∈ l, 0 ≤ x ∧ x ≤ 1000000000) →
    rangeR (fun x _ t kk => kk ((IntKind.i64.wrap (((IntKind.i64.wrap ((IntKind.i64.wrap ((IntKind.i64.wrap ((31 : Int) * t)) + x)) + 7)).tmod 1000003) * (IntKind.i64.wrap ((IntKind.i64.wrap (((IntKind.i64.wrap ((IntKind.i64.wrap ((IntKind.i64.wrap ((31 : Int) * t)) + x)) + 7)).tmod 1000003).tdiv 32)) + 3)))).tmod 1000003)) fin l i t = fin (l.foldl mx1 t)
  | [], i, t, _, _, _ => rfl
  | x :: r, i, t, h0, h1, hl => by
    simp only [rangeR, List.foldl_cons]
    rw [mx1_raw h0 h1 (hl x (by simp)).1 (hl x (by simp)).2]
    exact mx_range r (i + 1) _ (mx1_in t x).1 (mx1_in t x).2 (fun y hy => hl y (by simp [hy]))

theorem mx_all {l : List Int} (h : ∀ x ∈ l, 0 ≤ x ∧ x ≤ 1000000000) : ∀ x ∈ l ++ [3, 1], 0 ≤ x ∧ x ≤ 1000000000 := fun x hx => by
  simp only [List.mem_append, List.mem_cons, List.not_mem_nil, or_false] at hx
  rcases hx with hx | rfl | rfl
  · exact h x hx
  · omega
  · omega

def keysOk (l : List Int) : Bool := l.all (fun x => decide (0 ≤ x ∧ x ≤ 1000000000)) && decide (((l.length : Nat) : Int) ≤ 8)

theorem keysOk_in {l : List Int} (h : keysOk l = true) : (∀ x ∈ l, 0 ≤ x ∧ x ≤ 1000000000) ∧ l.length ≤ 8 := by
  simp only [keysOk, Bool.and_eq_true, List.all_eq_true, decide_eq_true_eq] at h
  exact ⟨h.1, by omega⟩

def moV (l : List Int) : Int × Bool := if keysOk l then (mxV l, true) else (0, false)

def nfV (l : List Int) (n : Int) : Int × Bool := if keysOk l && decide (l.length ≤ 7 ∧ 1 ≤ n ∧ n ≤ 100000) then (mxV (l ++ [n]) % n, true) else (0, false)

theorem nfV_in {l : List Int} {n : Int} (h : (nfV l n).2 = true) : 0 ≤ (nfV l n).1 ∧ (nfV l n).1 < n := by
  unfold nfV at h ⊢
  cases hc : (keysOk l && decide (l.length ≤ 7 ∧ 1 ≤ n ∧ n ≤ 100000)) with
  | false => rw [hc] at h; simp at h
  | true =>
    simp only [Bool.and_eq_true, decide_eq_true_eq] at hc
    simp only [if_true]
    exact ⟨Int.emod_nonneg _ (by omega), Int.emod_lt_of_pos _ (by omega)⟩

def gapV (f : Fl) (b : Int) : Int := 1 + mxV [f.1, b, 1, f.2.2.2.2.2.2.1] % f.2.2.2.2.2.2.1

theorem gapV_in {f : Fl} (h : flowOk f = true) (b : Int) : 1 ≤ gapV f b ∧ gapV f b ≤ f.2.2.2.2.2.2.1 ∧ f.2.2.2.2.2.2.1 ≤ 500 := by
  have hf := flowOk_in h
  have h1 := Int.emod_nonneg (mxV [f.1, b, 1, f.2.2.2.2.2.2.1]) (show f.2.2.2.2.2.2.1 ≠ 0 by omega)
  have h2 := Int.emod_lt_of_pos (mxV [f.1, b, 1, f.2.2.2.2.2.2.1]) (show 0 < f.2.2.2.2.2.2.1 by omega)
  unfold gapV; omega

/-- The tick of a burst, and of a packet. -/
def tickA (f : Fl) : Nat → Int
  | 0 => f.2.2.2.2.2.1
  | k + 1 => tickA f k + gapV f ((k + 1 : Nat) : Int)

theorem tickA_in {f : Fl} (h : flowOk f = true) : ∀ k : Nat, 0 ≤ tickA f k ∧ tickA f k ≤ 10000 + 500 * (k : Int)
  | 0 => by have := flowOk_in h; simp only [tickA]; omega
  | k + 1 => by
    have := tickA_in h k
    have g := gapV_in h ((k + 1 : Nat) : Int)
    simp only [tickA]; omega

def burN (f : Fl) (n : Nat) : Nat := n / f.2.2.2.2.2.2.2.1.toNat

theorem burN_le {f : Fl} {n : Nat} : burN f n ≤ n := Nat.div_le_self ..

theorem burN_eq {f : Fl} (h : flowOk f = true) (n : Nat) : (n : Int).tdiv f.2.2.2.2.2.2.2.1 = (burN f n : Int) := by
  have hf := flowOk_in h
  obtain ⟨b, hb⟩ := Int.eq_ofNat_of_zero_le (show 0 ≤ f.2.2.2.2.2.2.2.1 by omega)
  unfold burN
  rw [hb, Int.toNat_natCast]; rfl

def ptS (f : Fl) (n : Int) : Int := 1 + mxV [f.1, n, 2, f.2.2.2.2.2.2.2.2] % f.2.2.2.2.2.2.2.2

def ptV (f : Fl) (n : Nat) : Tm := (tickA f (burN f n), ((n + 1 : Nat) : Int), f.2.1, f.2.2.1, f.2.2.2.1, f.2.2.2.2.1, ptS f n)

theorem ptS_in {f : Fl} (h : flowOk f = true) (n : Int) : 1 ≤ ptS f n ∧ ptS f n ≤ 1500 := by
  have hf := flowOk_in h
  have h1 := Int.emod_nonneg (mxV [f.1, n, 2, f.2.2.2.2.2.2.2.2]) (show f.2.2.2.2.2.2.2.2 ≠ 0 by omega)
  have h2 := Int.emod_lt_of_pos (mxV [f.1, n, 2, f.2.2.2.2.2.2.2.2]) (show 0 < f.2.2.2.2.2.2.2.2 by omega)
  unfold ptS; omega

theorem pt_ok {f : Fl} (h : flowOk f = true) {n : Nat} (hn : n < 60) : pkOk (ptV f n).2 = true := by
  have hf := flowOk_in h
  have hs := ptS_in h n
  unfold pkOk ptV
  rw [decide_eq_true_eq]
  refine ⟨?_, ?_, ?_, ?_, ?_, ?_, ?_, ?_, ?_, ?_, ?_, ?_⟩ <;> simp only <;> omega

def paV (f : Fl) (n : Int) : Tm × Bool := if flowOk f && decide (0 ≤ n ∧ n ≤ 59) then (ptV f n.toNat, true) else ((0, 0, 0, 0, 0, 0, 0), false)

/-- The first number at which something holds, within bounds. -/
def untN (c : Nat → Bool) (k : Nat) : Nat → Nat
  | 0 => k
  | r + 1 => if c k then k else untN c (k + 1) r

theorem untN_in {c : Nat → Bool} : ∀ (r k : Nat), k ≤ untN c k r ∧ untN c k r ≤ k + r ∧ (∀ j, k ≤ j → j < untN c k r → c j = false) ∧ (untN c k r < k + r → c (untN c k r) = true)
  | 0, k => ⟨Nat.le_refl _, Nat.le_refl _, fun j h1 h2 => by simp only [untN] at h2; omega, fun h => by simp only [untN] at h; omega⟩
  | r + 1, k => by
    simp only [untN]
    cases hc : c k with
    | true => simp only [if_true]; exact ⟨by omega, by omega, fun j h1 h2 => by omega, fun _ => hc⟩
    | false =>
      simp only [Bool.false_eq_true, if_false]
      obtain ⟨h1, h2, h3, h4⟩ := untN_in (c := c) r (k + 1)
      refine ⟨by omega, by omega, fun j h5 h6 => ?_, fun h => h4 (by omega)⟩
      rcases Nat.eq_or_lt_of_le h5 with h7 | h7
      · rw [← h7]; exact hc
      · exact h3 j (by omega) h6

def ptL (f : Fl) (k : Nat) : List Tm := (List.range k).map (ptV f)

theorem ptL_len {f : Fl} {k : Nat} : (ptL f k).length = k := by simp [ptL]

theorem ptL_succ {f : Fl} {k : Nat} : ptL f (k + 1) = ptL f k ++ [ptV f k] := by simp [ptL, List.range_succ]

theorem ptL_get {f : Fl} {k i : Nat} (h : i < k) : (ptL f k)[i]? = some (ptV f i) := by simp [ptL, h]

def untK (f : Fl) (t : Int) : Nat := untN (fun k => decide ((ptV f k).1 > t)) 0 60

def tkOk (n : Int) : Bool := decide (0 ≤ n ∧ n ≤ 100000)

def fuV (f : Fl) (t : Int) : List Tm × Bool := if flowOk f && tkOk t then (ptL f (untK f t), true) else ([], false)

def gapL (f : Fl) (k : Nat) : List Int := (List.range k).map fun b => gapV f ((b + 1 : Nat) : Int)

theorem gapL_len {f : Fl} {k : Nat} : (gapL f k).length = k := by simp [gapL]

theorem gapL_succ {f : Fl} {k : Nat} : gapL f (k + 1) = gapL f k ++ [gapV f ((k + 1 : Nat) : Int)] := by simp [gapL, List.range_succ]

def goV (f : Fl) (n : Int) : List Int × Bool := if flowOk f && decide (0 ≤ n ∧ n ≤ 40) then (gapL f n.toNat, true) else ([], false)

def shF (f : Fl) (t : Int) : Fl := (f.1, f.2.1, f.2.2.1, f.2.2.2.1, f.2.2.2.2.1, f.2.2.2.2.2.1 + t, f.2.2.2.2.2.2)

def sfV (f : Fl) (t : Int) : Fl × Bool := if flowOk f && (tkOk t && decide (f.2.2.2.2.2.1 + t ≤ 10000)) then (shF f t, true) else ((0, 0, 0, 0, 0, 0, 0, 0, 0), false)

theorem shF_ok {f : Fl} {t : Int} (h : flowOk f = true) (ht : tkOk t = true) : flowOk (shF f t) = decide (f.2.2.2.2.2.1 + t ≤ 10000) := by
  have hf := flowOk_in h
  simp only [tkOk, decide_eq_true_eq] at ht
  rw [Bool.eq_iff_iff, decide_eq_true_eq]
  constructor
  · intro hh
    have h2 := flowOk_in hh
    simp only [shF] at h2; omega
  · intro hh
    unfold flowOk shF
    rw [decide_eq_true_eq]
    refine ⟨?_, ?_, ?_, ?_, ?_, ?_, ?_, ?_, ?_, ?_, ?_, ?_, ?_, ?_, ?_, ?_, ?_, ?_⟩ <;> simp only <;> omega

abbrev At := Int × Int × Bool × ByteArray

def atOk1 (x : At) : Bool := decide (1 ≤ x.1 ∧ x.1 ≤ 8 ∧ 0 ≤ x.2.1 ∧ x.2.1 ≤ 32767 ∧ x.2.2.2.size ≤ 1000) && (!x.2.2.1 || decide (bl x.2.2.2 = []))

def nxM (x : At) : Int := if x.2.2.1 then IntKind.i64.wrap (x.1 + 1) else x.1

def moM (l : List At) (i : Nat) : Int := match i with
  | 0 => 1
  | j + 1 => match l[j]? with
    | some y => nxM y
    | none => 1

def goodL : Int → List At → Bool
  | _, [] => true
  | m, x :: r => (atOk1 x && decide (x.1 ≤ m)) && goodL (nxM x) r

def atsOk (l : List At) : Bool := goodL 1 l && decide (l.length ≤ 400)

theorem good_range {β : Type} {l : List At} {no : Option β} {fin : Bool → Option β} : ∀ (r : List At) (i : Nat) (t : Bool), l.drop i = r →
    rangeR (fun x i t k => oif (atOk1 x && decide (x.1 ≤ moM l i)) (k t) no) fin r i t = oif (goodL (moM l i) r) (fin t) no
  | [], i, t, _ => rfl
  | x :: r, i, t, h => by
    have hi : i < l.length := by
      rcases Nat.lt_or_ge i l.length with hlt | hge
      · exact hlt
      · rw [List.drop_eq_nil_of_le hge] at h; simp at h
    have e := List.drop_eq_getElem_cons hi
    rw [h] at e
    injection e with e1 e2
    have hm : moM l (i + 1) = nxM x := by
      simp only [moM]
      rw [List.getElem?_eq_getElem hi, ← e1]
    simp only [rangeR, goodL]
    cases hc : (atOk1 x && decide (x.1 ≤ moM l i)) with
    | false => rw [oif_f, Bool.false_and, oif_f]
    | true => rw [oif_t, Bool.true_and, good_range r (i + 1) t e2.symm, hm]

theorem at_prev {l : List At} {i : Nat} {x : At} (hx : l[i + 1]? = some x) : ∃ y, l[i]? = some y := by
  have := (List.getElem?_eq_some_iff.1 hx).1
  exact ⟨l[i], List.getElem?_eq_getElem (by omega)⟩

theorem q_AreAttrs {d : Nat} {l : List At} : g40 (d + 1) l = some (atsOk l) := by
  rw [e40]; unfold atsOk
  by_cases hl : ((l.length : Nat) : Int) > 400
  · rw [decide_eq_true hl, oif_t, decide_eq_false (by omega), Bool.and_false]
  rw [decide_eq_false hl, oif_f, decide_eq_true (show l.length ≤ 400 by omega), Bool.and_true]
  refine (range_eq (fun (t : Bool) (i : Int) => (t, i)) l (fun x i t k => oif (atOk1 x && decide (x.1 ≤ moM l i)) (k t) (some false)) (j40_0 d) ?_ ?_ (by rw [fuelN_eq]; omega) false).trans ?_
  · intro ag t i x hx
    have hi := (List.getElem?_eq_some_iff.1 hx).1
    simp only [l40_0, l40_0_b, ltl hx, nn, ofNat_toNat, hx, ob_s, oif_t]
    have bad : atOk1 x = false → oif (atOk1 x && decide (x.1 ≤ moM l i)) (ag (t, ((i + 1 : Nat) : Int))) (some false) = some false := fun h => by rw [h]; rfl
    have b15 : ∀ {p1 p2 p3 p4 p5 p6 p7 p8 p9 : Bool}, j40_2 d l ag t (i : Int) x p1 p2 p3 p4 p5 p6 p7 p8 p9 true = some false := rfl
    have b16 : ∀ {p1 p2 p3 p4 p5 p6 p7 p8 p9 : Bool}, j40_2 d l ag t (i : Int) x p1 p2 p3 p4 p5 p6 p7 p8 p9 false = oif (decide (x.1 ≤ moM l i)) (ag (t, ((i + 1 : Nat) : Int))) (some false) := by
      intro p1 p2 p3 p4 p5 p6 p7 p8 p9
      unfold j40_2
      rw [oif_f]
      unfold j40_1
      have leaf : ∀ m : Int, oif (decide (x.1 > m)) (some false) (ag (t, ((i + 1 : Nat) : Int))) = oif (decide (x.1 ≤ m)) (ag (t, ((i + 1 : Nat) : Int))) (some false) := by
        intro m
        by_cases h : x.1 > m
        · rw [decide_eq_true h, decide_eq_false (show ¬ x.1 ≤ m by omega)]; rfl
        · rw [decide_eq_false h, decide_eq_true (show x.1 ≤ m by omega)]; rfl
      rw [wr1 (by omega)]
      cases i with
      | zero =>
        rw [decide_eq_false (by omega), oif_f]
        exact leaf 1
      | succ j =>
        obtain ⟨y, hy⟩ := at_prev hx
        have e : (((j + 1 : Nat) : Int)) - 1 = (j : Int) := by omega
        have hm : moM l (j + 1) = nxM y := by simp only [moM]; rw [hy]
        rw [decide_eq_true (by omega), oif_t, wr (n := ((j + 1 : Nat) : Int) - 1) (by omega) (by omega), e, hm]
        simp only [nn, ofNat_toNat, oif_t, hy, ob_s]
        cases hb : y.2.2.1 with
        | true =>
          have : nxM y = IntKind.i64.wrap (y.1 + 1) := by unfold nxM; rw [hb]; rfl
          rw [this, oif_t]; exact leaf _
        | false =>
          have : nxM y = y.1 := by unfold nxM; rw [hb]; rfl
          rw [this, oif_f]; exact leaf _
    by_cases h1 : x.1 < 1
    · rw [decide_eq_true h1, oif_t, b15, bad (by unfold atOk1; rw [decide_eq_false (by omega)]; rfl)]
    rw [decide_eq_false h1, oif_f]
    by_cases h2 : x.1 > 8
    · rw [decide_eq_true h2, oif_t, b15, bad (by unfold atOk1; rw [decide_eq_false (by omega)]; rfl)]
    rw [decide_eq_false h2, oif_f]
    by_cases h3 : x.2.1 < 0
    · rw [decide_eq_true h3, oif_t, b15, bad (by unfold atOk1; rw [decide_eq_false (by omega)]; rfl)]
    rw [decide_eq_false h3, oif_f]
    by_cases h4 : x.2.1 > 32767
    · rw [decide_eq_true h4, oif_t, b15, bad (by unfold atOk1; rw [decide_eq_false (by omega)]; rfl)]
    rw [decide_eq_false h4, oif_f]
    by_cases h5 : ((x.2.2.2.size : Nat) : Int) > 1000
    · rw [decide_eq_true h5, oif_t, b15, bad (by unfold atOk1; rw [decide_eq_false (by omega)]; rfl)]
    rw [decide_eq_false h5, oif_f, bl_eq, bl_lit []]
    have hb : decide (1 ≤ x.1 ∧ x.1 ≤ 8 ∧ 0 ≤ x.2.1 ∧ x.2.1 ≤ 32767 ∧ x.2.2.2.size ≤ 1000) = true := decide_eq_true (by omega)
    unfold atOk1 at bad ⊢
    rw [hb] at bad ⊢
    cases hn : x.2.2.1 with
    | false => rw [oif_f, b16]; rfl
    | true =>
      rw [oif_t]
      cases hd : decide (bl x.2.2.2 = []) with
      | true => rw [Bool.not_true, b16]; rfl
      | false => rw [Bool.not_false, b15]; rfl
  · intro ag t; simp only [l40_0, l40_0_b, ltn, oif_f]
  · rw [good_range l 0 false rfl]
    show oif (goodL 1 l) (some true) (some false) = _
    cases goodL 1 l <;> rfl

theorem q_tvGood {d : Nat} {l : List At} (hl : l.length < 4194304) : g37 (d + 2) l = some (atsOk l) := by
  rw [e37]; unfold atsOk
  refine (range_eq (fun (t : Bool) (i : Int) => (t, i)) l (fun x i t k => oif (atOk1 x && decide (x.1 ≤ moM l i)) (k t) (some false)) (j37_0 (d + 1) l) ?_ ?_ (by rw [fuelN_eq]; exact hl) false).trans ?_
  · intro ag t i x hx
    have hi := (List.getElem?_eq_some_iff.1 hx).1
    simp only [l37_0, l37_0_b, ltl hx, nn, ofNat_toNat, hx, ob_s, oif_t]
    have key : ∀ (m : Int) (b : Bool), j37_2 (d + 1) ag t (i : Int) x m b = oif (atOk1 x && decide (x.1 ≤ m)) (ag (t, ((i + 1 : Nat) : Int))) (some false) := by
      intro m b
      unfold j37_2
      rw [q_l1Least, ob_s, q_l1In, ob_s, q_l1In]
      unfold j37_1
      rw [wr1 (by omega), bl_eq, bl_lit []]
      unfold atOk1
      by_cases h1 : 1 ≤ x.1 ∧ x.1 ≤ min m 8
      · rw [decide_eq_true h1, Bool.not_true, oif_f, ob_s]
        by_cases h3 : 0 ≤ x.2.1 ∧ x.2.1 ≤ 32767
        · rw [decide_eq_true h3, Bool.not_true, oif_f]
          by_cases h5 : ((x.2.2.2.size : Nat) : Int) > 1000
          · rw [decide_eq_true h5, oif_t, decide_eq_false (p := 1 ≤ x.1 ∧ x.1 ≤ 8 ∧ 0 ≤ x.2.1 ∧ x.2.1 ≤ 32767 ∧ x.2.2.2.size ≤ 1000) (by omega)]; rfl
          · rw [decide_eq_false h5, oif_f, decide_eq_true (p := 1 ≤ x.1 ∧ x.1 ≤ 8 ∧ 0 ≤ x.2.1 ∧ x.2.1 ≤ 32767 ∧ x.2.2.2.size ≤ 1000) (by omega), decide_eq_true (show x.1 ≤ m by omega)]
            cases x.2.2.1 with
            | false => rfl
            | true => cases decide (bl x.2.2.2 = []) <;> rfl
        · rw [decide_eq_false h3, decide_eq_false (p := 1 ≤ x.1 ∧ x.1 ≤ 8 ∧ 0 ≤ x.2.1 ∧ x.2.1 ≤ 32767 ∧ x.2.2.2.size ≤ 1000) (by omega)]; rfl
      · rw [decide_eq_false h1]
        have : (atOk1 x && decide (x.1 ≤ m)) = false := by
          unfold atOk1
          by_cases h2 : x.1 ≤ m
          · rw [decide_eq_false (p := 1 ≤ x.1 ∧ x.1 ≤ 8 ∧ 0 ≤ x.2.1 ∧ x.2.1 ≤ 32767 ∧ x.2.2.2.size ≤ 1000) (by omega)]; rfl
          · rw [decide_eq_false h2, Bool.and_false]
        unfold atOk1 at this
        rw [this]; rfl
    cases i with
    | zero =>
      rw [decide_eq_false (by omega), oif_f, key]; rfl
    | succ j =>
      obtain ⟨y, hy⟩ := at_prev hx
      have e : (((j + 1 : Nat) : Int)) - 1 = (j : Int) := by omega
      rw [decide_eq_true (by omega), oif_t, wr (n := ((j + 1 : Nat) : Int) - 1) (by omega) (by omega), e]
      have hm : moM l (j + 1) = nxM y := by simp only [moM]; rw [hy]
      rw [hm]
      simp only [nn, ofNat_toNat, oif_t, hy, ob_s, key]
      cases hb : y.2.2.1 with
      | true =>
        have : nxM y = IntKind.i64.wrap (y.1 + 1) := by unfold nxM; rw [hb]; rfl
        rw [this, oif_t]
      | false =>
        have : nxM y = y.1 := by unfold nxM; rw [hb]; rfl
        rw [this, oif_f]
  · intro ag t; simp only [l37_0, l37_0_b, ltn, oif_f]
  · rw [good_range l 0 false rfl]
    show oif (goodL 1 l) (some (decide (((l.length : Nat) : Int) ≤ 400))) (some false) = _
    have : decide (((l.length : Nat) : Int) ≤ 400) = decide (l.length ≤ 400) := by
      rw [Bool.eq_iff_iff, decide_eq_true_eq, decide_eq_true_eq]; omega
    rw [this]
    cases goodL 1 l <;> rfl

def hasV (l : List At) (i : Int) : Bool := atsOk l && decide (0 ≤ i ∧ i < (l.length : Int))

/-- The depths of attributes. -/
def dep (l : List At) (i : Nat) : Int := ((l[i]?).getD (0, 0, false, ⟨#[]⟩)).1

theorem dep_get {l : List At} {i : Nat} {x : At} (h : l[i]? = some x) : dep l i = x.1 := by unfold dep; rw [h]; rfl

theorem get_at {l : List At} {i : Nat} (h : i < l.length) : l[i]? = some ((l[i]?).getD (0, 0, false, ⟨#[]⟩)) := by
  rw [List.getElem?_eq_getElem h]; rfl

def enK (l : List At) (i : Nat) : Nat := untN (fun k => !decide (dep l k > dep l i)) (i + 1) (l.length - (i + 1))

theorem enK_in {l : List At} {i : Nat} (h : i < l.length) : i < enK l i ∧ enK l i ≤ l.length ∧ (∀ j, i < j → j < enK l i → dep l j > dep l i) ∧ (enK l i < l.length → dep l (enK l i) ≤ dep l i) := by
  obtain ⟨h1, h2, h3, h4⟩ := untN_in (c := fun k => !decide (dep l k > dep l i)) (l.length - (i + 1)) (i + 1)
  refine ⟨by unfold enK; omega, by unfold enK; omega, fun j h5 h6 => ?_, fun h5 => ?_⟩
  · have := h3 j (by omega) h6; simpa using this
  · have := h4 (by unfold enK at h5; omega)
    change (!decide (dep l (enK l i) > dep l i)) = true at this
    simp at this; omega

theorem count_lo {σ β : Type} {F : (σ → Option β) → σ → Option β} {S : Nat → σ} {a N : Nat} {fin : Option β} (h1 : ∀ ag k, a ≤ k → k < N → F ag (S k) = ag (S (k + 1))) (h2 : ∀ ag, F ag (S N) = fin) :
    ∀ (fuel r k : Nat), a ≤ k → k + r = N → r < fuel → iterP F fuel (S k) = fin
  | 0, r, k, _, _, h => by omega
  | fuel + 1, 0, k, _, h, _ => by
    simp only [iterP]
    have : k = N := by omega
    subst this; exact h2 _
  | fuel + 1, r + 1, k, ha, h, hf => by
    simp only [iterP]
    rw [h1 _ _ ha (by omega)]
    exact count_lo h1 h2 fuel r (k + 1) (by omega) (by omega) (by omega)

theorem end_step {β : Type} {l : List At} {i k : Nat} {x y : Option β} (h : i < l.length) (hk : k < l.length) : oif (decide ((k : Int) < ((l.length : Nat) : Int))) (oif (decide (0 ≤ (k : Int))) (obind (l[(k : Int).toNat]?) fun x5 => oif (decide (0 ≤ (i : Int))) (obind (l[(i : Int).toNat]?) fun x6 => oif (decide (x5.1 > x6.1)) x y) none) none) y = oif (decide (dep l k > dep l i)) x y := by
  rw [decide_eq_true (show (k : Int) < ((l.length : Nat) : Int) by omega), oif_t, nn, oif_t, ofNat_toNat, List.getElem?_eq_getElem hk, ob_s, nn, oif_t, ofNat_toNat, List.getElem?_eq_getElem h, ob_s]
  rw [dep_get (List.getElem?_eq_getElem hk), dep_get (List.getElem?_eq_getElem h)]

theorem goodL_all : ∀ {l : List At} {m : Int}, goodL m l = true → ∀ {j : Nat} {x : At}, l[j]? = some x → atOk1 x = true
  | [], m, _, j, x, h => by simp at h
  | y :: r, m, hg, 0, x, h => by
    simp only [goodL, Bool.and_eq_true] at hg
    simp at h; subst h; exact hg.1.1
  | y :: r, m, hg, j + 1, x, h => by
    simp only [goodL, Bool.and_eq_true] at hg
    exact goodL_all hg.2 (j := j) (by simpa using h)

theorem goodL_fst {l : List At} {m : Int} (hg : goodL m l = true) {x : At} (h : l[0]? = some x) : x.1 ≤ m := by
  cases l with
  | nil => simp at h
  | cons y r =>
    simp only [goodL, Bool.and_eq_true, decide_eq_true_eq] at hg
    simp at h; subst h; exact hg.1.2

theorem goodL_next : ∀ {l : List At} {m : Int}, goodL m l = true → ∀ {j : Nat} {y x : At}, l[j]? = some y → l[j + 1]? = some x → x.1 ≤ nxM y
  | [], m, _, j, y, x, h, _ => by simp at h
  | z :: r, m, hg, 0, y, x, h, h2 => by
    simp only [goodL, Bool.and_eq_true] at hg
    simp at h; subst h
    exact goodL_fst hg.2 (by simpa using h2)
  | z :: r, m, hg, j + 1, y, x, h, h2 => by
    simp only [goodL, Bool.and_eq_true] at hg
    exact goodL_next hg.2 (j := j) (by simpa using h) (by simpa using h2)

theorem atOk1_in {x : At} (h : atOk1 x = true) : 1 ≤ x.1 ∧ x.1 ≤ 8 ∧ 0 ≤ x.2.1 ∧ x.2.1 ≤ 32767 := by
  simp only [atOk1, Bool.and_eq_true, decide_eq_true_eq] at h
  omega

theorem nxM_le {x : At} (h : atOk1 x = true) : x.1 ≤ nxM x ∧ nxM x ≤ x.1 + 1 := by
  have := atOk1_in h
  unfold nxM
  rw [wr (n := x.1 + 1) (by omega) (by omega)]
  split <;> omega

theorem at_len {l : List At} (h : atsOk l = true) : l.length ≤ 400 := by
  simp only [atsOk, Bool.and_eq_true, decide_eq_true_eq] at h; exact h.2

theorem dep_in {l : List At} (h : atsOk l = true) {j : Nat} (hj : j < l.length) : 1 ≤ dep l j ∧ dep l j ≤ 8 := by
  simp only [atsOk, Bool.and_eq_true] at h
  have := atOk1_in (goodL_all h.1 (List.getElem?_eq_getElem hj))
  rw [dep_get (List.getElem?_eq_getElem hj)]; omega

theorem dep_step {l : List At} (h : atsOk l = true) {j : Nat} (hj : j + 1 < l.length) : dep l (j + 1) ≤ dep l j + 1 := by
  simp only [atsOk, Bool.and_eq_true] at h
  have h1 := goodL_next h.1 (List.getElem?_eq_getElem (show j < l.length by omega)) (List.getElem?_eq_getElem hj)
  have h2 := nxM_le (goodL_all h.1 (List.getElem?_eq_getElem (show j < l.length by omega)))
  rw [dep_get (List.getElem?_eq_getElem hj), dep_get (List.getElem?_eq_getElem (show j < l.length by omega))]; omega

/-- Children. -/
def isCh (l : List At) (i k : Nat) : Bool := decide (i < k) && decide (dep l k = dep l i + 1)

def chA (l : List At) (i : Nat) : Nat → List Int
  | 0 => []
  | k + 1 => if isCh l i k then chA l i k ++ [(k : Int)] else chA l i k

theorem chA_skip {l : List At} {i a : Nat} : ∀ (b : Nat), a ≤ b → (∀ j, a ≤ j → j < b → isCh l i j = false) → chA l i b = chA l i a
  | 0, h, _ => by rw [show a = 0 by omega]
  | b + 1, h, hn => by
    rcases Nat.eq_or_lt_of_le h with h1 | h1
    · rw [← h1]
    · simp only [chA]
      rw [hn b (by omega) (by omega)]
      simp only [Bool.false_eq_true, if_false]
      exact chA_skip b (by omega) (fun j h2 h3 => hn j h2 (by omega))

theorem chA_len {l : List At} {i : Nat} : ∀ k, (chA l i k).length ≤ k
  | 0 => by simp [chA]
  | k + 1 => by
    have := chA_len (l := l) (i := i) k
    simp only [chA]; split
    · simp; omega
    · omega

theorem chA_mem {l : List At} {i : Nat} : ∀ {k : Nat} {x : Int}, x ∈ chA l i k → ∃ j : Nat, x = (j : Int) ∧ j < k ∧ isCh l i j = true
  | 0, x, h => by simp [chA] at h
  | k + 1, x, h => by
    simp only [chA] at h
    split at h
    · next hc =>
      simp only [List.mem_append, List.mem_singleton] at h
      rcases h with h | h
      · obtain ⟨j, h1, h2, h3⟩ := chA_mem h; exact ⟨j, h1, by omega, h3⟩
      · exact ⟨k, h, by omega, hc⟩
    · obtain ⟨j, h1, h2, h3⟩ := chA_mem h; exact ⟨j, h1, by omega, h3⟩

theorem chA_self {l : List At} {i : Nat} : chA l i (i + 1) = [] := by
  rw [chA_skip (a := 0) (i + 1) (by omega) (fun j _ h => by unfold isCh; rw [decide_eq_false (by omega), Bool.false_and])]; rfl

def coV (l : List At) (i : Int) : List Int × Bool := if hasV l i then (chA l i.toNat (enK l i.toNat), true) else ([], false)

theorem hasV_in {l : List At} {i : Int} (h : hasV l i = true) : ∃ n : Nat, i = (n : Int) ∧ n < l.length ∧ atsOk l = true ∧ l.length ≤ 400 := by
  simp only [hasV, Bool.and_eq_true, decide_eq_true_eq] at h
  obtain ⟨n, rfl⟩ := Int.eq_ofNat_of_zero_le h.2.1
  exact ⟨n, rfl, by omega, h.1, at_len h.1⟩

theorem kid_end {l : List At} {n k : Nat} (hn : n < l.length) (hk : n < k) (hk2 : k < enK l n) : k < enK l k ∧ enK l k ≤ enK l n := by
  obtain ⟨k1, k2, k3, k4⟩ := enK_in hn
  obtain ⟨j1, j2, j3, j4⟩ := enK_in (show k < l.length by omega)
  refine ⟨j1, ?_⟩
  rcases Nat.lt_or_ge (enK l n) (enK l k) with h | h
  · have h1 := j3 (enK l n) hk2 h
    have h2 := k4 (by omega)
    have h3 := k3 k hk hk2
    omega
  · exact h

theorem kids_loop {β : Type} {l : List At} {n : Nat} {F : (List Int × Int → Option β) → List Int × Int → Option β} {fin : List Int → Option β} (ho : atsOk l = true) (hn : n < l.length)
    (h1 : ∀ ag t (k : Nat), k < enK l n → n < k → t.length ≤ 400 → F ag (t, (k : Int)) = ag (t ++ [(k : Int)], (enK l k : Int)))
    (h2 : ∀ ag t, F ag (t, (enK l n : Int)) = fin t) :
    ∀ (fuel k : Nat), n < k → k ≤ enK l n → (k < enK l n → dep l k = dep l n + 1) → enK l n - k < fuel → iterP F fuel (chA l n k, (k : Int)) = fin (chA l n (enK l n))
  | 0, k, _, _, _, h => by omega
  | fuel + 1, k, hk, hke, hd, hf => by
    obtain ⟨k1, k2, k3, k4⟩ := enK_in hn
    have h4 := at_len ho
    simp only [iterP]
    rcases Nat.eq_or_lt_of_le hke with he | hlt
    · rw [he, h2]
    · have hdk := hd hlt
      obtain ⟨e1, e2⟩ := kid_end hn hk hlt
      obtain ⟨j1, j2, j3, j4⟩ := enK_in (show k < l.length by omega)
      have hl := chA_len (l := l) (i := n) k
      rw [h1 _ _ k hlt hk (by omega)]
      have hch : isCh l n k = true := by unfold isCh; rw [decide_eq_true hk, decide_eq_true hdk]; rfl
      have ha : chA l n (enK l k) = chA l n k ++ [(k : Int)] := by
        rw [chA_skip (a := k + 1) (enK l k) (by omega) (fun j h5 h6 => by
          have := j3 j (by omega) h6
          unfold isCh; rw [decide_eq_false (show ¬ dep l j = dep l n + 1 by omega), Bool.and_false])]
        show (if isCh l n k then chA l n k ++ [(k : Int)] else chA l n k) = _
        rw [hch]; rfl
      rw [← ha]
      exact kids_loop ho hn h1 h2 fuel (enK l k) (by omega) e2 (fun h5 => by
        have h6 := j4 (by omega)
        have h7 := k3 (enK l k) (by omega) h5
        omega) (by omega)

def eoV (l : List At) (i : Int) : Int × Bool := if hasV l i then ((enK l i.toNat : Int), true) else (0, false)

/-- Parents. -/
def paI (l : List At) (d : Int) : Nat → Int
  | 0 => -1
  | k + 1 => if dep l k < d then (k : Int) else paI l d k

theorem paI_in {l : List At} {d : Int} : ∀ k : Nat, (paI l d k = -1 ∧ ∀ j, j < k → dep l j ≥ d) ∨ ∃ p : Nat, paI l d k = (p : Int) ∧ p < k ∧ dep l p < d ∧ ∀ j, p < j → j < k → dep l j ≥ d
  | 0 => .inl ⟨rfl, fun j h => by omega⟩
  | k + 1 => by
    simp only [paI]
    by_cases h : dep l k < d
    · rw [if_pos h]; exact .inr ⟨k, rfl, by omega, h, fun j h1 h2 => by omega⟩
    · rw [if_neg h]
      rcases paI_in (l := l) (d := d) k with ⟨h1, h2⟩ | ⟨p, h1, h2, h3, h4⟩
      · refine .inl ⟨h1, fun j hj => ?_⟩
        rcases Nat.eq_or_lt_of_le (show j ≤ k by omega) with h5 | h5
        · rw [h5]; omega
        · exact h2 j h5
      · refine .inr ⟨p, h1, by omega, h3, fun j h5 h6 => ?_⟩
        rcases Nat.eq_or_lt_of_le (show j ≤ k by omega) with h7 | h7
        · rw [h7]; omega
        · exact h4 j h5 h7

theorem pa_some {l : List At} (ho : atsOk l = true) {i : Nat} (hi : i < l.length) (hd : 2 ≤ dep l i) : ∃ p : Nat, paI l (dep l i) i = (p : Int) ∧ p < i ∧ dep l p = dep l i - 1 ∧ ∀ j, p < j → j < i → dep l j ≥ dep l i := by
  have h0 : dep l 0 ≤ 1 := by
    have hg := ho
    simp only [atsOk, Bool.and_eq_true] at hg
    rw [dep_get (List.getElem?_eq_getElem (show 0 < l.length by omega))]
    exact goodL_fst hg.1 (List.getElem?_eq_getElem (show 0 < l.length by omega))
  rcases paI_in (l := l) (d := dep l i) i with ⟨h1, h2⟩ | ⟨p, h1, h2, h3, h4⟩
  · rcases Nat.eq_zero_or_pos i with h | h
    · rw [h] at hd; omega
    · have := h2 0 h; omega
  · refine ⟨p, h1, h2, ?_, h4⟩
    have hs := dep_step ho (show p + 1 < l.length by omega)
    have : dep l (p + 1) ≥ dep l i := by
      rcases Nat.eq_or_lt_of_le (show p + 1 ≤ i by omega) with h | h
      · rw [h]; omega
      · exact h4 (p + 1) (by omega) h
    omega

/-- The parent of a child. -/
theorem pa_kid {l : List At} (ho : atsOk l = true) {n k : Nat} (hn : n < l.length) (hk : k < enK l n) (hc : isCh l n k = true) : paI l (dep l k) k = (n : Int) ∧ 2 ≤ dep l k := by
  simp only [isCh, Bool.and_eq_true, decide_eq_true_eq] at hc
  obtain ⟨k1, k2, k3, k4⟩ := enK_in hn
  have hd := dep_in ho hn
  refine ⟨?_, by omega⟩
  obtain ⟨p, h1, h2, h3, h4⟩ := pa_some ho (show k < l.length by omega) (by omega)
  rw [h1]
  rcases Nat.lt_trichotomy p n with h | h | h
  · have := h4 n h hc.1; omega
  · rw [h]
  · have := k3 p h (by omega); omega

/-- What is left without an attribute. -/
def drL (l : List At) (i : Nat) : List At := l.take i ++ l.drop (enK l i)

def doV (l : List At) (i : Int) : List At × Bool := if hasV l i then (drL l i.toNat, true) else ([], false)

theorem goodL_of : ∀ {l : List At} {m : Int}, (∀ x ∈ l, atOk1 x = true) → (∀ x, l[0]? = some x → x.1 ≤ m) → (∀ (j : Nat) y x, l[j]? = some y → l[j + 1]? = some x → x.1 ≤ nxM y) → goodL m l = true
  | [], m, _, _, _ => rfl
  | x :: r, m, h1, h2, h3 => by
    simp only [goodL, Bool.and_eq_true, decide_eq_true_eq]
    exact ⟨⟨h1 x (by simp), h2 x rfl⟩, goodL_of (fun y hy => h1 y (by simp [hy])) (fun y hy => h3 0 x y rfl (by simpa using hy)) (fun j y z hy hz => h3 (j + 1) y z (by simpa using hy) (by simpa using hz))⟩

theorem drL_get {l : List At} {i : Nat} (hi : i < l.length) (j : Nat) : (drL l i)[j]? = if j < i then l[j]? else l[enK l i + (j - i)]? := by
  unfold drL
  have hlen : (l.take i).length = i := by simp; omega
  by_cases h : j < i
  · rw [if_pos h, List.getElem?_append_left (by omega), List.getElem?_take, if_pos h]
  · rw [if_neg h, List.getElem?_append_right (by omega), List.getElem?_drop, hlen]

theorem drL_len {l : List At} {i : Nat} (hi : i < l.length) : (drL l i).length + (enK l i - i) = l.length := by
  obtain ⟨k1, k2, k3, k4⟩ := enK_in hi
  unfold drL; simp; omega

theorem drL_ok {l : List At} {i : Nat} (ho : atsOk l = true) (hi : i < l.length) : atsOk (drL l i) = true := by
  obtain ⟨k1, k2, k3, k4⟩ := enK_in hi
  have hlen := drL_len hi
  have h400 := at_len ho
  have hg := ho
  simp only [atsOk, Bool.and_eq_true] at hg
  unfold atsOk
  rw [decide_eq_true (show (drL l i).length ≤ 400 by omega), Bool.and_true]
  have dge : ∀ {j : Nat} {x : At}, l[j]? = some x → dep l j = x.1 := fun h => dep_get h
  refine goodL_of (fun x hx => ?_) (fun x hx => ?_) (fun j y x hy hx => ?_)
  · obtain ⟨j, hj, e⟩ := List.getElem_of_mem hx
    have : (drL l i)[j]? = some x := by rw [List.getElem?_eq_getElem hj, e]
    rw [drL_get hi] at this
    split at this
    · exact goodL_all hg.1 this
    · exact goodL_all hg.1 this
  · rw [drL_get hi] at hx
    split at hx
    · exact goodL_fst hg.1 hx
    · have h0 : i = 0 := by omega
      subst h0
      have hlt := (List.getElem?_eq_some_iff.1 hx).1
      have h1 := k4 (by omega)
      have h2 := goodL_fst hg.1 (List.getElem?_eq_getElem hi)
      rw [← dge (List.getElem?_eq_getElem hi)] at h2
      rw [show enK l 0 + (0 - 0) = enK l 0 by omega] at hx
      rw [dge hx] at h1; omega
  · rw [drL_get hi] at hy hx
    by_cases h : j + 1 < i
    · rw [if_pos (by omega)] at hy
      rw [if_pos h] at hx
      exact goodL_next hg.1 hy hx
    · rw [if_neg h] at hx
      by_cases h2 : j < i
      · rw [if_pos h2] at hy
        have he : j + 1 = i := by omega
        have hlt := (List.getElem?_eq_some_iff.1 hx).1
        rw [show enK l i + (j + 1 - i) = enK l i by omega] at hx hlt
        have h3 := k4 hlt
        rw [dge hx] at h3
        have h4 := goodL_next hg.1 hy (show l[j + 1]? = some (l[i]) by rw [he]; exact List.getElem?_eq_getElem hi)
        rw [← dge (List.getElem?_eq_getElem hi)] at h4
        omega
      · rw [if_neg h2] at hy
        rw [show enK l i + (j + 1 - i) = enK l i + (j - i) + 1 by omega] at hx
        exact goodL_next hg.1 hy hx

/-- Attributes in another one. -/
def dpr (x : At) : At := (IntKind.i64.wrap (x.1 + 1), x.2)

def wrL (k : Int) (l : List At) : List At := (1, k, true, ⟨#[]⟩) :: l.map dpr

def woV (k : Int) (l : List At) : List At × Bool := if atsOk l && atsOk (wrL k l) then (wrL k l, true) else ([], false)

theorem wr_range {β : Type} {fin : List At → Option β} : ∀ (l : List At) (i : Nat) (t : List At), t.length + l.length ≤ 100000 → rangeR (fun (x : At) _ (t : List At) k => oif (Nat.ble ((t.length + [(IntKind.i64.wrap (x.1 + 1), x.2)].length) * 40) roomMax) (k (t ++ [(IntKind.i64.wrap (x.1 + 1), x.2)])) none) fin l i t = fin (t ++ l.map dpr)
  | [], i, t, _ => by simp [rangeR]
  | x :: r, i, t, h => by
    simp only [rangeR]
    simp only [List.length_cons] at h
    rw [room (by simp; omega), oif_t, wr_range r (i + 1) _ (by rw [List.length_append]; simp; omega)]
    simp [dpr]

theorem wr_end {k : Int} {l : List At} (ho : atsOk l = true) (hw : atsOk (wrL k l) = true) : enK (wrL k l) 0 = (wrL k l).length := by
  obtain ⟨k1, k2, k3, k4⟩ := enK_in (l := wrL k l) (i := 0) (by simp [wrL])
  rcases Nat.lt_or_ge (enK (wrL k l) 0) (wrL k l).length with h | h
  · have h1 := k4 h
    obtain ⟨j, hj⟩ : ∃ j, enK (wrL k l) 0 = j + 1 := ⟨enK (wrL k l) 0 - 1, by omega⟩
    rw [hj] at h1 h
    have hjl : j < l.length := by simp [wrL] at h; omega
    have hd := dep_in ho hjl
    have e0 : dep (wrL k l) 0 = 1 := rfl
    have e1 : dep (wrL k l) (j + 1) = dep l j + 1 := by
      have hg : (wrL k l)[j + 1]? = some (dpr l[j]) := by simp [wrL, hjl]
      rw [dep_get hg, dep_get (List.getElem?_eq_getElem hjl)]
      rw [dep_get (List.getElem?_eq_getElem hjl)] at hd
      show IntKind.i64.wrap (l[j].1 + 1) = _
      rw [wr (by omega) (by omega)]
    omega
  · omega

/-- Attributes found by the types on the way down. -/
def typ (l : List At) (i : Nat) : Int := ((l[i]?).getD (0, 0, false, ⟨#[]⟩)).2.1

theorem typ_get {l : List At} {i : Nat} {x : At} (h : l[i]? = some x) : typ l i = x.2.1 := by unfold typ; rw [h]; rfl

def mt (l : List At) (ts : List Int) : Nat → Nat → Bool
  | 0, i => decide (typ l i = ts.getD 0 0)
  | t + 1, i => decide (typ l i = ts.getD (t + 1) 0) && mt l ts t (paI l (dep l i) i).toNat

theorem mt_typ {l : List At} {ts : List Int} {t i : Nat} (h : mt l ts t i = true) : typ l i = ts.getD t 0 := by
  cases t with
  | zero => simpa [mt] using h
  | succ t =>
    simp only [mt, Bool.and_eq_true, decide_eq_true_eq] at h
    exact h.1

theorem ts_get {ts : List Int} {t : Nat} (h : t < ts.length) : ts[t]? = some (ts.getD t 0) := by
  rw [List.getElem?_eq_getElem h]; simp [List.getD, List.getElem?_eq_getElem h]

theorem pa_one {l : List At} (ho : atsOk l = true) {i : Nat} (hi : i ≤ l.length) : paI l 1 i = -1 := by
  rcases paI_in (l := l) (d := 1) i with ⟨h, _⟩ | ⟨p, _, h2, h3, _⟩
  · exact h
  · have := dep_in ho (show p < l.length by omega); omega

def fiP (l : List At) (ts : List Int) (i : Nat) : Bool := decide (dep l i = (ts.length : Int)) && mt l ts (ts.length - 1) i

def fiI (p : Nat → Bool) : Nat → Nat → Int × Bool
  | 0, _ => (0, false)
  | r + 1, i => if p i then ((i : Int), true) else fiI p r (i + 1)

theorem fiI_in {p : Nat → Bool} : ∀ (r i : Nat), (fiI p r i).2 = true → ∃ k : Nat, (fiI p r i).1 = (k : Int) ∧ k < i + r ∧ p k = true
  | 0, i, h => by simp [fiI] at h
  | r + 1, i, h => by
    simp only [fiI] at h ⊢
    cases hp : p i with
    | true => simp only [hp, if_true]; exact ⟨i, rfl, by omega, hp⟩
    | false =>
      simp only [hp, Bool.false_eq_true, if_false] at h ⊢
      obtain ⟨k, h1, h2, h3⟩ := fiI_in r (i + 1) h
      exact ⟨k, h1, by omega, h3⟩

theorem fi_range {α τ : Type} {p : Nat → Bool} : ∀ (l : List α) (i : Nat) (t : τ), rangeR (fun _ i t k => oif (p i) (some ((i : Int), true)) (k t)) (fun _ => some (0, false)) l i t = some (fiI p l.length i)
  | [], i, t => rfl
  | x :: r, i, t => by
    simp only [rangeR, List.length_cons, fiI]
    cases p i with
    | true => rfl
    | false => rw [oif_f]; exact fi_range r (i + 1) t

def tyOk (ts : List Int) : Bool := decide (1 ≤ ts.length ∧ ts.length ≤ 8) && ts.all fun x => decide (0 ≤ x ∧ x ≤ 32767)

def faV (l : List At) (ts : List Int) : Int × Bool := if atsOk l && tyOk ts then fiI (fiP l ts) l.length 0 else (0, false)

def vOk (n : Int) : Bool := decide (0 ≤ n ∧ n ≤ 1000000000)

theorem q_nuValueD {d : Nat} {n : Int} : g96 (d + 2) n = some (vOk n) := by rw [e96, q_l1In, ob_s]; rfl

theorem orS8 {a b : Int} (h1 : 0 ≤ a) (h2 : a < 256) (h3 : 0 ≤ b) (h4 : b < 256) : IntKind.i64.wrap ((BitVec.ofInt IntKind.i64.bits a ||| BitVec.ofInt IntKind.i64.bits (IntKind.i64.wrap (b * 2 ^ (min (8 : Int).toNat IntKind.i64.bits)))).toNat : Int) = a + b * 256 := by
  have e0 : ((2 : Int) ^ (min (8 : Int).toNat IntKind.i64.bits)) = 256 := by decide
  rw [e0, wr (n := b * 256) (by omega) (by omega)]
  obtain ⟨x, rfl⟩ := Int.eq_ofNat_of_zero_le h1
  obtain ⟨y, rfl⟩ := Int.eq_ofNat_of_zero_le h3
  have hb : IntKind.i64.bits = 64 := rfl
  have e1 : (BitVec.ofInt IntKind.i64.bits ((y : Int) * 256)).toNat = 2 ^ 8 * y := by
    rw [hb, BitVec.toNat_ofInt]; omega
  have e2 : (BitVec.ofInt IntKind.i64.bits (x : Int)).toNat = x := by
    rw [hb, BitVec.toNat_ofInt]; omega
  rw [BitVec.toNat_or, e1, e2, Nat.or_comm, ← Nat.two_pow_add_eq_or_of_lt (show x < 2 ^ 8 by omega) y]
  rw [wr (by omega) (by omega)]; omega

theorem orS16 {a b : Int} (h1 : 0 ≤ a) (h2 : a < 65536) (h3 : 0 ≤ b) (h4 : b < 256) : IntKind.i64.wrap ((BitVec.ofInt IntKind.i64.bits a ||| BitVec.ofInt IntKind.i64.bits (IntKind.i64.wrap (b * 2 ^ (min (16 : Int).toNat IntKind.i64.bits)))).toNat : Int) = a + b * 65536 := by
  have e0 : ((2 : Int) ^ (min (16 : Int).toNat IntKind.i64.bits)) = 65536 := by decide
  rw [e0, wr (n := b * 65536) (by omega) (by omega)]
  obtain ⟨x, rfl⟩ := Int.eq_ofNat_of_zero_le h1
  obtain ⟨y, rfl⟩ := Int.eq_ofNat_of_zero_le h3
  have hb : IntKind.i64.bits = 64 := rfl
  have e1 : (BitVec.ofInt IntKind.i64.bits ((y : Int) * 65536)).toNat = 2 ^ 16 * y := by
    rw [hb, BitVec.toNat_ofInt]; omega
  have e2 : (BitVec.ofInt IntKind.i64.bits (x : Int)).toNat = x := by
    rw [hb, BitVec.toNat_ofInt]; omega
  rw [BitVec.toNat_or, e1, e2, Nat.or_comm, ← Nat.two_pow_add_eq_or_of_lt (show x < 2 ^ 16 by omega) y]
  rw [wr (by omega) (by omega)]; omega

theorem orS24 {a b : Int} (h1 : 0 ≤ a) (h2 : a < 16777216) (h3 : 0 ≤ b) (h4 : b < 256) : IntKind.i64.wrap ((BitVec.ofInt IntKind.i64.bits a ||| BitVec.ofInt IntKind.i64.bits (IntKind.i64.wrap (b * 2 ^ (min (24 : Int).toNat IntKind.i64.bits)))).toNat : Int) = a + b * 16777216 := by
  have e0 : ((2 : Int) ^ (min (24 : Int).toNat IntKind.i64.bits)) = 16777216 := by decide
  rw [e0, wr (n := b * 16777216) (by omega) (by omega)]
  obtain ⟨x, rfl⟩ := Int.eq_ofNat_of_zero_le h1
  obtain ⟨y, rfl⟩ := Int.eq_ofNat_of_zero_le h3
  have hb : IntKind.i64.bits = 64 := rfl
  have e1 : (BitVec.ofInt IntKind.i64.bits ((y : Int) * 16777216)).toNat = 2 ^ 24 * y := by
    rw [hb, BitVec.toNat_ofInt]; omega
  have e2 : (BitVec.ofInt IntKind.i64.bits (x : Int)).toNat = x := by
    rw [hb, BitVec.toNat_ofInt]; omega
  rw [BitVec.toNat_or, e1, e2, Nat.or_comm, ← Nat.two_pow_add_eq_or_of_lt (show x < 2 ^ 24 by omega) y]
  rw [wr (by omega) (by omega)]; omega

def rd4 (l : List UInt8) : Int := match l with
  | [a, b, c, e] => (a.toNat : Int) + (b.toNat : Int) * 256 + (c.toNat : Int) * 65536 + (e.toNat : Int) * 16777216
  | _ => -1

def rdV (s : ByteArray) : Int × Bool := if vOk (rd4 (bl s)) then (rd4 (bl s), true) else (0, false)

theorem by_lt (a : UInt8) : 0 ≤ (a.toNat : Int) ∧ (a.toNat : Int) < 256 := ⟨by omega, by have := a.toNat_lt; omega⟩

theorem four {l : List UInt8} (h : l.length = 4) : ∃ a b c e, l = [a, b, c, e] := by
  match l, h with
  | [a, b, c, e], _ => exact ⟨a, b, c, e, rfl⟩

theorem rd4_no {l : List UInt8} (h : l.length ≠ 4) : rd4 l = -1 := by
  unfold rd4
  split
  · simp at h
  · rfl

theorem q_ReadData {d : Nat} {s : ByteArray} : g84 (d + 1) s = some (rdV s) := by
  rw [e84]
  by_cases h : s.size = 4
  · have h' : (bl s).length = 4 := by rw [← bl_len]; exact h
    obtain ⟨a, b, c, e, hl⟩ := four h'
    simp only [h, bl_def, hl, List.getElem?_cons_zero, List.getElem?_cons_succ, ob_s]
    rw [show ((((4 : Nat) : Int) : Int) != 4) = false from rfl, oif_f]
    obtain ⟨a0, a1⟩ := by_lt a
    obtain ⟨b0, b1⟩ := by_lt b
    obtain ⟨c0, c1⟩ := by_lt c
    obtain ⟨f0, f1⟩ := by_lt e
    rw [wr (n := (a.toNat : Int)) (by omega) (by omega), wr (n := (b.toNat : Int)) (by omega) (by omega), wr (n := (c.toNat : Int)) (by omega) (by omega), wr (n := (e.toNat : Int)) (by omega) (by omega)]
    rw [orS8 a0 a1 b0 b1, orS16 (by omega) (by omega) c0 c1, orS24 (by omega) (by omega) f0 f1]
    have hN : rd4 (bl s) = (a.toNat : Int) + (b.toNat : Int) * 256 + (c.toNat : Int) * 65536 + (e.toNat : Int) * 16777216 := by rw [hl]; rfl
    have hpos : 0 ≤ (a.toNat : Int) + (b.toNat : Int) * 256 + (c.toNat : Int) * 65536 + (e.toNat : Int) * 16777216 := by omega
    unfold rdV
    rw [hN]
    generalize (a.toNat : Int) + (b.toNat : Int) * 256 + (c.toNat : Int) * 65536 + (e.toNat : Int) * 16777216 = n at hpos ⊢
    cases hv : vOk n with
    | true =>
      have := hv
      simp only [vOk, decide_eq_true_eq] at this
      rw [decide_eq_false (by omega), oif_f, if_pos rfl]
    | false =>
      have := hv
      simp only [vOk, decide_eq_false_iff_not] at this
      rw [decide_eq_true (by omega), oif_t, if_neg (by decide)]
  · have : ((((s : ByteArray).size : Int) : Int) != 4) = true := by simp; omega
    rw [this, oif_t]
    unfold rdV
    rw [rd4_no (by rw [← bl_len]; exact h)]; rfl

theorem q_enRead {d : Nat} {s : ByteArray} : g80 (d + 3) s = some (if vOk (rd4 (bl s)) then rd4 (bl s) else -1) := by
  rw [e80]
  by_cases h : s.size = 4
  · have h' : (bl s).length = 4 := by rw [← bl_len]; exact h
    obtain ⟨a, b, c, e, hl⟩ := four h'
    rw [h, show ((((4 : Nat) : Int) : Int) != 4) = false from rfl, oif_f]
    obtain ⟨a0, a1⟩ := by_lt a
    obtain ⟨b0, b1⟩ := by_lt b
    obtain ⟨c0, c1⟩ := by_lt c
    obtain ⟨f0, f1⟩ := by_lt e
    have t0 : g95 (d + 2) s 0 = some ((a.toNat : Int) + 256 * (b.toNat : Int)) := by
      rw [e95]
      simp only [bl_def, hl]
      rw [show (0 : Int).toNat = 0 from rfl, show IntKind.i64.wrap (0 + 1) = 1 from by rw [wr (by omega) (by omega)]; rfl, show (1 : Int).toNat = 1 from rfl]
      simp only [List.getElem?_cons_zero, List.getElem?_cons_succ, ob_s]
      rw [decide_eq_true (by omega), oif_t, decide_eq_true (by omega), oif_t, wr (n := (a.toNat : Int)) (by omega) (by omega), wr (n := (b.toNat : Int)) (by omega) (by omega), wr (n := 256 * (b.toNat : Int)) (by omega) (by omega), wr (by omega) (by omega)]
    have t2 : g95 (d + 2) s 2 = some ((c.toNat : Int) + 256 * (e.toNat : Int)) := by
      rw [e95]
      simp only [bl_def, hl]
      rw [show (2 : Int).toNat = 2 from rfl, show IntKind.i64.wrap (2 + 1) = 3 from by rw [wr (by omega) (by omega)]; rfl, show (3 : Int).toNat = 3 from rfl]
      simp only [List.getElem?_cons_zero, List.getElem?_cons_succ, ob_s]
      rw [decide_eq_true (by omega), oif_t, decide_eq_true (by omega), oif_t, wr (n := (c.toNat : Int)) (by omega) (by omega), wr (n := (e.toNat : Int)) (by omega) (by omega), wr (n := 256 * (e.toNat : Int)) (by omega) (by omega), wr (by omega) (by omega)]
    rw [t0, ob_s, t2, ob_s, wr (n := 65536 * _) (by omega) (by omega), wr (by omega) (by omega), q_nuValueD, ob_s]
    have hN : rd4 (bl s) = (a.toNat : Int) + 256 * (b.toNat : Int) + 65536 * ((c.toNat : Int) + 256 * (e.toNat : Int)) := by
      rw [hl]; show (a.toNat : Int) + (b.toNat : Int) * 256 + (c.toNat : Int) * 65536 + (e.toNat : Int) * 16777216 = _; omega
    rw [hN]
    generalize (a.toNat : Int) + 256 * (b.toNat : Int) + 65536 * ((c.toNat : Int) + 256 * (e.toNat : Int)) = n
    cases vOk n <;> rfl
  · have : ((((s : ByteArray).size : Int) : Int) != 4) = true := by simp; omega
    rw [this, oif_t, rd4_no (by rw [← bl_len]; exact h)]; rfl

theorem range_any {α τ : Type} {p : α → Bool} : ∀ (l : List α) (i : Nat) (t : τ), rangeR (fun x _ t k => oif (p x) (some true) (k t)) (fun _ => some false) l i t = some (l.any p)
  | [], i, t => rfl
  | x :: r, i, t => by
    simp only [rangeR, List.any_cons]
    cases p x with
    | true => rfl
    | false => exact range_any r (i + 1) t

def KW : List ByteArray := [(⟨#[113, 100, 105, 115, 99]⟩ : ByteArray), (⟨#[100, 101, 102, 97, 117, 108, 116]⟩ : ByteArray), (⟨#[99, 108, 97, 115, 115]⟩ : ByteArray), (⟨#[114, 97, 116, 101]⟩ : ByteArray), (⟨#[99, 101, 105, 108]⟩ : ByteArray), (⟨#[98, 117, 114, 115, 116]⟩ : ByteArray), (⟨#[99, 98, 117, 114, 115, 116]⟩ : ByteArray), (⟨#[112, 114, 105, 111]⟩ : ByteArray), (⟨#[108, 105, 109, 105, 116]⟩ : ByteArray), (⟨#[102, 105, 108, 116, 101, 114]⟩ : ByteArray), (⟨#[115, 111, 117, 114, 99, 101]⟩ : ByteArray), (⟨#[100, 101, 115, 116]⟩ : ByteArray), (⟨#[112, 111, 114, 116]⟩ : ByteArray), (⟨#[109, 97, 114, 107]⟩ : ByteArray)]

def sm (c : UInt8) : Bool := decide (97 ≤ c.toNat ∧ c.toNat ≤ 122)

theorem q_isSmall {d : Nat} {c : UInt8} : g82 (d + 1) (c.toNat : Int) = some (sm c) := by
  rw [e82]; unfold sm; simp only [oif_ss]; congr 1; rw [Bool.eq_iff_iff]; simp; omega

def kyB (s : ByteArray) : Bool := KW.any fun w => decide (bl w = bl s)

theorem q_IsKey {d : Nat} {s : ByteArray} : g83 (d + 1) s = some (kyB s) := by
  rw [e83]
  refine (range_eq (fun (t : Bool) (i : Int) => (t, i)) KW (fun w _ t k => oif (decide (bl w = bl s)) (some true) (k t)) (fun _ => some false) ?_ ?_ (by rw [fuelN_eq]; decide) false).trans (range_any KW 0 _)
  · intro ag t i x hx
    have hi := (List.getElem?_eq_some_iff.1 hx).1
    have h14 : KW.length = 14 := rfl
    simp only [l83_0, l83_0_b]
    change oif (decide ((i : Int) < 14)) (oif (decide (0 ≤ (i : Int))) (obind (KW[(i : Int).toNat]?) _) none) _ = _
    rw [decide_eq_true (show (i : Int) < 14 by omega), oif_t, nn, oif_t, ofNat_toNat, hx, ob_s, bl_eq, wr1 (by omega)]
  · intro ag t
    simp only [l83_0, l83_0_b]
    rw [decide_eq_false (show ¬ ((KW.length : Nat) : Int) < 14 by decide), oif_f]; rfl

theorem q_sIsKey {d : Nat} {s : ByteArray} : g94 (d + 2) s = some (kyB s) := by
  rw [e94, e108, ob_s, e107]
  have : ∀ X : Option Bool, X = some (kyB s) → obind X (fun r3 => some r3) = some (kyB s) := fun X h => by rw [h]; rfl
  refine this _ ?_
  refine (range_eq (fun (t : Bool) (i : Int) => (t, i)) KW (fun w _ t k => oif (decide (bl w = bl s)) (some true) (k t)) (fun _ => some false) ?_ ?_ (by rw [fuelN_eq]; decide) false).trans (range_any KW 0 _)
  · intro ag t i x hx
    have hi := (List.getElem?_eq_some_iff.1 hx).1
    have h14 : KW.length = 14 := rfl
    simp only [l107_0, l107_0_b]
    change oif (decide ((i : Int) < ((KW.length : Nat) : Int))) (oif (decide (0 ≤ (i : Int))) (obind (KW[(i : Int).toNat]?) _) none) _ = _
    rw [decide_eq_true (show (i : Int) < ((KW.length : Nat) : Int) by omega), oif_t, nn, oif_t, ofNat_toNat, hx, ob_s, bl_eq, wr1 (by omega)]
  · intro ag t
    simp only [l107_0, l107_0_b]
    change oif (decide (((KW.length : Nat) : Int) < ((KW.length : Nat) : Int))) _ _ = _
    rw [ltn, oif_f]; rfl

theorem extAll : ExtAll Tryd.prog pvAnn := ExtAll.no (fun _ => rfl) (fun _ => rfl)

end Go.Proofs.YtpjlbjkeekobnaaDoor
