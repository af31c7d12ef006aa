/-
  The law FnAttributes by value: attributes, their bytes and back.
  Conditions: bytes.
-/
import Derived.Test.YtpjlbjkeekobnaaFnAttributesK
set_option linter.all false
namespace Go.Proofs.Ytpjlbjkeekobnaa
open Go.Ev Go.Pv

theorem wrA {a b : Nat} (h : a + b ≤ 4000000000000000) : IntKind.i64.wrap ((a : Int) + (b : Int)) = ((a + b : Nat) : Int) := by
  rw [wr (by omega) (by omega)]; omega

theorem bl_strL (l : List Int) : bl (strL l) = l.map fun n => UInt8.ofNat n.toNat := by simp [bl, strL]

def toB (l : List UInt8) : ByteArray := ⟨l.toArray⟩

theorem bl_toB (l : List UInt8) : bl (toB l) = l := by simp [bl, toB]

theorem toB_bl (s : ByteArray) : toB (bl s) = s := bl_inj.1 (bl_toB _)

theorem toB_app (a b : List UInt8) : toB a ++ toB b = toB (a ++ b) := bl_inj.1 (by rw [bl_app, bl_toB, bl_toB, bl_toB])

theorem toB_size (l : List UInt8) : (toB l).size = l.length := by rw [bl_len, bl_toB]

def ht : Fo → Nat
  | .nil => 0
  | .leaf _ _ n => ht n
  | .node _ k n => max (ht k + 1) (ht n)

def tyF : Fo → Prop
  | .nil => True
  | .leaf t b n => (0 ≤ t ∧ t ≤ 100000 ∧ b.size ≤ 100000) ∧ tyF n
  | .node t k n => (0 ≤ t ∧ t ≤ 100000) ∧ tyF k ∧ tyF n

theorem okF_ty : ∀ {F : Fo} {d : Int}, okF d F → tyF F
  | .nil, d, _ => trivial
  | .leaf t b n, d, h => ⟨⟨by have := h.1; omega, by have := h.1; omega, by have := h.1; omega⟩, okF_ty h.2⟩
  | .node t k n, d, h => ⟨⟨by have := h.1; omega, by have := h.1; omega⟩, okF_ty h.2.1, okF_ty h.2.2⟩

theorem okF_ht : ∀ {F : Fo} {d : Int}, okF d F → 1 ≤ d → d ≤ 9 → (ht F : Int) + d ≤ 9
  | .nil, d, _, _, h => by simp only [ht]; omega
  | .leaf t b n, d, h, h1, h2 => by simp only [ht]; exact okF_ht h.2 h1 h2
  | .node t k n, d, h, h1, h2 => by
    have a := okF_ht h.2.1 (by omega) (by have := h.1; omega)
    have b := okF_ht h.2.2 h1 h2
    simp only [ht]; omega

theorem tyF_sz : ∀ {F : Fo} (d : Int), tyF F → (encF F).length ≤ 100100 * (flat d F).length
  | .nil, d, _ => by simp [encF, flat]
  | .leaf t b n, d, h => by
    have := tyF_sz (F := n) d h.2
    have hb := h.1.2.2
    rw [bl_len] at hb
    have := pad4_le (bl b).length
    simp only [encF, flat, List.length_append, List.length_cons, w2_len, List.length_replicate]; omega
  | .node t k n, d, h => by
    have := tyF_sz (F := n) d h.2.2
    have := tyF_sz (F := k) (d + 1) h.2.1
    simp only [encF, flat, List.length_append, List.length_cons, w2_len]; omega

theorem flat_len : ∀ (F : Fo) (d e : Int), (flat d F).length = (flat e F).length
  | .nil, d, e => rfl
  | .leaf t b n, d, e => by simp only [flat, List.length_cons, flat_len n d e]
  | .node t k n, d, e => by simp only [flat, List.length_cons, List.length_append, flat_len n d e, flat_len k (d + 1) (e + 1)]

/-- Words of two bytes. -/
theorem tvWord_eq {d : Nat} {n : Int} (h0 : 0 ≤ n) (h1 : n ≤ 9000000000000000000) : g49 (d + 1) n = some (toB (w2 n)) := by
  rw [e49]
  congr 1
  rw [← bl_inj, bl_strL, bl_toB]
  have e1 : IntKind.u8.wrap (n.tmod 256) = n % 256 := by rw [Int.tmod_eq_emod_of_nonneg h0]; show n % 256 % 256 = n % 256; omega
  have e2 : IntKind.u8.wrap (IntKind.i64.wrap (n.tdiv 256)) = n / 256 % 256 := by rw [Int.tdiv_eq_ediv_of_nonneg h0, wr (by omega) (by omega)]; rfl
  simp only [List.map_cons, List.map_nil, e1, e2]; rfl

theorem little_eq {d : Nat} {n : Int} : g74 (d + 1) n = some (toB (w2 n)) := by
  rw [e74]
  congr 1
  rw [← bl_inj, bl_strL, bl_toB]
  have e2 : IntKind.u8.wrap (n.fdiv (2 ^ (min (8 : Int).toNat IntKind.i64.bits))) = n / 256 % 256 := by
    rw [show (2 : Int) ^ (min (8 : Int).toNat IntKind.i64.bits) = 256 from rfl, Int.fdiv_eq_ediv_of_nonneg _ (by omega)]; rfl
  have e1 : IntKind.u8.wrap n = n % 256 := rfl
  simp only [List.map_cons, List.map_nil, e1, e2]; rfl

theorem tvPad_eq {d : Nat} {n : Nat} (h1 : n ≤ 1000000000000000) : g79 (d + 1) (n : Int) = some ((pad4 n : Nat) : Int) := by
  rw [e79, wr (n := (n : Int) + 3) (by omega) (by omega), show ((n : Int) + 3).tdiv 4 = (((n + 3) / 4 : Nat) : Int) from rfl, wr (n := (((n + 3) / 4 : Nat) : Int)) (by omega) (by omega), wr (by omega) (by omega)]
  rfl

theorem zer_one (k : Nat) : List.replicate (k + 1) (0 : UInt8) = 0 :: List.replicate k 0 := rfl

/-- The padding of a binary form, by the other package. -/
theorem tail_eq {d : Nat} {s6 : ByteArray} {n : Nat} (hn : n = 4 + s6.size) (hs : s6.size ≤ 100000000000) : ∀ (k fuel : Nat) (x : List UInt8), x.length + k = pad4 n → k ≤ 3 → k < fuel →
    iterP (l82_0 (d + 1) s6 (j82_0 (d + 1))) fuel (toB x) = some (toB (x ++ List.replicate k 0))
  | _, 0, _, _, _, h => by omega
  | 0, fuel + 1, x, h, hk, hf => by
    have hp := pad4_le n
    simp only [iterP, l82_0, l82_0_b]
    rw [wr (by omega) (by omega), show (4 : Int) + ((s6.size : Nat) : Int) = ((n : Nat) : Int) by omega, tvPad_eq (by omega), ob_s, toB_size, decide_eq_false (by omega), oif_f]
    unfold j82_0
    simp
  | k + 1, fuel + 1, x, h, hk, hf => by
    have hp := pad4_le n
    simp only [iterP, l82_0, l82_0_b]
    rw [wr (by omega) (by omega), show (4 : Int) + ((s6.size : Nat) : Int) = ((n : Nat) : Int) by omega, tvPad_eq (by omega), ob_s, toB_size, decide_eq_true (by omega), oif_t, room2 (by show x.length + 1 ≤ _; omega)]
    rw [show toB x ++ (⟨#[0]⟩ : ByteArray) = toB (x ++ [0]) from toB_app x [0]]
    have := tail_eq (d := d) hn hs k fuel (x ++ [0]) (by simp; omega) (by omega) (by omega)
    rw [zer_one]
    simpa using this

theorem tvOne_eq {d : Nat} {b : ByteArray} {t : Int} (hb : b.size ≤ 100000000000) (h0 : 0 ≤ t) (h1 : t ≤ 200000) : j82_1 (d + 1) b t = some (toB (w2 ((4 + (bl b).length : Nat) : Int) ++ (w2 t ++ (bl b ++ List.replicate (pad4 (bl b).length - (bl b).length) 0)))) := by
  have hl : b.size = (bl b).length := bl_len b
  have hp := pad4_le (bl b).length
  unfold j82_1
  rw [wr (by omega) (by omega), show (4 : Int) + ((b.size : Nat) : Int) = ((4 + (bl b).length : Nat) : Int) by omega, tvWord_eq (by omega) (by omega), ob_s, tvWord_eq (by omega) (by omega), ob_s, room2 (by rw [toB_size, toB_size, w2_len, w2_len]; omega), toB_app, room2 (by rw [toB_size, List.length_append, w2_len, w2_len]; omega)]
  rw [show toB (w2 ((4 + (bl b).length : Nat) : Int) ++ w2 t) ++ b = toB ((w2 ((4 + (bl b).length : Nat) : Int) ++ w2 t) ++ bl b) from bl_inj.1 (by rw [bl_app, bl_toB, bl_toB])]
  rw [tail_eq (d := d) (n := 4 + (bl b).length) (by omega) hb (pad4 (bl b).length - (bl b).length) fuelN _ (by rw [pad4_add]; simp [w2_len]; omega) (by omega) (by rw [fuelN_eq]; omega)]
  simp only [List.append_assoc]

/-- The binary form of a forest, by the other package. -/
theorem all_loop {l : List At} (hl : l.length < 4194304) : ∀ (F : Fo) {k dd fuel : Nat} {pre r : List At} {d : Int} {x : List UInt8} {e : Int}, ht F ≤ k → tyF F → l = pre ++ (flat d F ++ r) → (∀ y, r[0]? = some y → y.1 ≤ d) → (flat d F).length < fuel → x.length + (encF F).length ≤ 100000000000 → e = ((pre.length + (flat d F).length : Nat) : Int) →
    iterP (l46_0 (dd + 2 * k + 2) l e (j46_0 (dd + 2 * k + 2))) fuel (toB x, ((pre.length : Nat) : Int)) = some (toB (x ++ encF F))
  | _, k, dd, 0, pre, r, d, x, e, _, _, _, _, h, _, _ => by omega
  | .nil, k, dd, fuel + 1, pre, r, d, x, e, hk, hty, e1, hr, hf, hx, he => by
    simp only [iterP, l46_0, l46_0_b, flat, List.length_nil] at he ⊢
    rw [decide_eq_false (by omega), oif_f]
    unfold j46_0
    simp [encF]
  | .leaf t b n, k, dd, fuel + 1, pre, r, d, x, e, hk, hty, e1, hr, hf, hx, he => by
    simp only [ht] at hk
    obtain ⟨⟨t1, t2, t3⟩, hn⟩ := hty
    have e2 : l = (pre ++ [(d, t, false, b)]) ++ (flat d n ++ r) := by rw [e1]; simp [flat]
    have hll := congrArg List.length e2
    have hxs := congrArg List.length (show encF (.leaf t b n) = _ from rfl)
    simp only [flat, List.length_cons, List.length_append, List.length_nil] at he hf hx hll
    simp only [encF, List.length_append] at hx hxs
    have hi : pre.length < l.length := by omega
    have hget : l[pre.length]? = some (d, t, false, b) := by rw [e1]; simp [flat]
    have hen : enK l pre.length = pre.length + 1 := by
      have := en_at (pre := pre) (k := []) (r := flat d n ++ r) (x := (d, t, false, b)) (by simp) (fun y hy => flat_fst hy hr)
      rw [e1]; simpa [flat] using this
    simp only [iterP, l46_0, l46_0_b]
    rw [decide_eq_true (by omega), oif_t, show dd + 2 * k + 2 = (dd + 2 * k + 1) + 1 by omega, e82, nn, oif_t, ofNat_toNat, hget, ob_s, oif_t, ob_s, oif_t, ob_s]
    simp only [oif_f]
    rw [show dd + 2 * k + 1 = (dd + 2 * k) + 1 by omega, tvOne_eq (by omega) t1 (by omega), ob_s, room2 (by rw [toB_size, toB_size]; simp only [List.length_append]; omega), toB_app, show dd + 2 * k + 1 + 1 = (dd + 2 * k + 1) + 1 by omega, q_tvEnd hi hl, ob_s, hen]
    have := all_loop hl n (k := k) (dd := dd) (fuel := fuel) (pre := pre ++ [(d, t, false, b)]) (r := r) (d := d) (x := x ++ (w2 ((4 + (bl b).length : Nat) : Int) ++ (w2 t ++ (bl b ++ List.replicate (pad4 (bl b).length - (bl b).length) 0)))) (e := e) hk hn e2 hr (by omega) (by simp only [List.length_append]; omega) (by simp only [List.length_append, List.length_cons, List.length_nil]; omega)
    rw [List.length_append, List.append_assoc] at this
    rw [encF]
    exact this
  | .node t K n, k, dd, fuel + 1, pre, r, d, x, e, hk, hty, e1, hr, hf, hx, he => by
    simp only [ht] at hk
    obtain ⟨⟨t1, t2⟩, hK, hn⟩ := hty
    obtain ⟨k', rfl⟩ : ∃ k', k = k' + 1 := ⟨k - 1, by omega⟩
    have e2 : l = (pre ++ ((d, t, true, ⟨#[]⟩) :: flat (d + 1) K)) ++ (flat d n ++ r) := by rw [e1]; simp [flat]
    have e3 : l = (pre ++ [(d, t, true, ⟨#[]⟩)]) ++ (flat (d + 1) K ++ (flat d n ++ r)) := by rw [e1]; simp [flat]
    have hll := congrArg List.length e2
    simp only [flat, List.length_cons, List.length_append, List.length_nil] at he hf hll
    simp only [encF, List.length_append] at hx
    have hi : pre.length < l.length := by omega
    have hget : l[pre.length]? = some (d, t, true, ⟨#[]⟩) := by rw [e1]; simp [flat]
    have hr2 : ∀ y, (flat d n ++ r)[0]? = some y → y.1 ≤ d := fun y hy => flat_fst hy hr
    have hen : enK l pre.length = pre.length + 1 + (flat (d + 1) K).length := by
      have := en_at (pre := pre) (k := flat (d + 1) K) (r := flat d n ++ r) (x := (d, t, true, ⟨#[]⟩)) (fun y hy => by have := flat_dep hy; show d < y.1; omega) hr2
      rw [e1]; simpa [flat] using this
    have hkid := all_loop hl K (k := k') (dd := dd) (fuel := fuelN) (pre := pre ++ [(d, t, true, ⟨#[]⟩)]) (r := flat d n ++ r) (d := d + 1) (x := []) (e := ((pre.length + 1 + (flat (d + 1) K).length : Nat) : Int)) (by omega) hK e3 (fun y hy => by have := hr2 y hy; omega) (by rw [fuelN_eq]; omega) (by simp; omega) (by simp)
    rw [List.nil_append, List.length_append] at hkid
    have hm := enc_mod K
    have hpz : pad4 (bl (toB (encF K))).length - (bl (toB (encF K))).length = 0 := by rw [bl_toB]; unfold pad4; omega
    simp only [iterP, l46_0, l46_0_b]
    rw [decide_eq_true (by omega), oif_t, show dd + 2 * (k' + 1) + 2 = (dd + 2 * k' + 3) + 1 by omega, e82, nn, oif_t, ofNat_toNat, hget, ob_s, oif_t, ob_s, oif_t, ob_s]
    simp only [oif_t]
    rw [show dd + 2 * k' + 3 = (dd + 2 * k' + 2) + 1 by omega, q_tvEnd hi hl, ob_s, hen, e46, wr1 (by omega)]
    have e0 : toB [] = (⟨#[]⟩ : ByteArray) := rfl
    rw [e0] at hkid
    simp only [List.length_cons, List.length_nil] at hkid
    rw [hkid, ob_s, wr (by omega) (by omega), tvOne_eq (by rw [toB_size]; omega) (by omega) (by omega), ob_s, hpz, bl_toB, room2 (by rw [toB_size, toB_size]; simp only [List.length_append, w2_len, List.length_replicate]; omega), toB_app, q_tvEnd hi hl, ob_s, hen]
    have := all_loop hl n (k := k' + 1) (dd := dd) (fuel := fuel) (pre := pre ++ ((d, t, true, ⟨#[]⟩) :: flat (d + 1) K)) (r := r) (d := d) (x := x ++ (w2 ((4 + (encF K).length : Nat) : Int) ++ (w2 (t + 32768) ++ encF K))) (e := e) (by omega) hn e2 hr (by omega) (by simp only [List.length_append, w2_len]; simp only [w2_len] at hx; omega) (by simp only [List.length_append, List.length_cons]; omega)
    rw [List.length_append, List.length_cons, List.append_assoc] at this
    rw [encF, List.replicate_zero, List.append_nil, show dd + 2 * k' + 2 + 1 + 1 = dd + 2 * (k' + 1) + 2 by omega, show pre.length + 1 + (flat (d + 1) K).length = pre.length + ((flat (d + 1) K).length + 1) by omega]
    exact this

/-- The length of the binary form of a forest, by the other package. -/
theorem len_loop {l : List At} (hl : l.length < 4194304) : ∀ (F : Fo) {k dd fuel : Nat} {pre r : List At} {d : Int} {x : Nat} {e : Int}, ht F ≤ k → tyF F → l = pre ++ (flat d F ++ r) → (∀ y, r[0]? = some y → y.1 ≤ d) → (flat d F).length < fuel → x + szS (flat d F) ≤ 100000000000 → e = ((pre.length + (flat d F).length : Nat) : Int) →
    iterP (l40_0 (dd + 2 * k + 2) l e (j40_0 (dd + 2 * k + 2))) fuel (((x : Nat) : Int), ((pre.length : Nat) : Int)) = some ((x + szS (flat d F) : Nat) : Int)
  | _, k, dd, 0, pre, r, d, x, e, _, _, _, _, h, _, _ => by omega
  | .nil, k, dd, fuel + 1, pre, r, d, x, e, hk, hty, e1, hr, hf, hx, he => by
    simp only [iterP, l40_0, l40_0_b, flat, List.length_nil] at he ⊢
    rw [decide_eq_false (by omega), oif_f]
    unfold j40_0
    simp [szS]
  | .leaf t b n, k, dd, fuel + 1, pre, r, d, x, e, hk, hty, e1, hr, hf, hx, he => by
    simp only [ht] at hk
    obtain ⟨⟨t1, t2, t3⟩, hn⟩ := hty
    have e2 : l = (pre ++ [(d, t, false, b)]) ++ (flat d n ++ r) := by rw [e1]; simp [flat]
    have hll := congrArg List.length e2
    have hxs : szA (d, t, false, b) = 4 + pad4 b.size := rfl
    have hp := pad4_le b.size
    simp only [flat, szS_cons, List.length_cons, List.length_append, List.length_nil] at he hf hx hll ⊢
    have hi : pre.length < l.length := by omega
    have hget : l[pre.length]? = some (d, t, false, b) := by rw [e1]; simp [flat]
    have hen : enK l pre.length = pre.length + 1 := by
      have := en_at (pre := pre) (k := []) (r := flat d n ++ r) (x := (d, t, false, b)) (by simp) (fun y hy => flat_fst hy hr)
      rw [e1]; simpa [flat] using this
    simp only [iterP, l40_0, l40_0_b]
    rw [decide_eq_true (by omega), oif_t, show dd + 2 * k + 2 = (dd + 2 * k + 1) + 1 by omega, e41, nn, oif_t, ofNat_toNat, hget, ob_s, oif_t, ob_s]
    simp only [oif_f]
    rw [wr (n := (4 : Int) + ((b.size : Nat) : Int)) (by omega) (by omega), show (4 : Int) + ((b.size : Nat) : Int) = ((4 + b.size : Nat) : Int) by omega, tvPad_eq (by omega), ob_s, ob_s, q_tvEnd hi hl, ob_s, hen, pad4_add, wrA (by omega)]
    have := len_loop hl n (k := k) (dd := dd) (fuel := fuel) (pre := pre ++ [(d, t, false, b)]) (r := r) (d := d) (x := x + (4 + pad4 b.size)) (e := e) hk hn e2 hr (by omega) (by omega) (by simp only [List.length_append, List.length_cons, List.length_nil]; omega)
    rw [List.length_append] at this
    rw [hxs, show x + (4 + pad4 b.size + szS (flat d n)) = x + (4 + pad4 b.size) + szS (flat d n) by omega]
    exact this
  | .node t K n, k, dd, fuel + 1, pre, r, d, x, e, hk, hty, e1, hr, hf, hx, he => by
    simp only [ht] at hk
    obtain ⟨⟨t1, t2⟩, hK, hn⟩ := hty
    obtain ⟨k', rfl⟩ : ∃ k', k = k' + 1 := ⟨k - 1, by omega⟩
    have e2 : l = (pre ++ ((d, t, true, ⟨#[]⟩) :: flat (d + 1) K)) ++ (flat d n ++ r) := by rw [e1]; simp [flat]
    have e3 : l = (pre ++ [(d, t, true, ⟨#[]⟩)]) ++ (flat (d + 1) K ++ (flat d n ++ r)) := by rw [e1]; simp [flat]
    have hll := congrArg List.length e2
    have hxs : szA (d, t, true, ⟨#[]⟩) = 4 := by simp [szA, bl_nil, pad4]
    simp only [flat, szS_cons, szS_app, hxs, List.length_cons, List.length_append, List.length_nil] at he hf hx hll ⊢
    have hi : pre.length < l.length := by omega
    have hget : l[pre.length]? = some (d, t, true, ⟨#[]⟩) := by rw [e1]; simp [flat]
    have hr2 : ∀ y, (flat d n ++ r)[0]? = some y → y.1 ≤ d := fun y hy => flat_fst hy hr
    have hen : enK l pre.length = pre.length + 1 + (flat (d + 1) K).length := by
      have := en_at (pre := pre) (k := flat (d + 1) K) (r := flat d n ++ r) (x := (d, t, true, ⟨#[]⟩)) (fun y hy => by have := flat_dep hy; show d < y.1; omega) hr2
      rw [e1]; simpa [flat] using this
    have hkid := len_loop hl K (k := k') (dd := dd) (fuel := fuelN) (pre := pre ++ [(d, t, true, ⟨#[]⟩)]) (r := flat d n ++ r) (d := d + 1) (x := 0) (e := ((pre.length + 1 + (flat (d + 1) K).length : Nat) : Int)) (by omega) hK e3 (fun y hy => by have := hr2 y hy; omega) (by rw [fuelN_eq]; omega) (by omega) (by simp)
    rw [Nat.zero_add, List.length_append] at hkid
    simp only [iterP, l40_0, l40_0_b]
    rw [decide_eq_true (by omega), oif_t, show dd + 2 * (k' + 1) + 2 = (dd + 2 * k' + 3) + 1 by omega, e41, nn, oif_t, ofNat_toNat, hget, ob_s]
    simp only [oif_t]
    rw [show dd + 2 * k' + 3 = (dd + 2 * k' + 2) + 1 by omega, q_tvEnd hi hl, ob_s, hen, e40, wr1 (by omega)]
    simp only [List.length_cons, List.length_nil, Int.natCast_zero] at hkid
    rw [hkid, ob_s, wr (n := (4 : Int) + ((szS (flat (d + 1) K) : Nat) : Int)) (by omega) (by omega), show (4 : Int) + ((szS (flat (d + 1) K) : Nat) : Int) = ((4 + szS (flat (d + 1) K) : Nat) : Int) by omega, ob_s, q_tvEnd hi hl, ob_s, hen, wrA (by omega)]
    have := len_loop hl n (k := k' + 1) (dd := dd) (fuel := fuel) (pre := pre ++ ((d, t, true, ⟨#[]⟩) :: flat (d + 1) K)) (r := r) (d := d) (x := x + (4 + szS (flat (d + 1) K))) (e := e) (by omega) hn e2 hr (by omega) (by omega) (by simp only [List.length_append, List.length_cons]; omega)
    rw [List.length_append, List.length_cons] at this
    rw [show dd + 2 * k' + 2 + 1 + 1 = dd + 2 * (k' + 1) + 2 by omega, show pre.length + 1 + (flat (d + 1) K).length = pre.length + ((flat (d + 1) K).length + 1) by omega, show x + (4 + (szS (flat (d + 1) K) + szS (flat d n))) = x + (4 + szS (flat (d + 1) K)) + szS (flat d n) by omega]
    exact this

/-- The binary form, by this package. -/
def iL (l : List UInt8) : List Int := l.map fun c => (c.toNat : Int)

theorem iL_app (a b : List UInt8) : iL (a ++ b) = iL a ++ iL b := by simp [iL]

theorem iL_len (a : List UInt8) : (iL a).length = a.length := by simp [iL]

theorem iL_by (s : ByteArray) : bytesL s = iL (bl s) := rfl

theorem strL_iL (l : List UInt8) : strL (iL l) = toB l := by
  rw [← bl_inj, bl_strL, bl_toB]
  unfold iL
  rw [List.map_map]
  conv => rhs; rw [← List.map_id l]
  refine List.map_congr_left fun c _ => ?_
  simp

theorem pad_loop {d : Nat} {K : Int → Int → List Int → Option (List Int)} {Y : Option (List Int)} : ∀ (k fuel : Nat) (x : List UInt8), (x.length + k) % 4 = 0 → k ≤ 3 → k < fuel → x.length ≤ 10000000 → (∀ a b, K a b (iL (x ++ List.replicate k 0)) = Y) →
    iterP (l33_1 d K) fuel (iL x) = Y
  | _, 0, _, _, _, h, _, _ => by omega
  | 0, fuel + 1, x, h, hk, hf, hx, hK => by
    simp only [iterP, l33_1, l33_1_b]
    rw [iL_len, show ((x.length : Nat) : Int).tmod 4 = ((x.length % 4 : Nat) : Int) from rfl, show x.length % 4 = 0 by omega, show (((0 : Nat) : Int) != 0) = false from rfl, oif_f]
    have := hK ((x.length : Nat) : Int) ((0 : Nat) : Int)
    simpa using this
  | k + 1, fuel + 1, x, h, hk, hf, hx, hK => by
    simp only [iterP, l33_1, l33_1_b]
    rw [iL_len, show ((x.length : Nat) : Int).tmod 4 = ((x.length % 4 : Nat) : Int) from rfl, show (((x.length % 4 : Nat) : Int) != 0) = true by rw [bne_iff_ne]; omega, oif_t, room (by simp; omega), oif_t]
    rw [show iL x ++ [0] = iL (x ++ [0]) by simp [iL]]
    exact pad_loop k fuel (x ++ [0]) (by simp; omega) (by omega) (by omega) (by simp; omega) (fun a b => by have := hK a b; rw [zer_one] at this; simpa using this)

theorem cpy_eq {x y w z : List UInt8} (h1 : y.length = w.length) : cpy (iL (x ++ (y ++ z))) (0 + x.length) ((iL (x ++ (y ++ z))).length - (0 + x.length)) (iL w) = iL (x ++ (w ++ z)) := by
  unfold cpy
  rw [iL_len, iL_len, Nat.zero_add]
  simp only [List.length_append]
  rw [show x.length + (y.length + z.length) - x.length = w.length + z.length by omega, show min w.length (w.length + z.length) = w.length by omega]
  simp only [iL_app]
  rw [show x.length = (iL x).length from (iL_len x).symm, List.take_left, List.take_of_length_le (by rw [iL_len]; omega)]
  rw [show (iL x).length + w.length = (iL x ++ iL y).length by rw [List.length_append, iL_len y, h1], ← List.append_assoc, List.drop_left]
  simp

theorem enc_mid {d : Nat} {l : List At} {ag : List Int × Int → Option (List Int)} {x y z : List UInt8} {i : Nat} {b : Bool} (hi : i < l.length) (hl : l.length < 4194304) (hx : x.length % 4 = 0) (hy : y.length = 2) (hw : (x ++ (y ++ z)).length ≤ 9000000) (hz : 2 ≤ z.length) :
    j33_2 (d + 1) l ag (iL x) (i : Int) b (iL (x ++ (y ++ z))) = ag (iL (x ++ (w2 ((2 + z.length : Nat) : Int) ++ (z ++ List.replicate (pad4 (2 + z.length) - (2 + z.length)) 0))), (enK l i : Int)) := by
  unfold j33_2
  have hl1 : (iL (x ++ (y ++ z))).length = x.length + (2 + z.length) := by rw [iL_len]; simp [hy]
  simp only [List.length_append] at hw
  rw [iL_len x, nn, oif_t, ofNat_toNat, hl1, ble_t (by omega), oif_t, wr (by omega) (by omega), show ((x.length + (2 + z.length) : Nat) : Int) - ((x.length : Nat) : Int) = ((2 + z.length : Nat) : Int) by omega, little_eq, ob_s, iL_by, bl_toB, ← hl1, cpy_eq (by rw [hy, w2_len])]
  have hp := pad4_le (2 + z.length)
  refine pad_loop (pad4 (2 + z.length) - (2 + z.length)) fuelN _ (by simp only [List.length_append, w2_len]; omega) (by omega) (by rw [fuelN_eq]; omega) (by simp only [List.length_append, w2_len]; omega) fun a c => ?_
  unfold j33_1
  rw [q_endOf hi hl, ob_s]
  simp only [List.append_assoc]

theorem enc_start {d : Nat} {l : List At} {ag : List Int × Int → Option (List Int)} {x : List UInt8} {i : Nat} {t : Int} {y : At} {b : Bool} (hy : l[i]? = some y) (hx : x.length ≤ 8000000) :
    j33_3 (d + 1) l ag (iL x) (i : Int) t b = oif y.2.2.1 (obind (g73 (d + 1) l (i : Int)) fun r14 => obind (g33 (d + 1) (iL (x ++ ([0, 0] ++ w2 t))) l (IntKind.i64.wrap ((i : Int) + 1)) r14) fun r15 => j33_2 (d + 1) l ag (iL x) (i : Int) true r15)
      (oif (Nat.ble (((iL (x ++ ([0, 0] ++ w2 t))).length + (iL (bl y.2.2.2)).length) * 1) roomMax) (j33_2 (d + 1) l ag (iL x) (i : Int) false (iL (x ++ ([0, 0] ++ (w2 t ++ bl y.2.2.2))))) none) := by
  unfold j33_3
  have e1 : bytesL ((⟨#[0, 0]⟩ : ByteArray) ++ toB (w2 t)) = iL ([0, 0] ++ w2 t) := by rw [iL_by, bl_app, bl_toB]; rfl
  rw [little_eq, ob_s, room2 (by rw [toB_size, w2_len]; exact (by decide : 2 + 2 ≤ 9223372036854775807)), e1, ← iL_app, room (by rw [iL_len, iL_len]; simp only [List.length_append, w2_len, List.length_cons, List.length_nil]; omega), oif_t, nn, oif_t, ofNat_toNat, hy, ob_s, oif_t, ob_s]
  rw [iL_by, ← iL_app]
  simp only [List.append_assoc]

/-- The binary form of a forest, by this package. -/
theorem enc_loop {l : List At} (hl : l.length < 4194304) : ∀ (F : Fo) {k dd fuel : Nat} {pre r : List At} {d : Int} {x : List UInt8} {e : Int}, ht F ≤ k → tyF F → l = pre ++ (flat d F ++ r) → (∀ y, r[0]? = some y → y.1 ≤ d) → (flat d F).length < fuel → x.length % 4 = 0 → x.length + (encF F).length ≤ 7000000 → e = ((pre.length + (flat d F).length : Nat) : Int) →
    iterP (l33_0 (dd + k + 1) l e (j33_0 (dd + k + 1))) fuel (iL x, ((pre.length : Nat) : Int)) = some (iL (x ++ encF F))
  | _, k, dd, 0, pre, r, d, x, e, _, _, _, _, h, _, _, _ => by omega
  | .nil, k, dd, fuel + 1, pre, r, d, x, e, hk, hty, e1, hr, hf, hx4, hx, he => by
    simp only [iterP, l33_0, l33_0_b, flat, List.length_nil] at he ⊢
    rw [decide_eq_false (by omega), oif_f]
    unfold j33_0
    simp [encF]
  | .leaf t b n, k, dd, fuel + 1, pre, r, d, x, e, hk, hty, e1, hr, hf, hx4, hx, he => by
    simp only [ht] at hk
    obtain ⟨⟨t1, t2, t3⟩, hn⟩ := hty
    have e2 : l = (pre ++ [(d, t, false, b)]) ++ (flat d n ++ r) := by rw [e1]; simp [flat]
    have hll := congrArg List.length e2
    have hp := pad4_le (bl b).length
    simp only [flat, List.length_cons, List.length_append, List.length_nil] at he hf hll
    simp only [encF, List.length_append, w2_len, List.length_replicate] at hx
    have hi : pre.length < l.length := by omega
    have hget : l[pre.length]? = some (d, t, false, b) := by rw [e1]; simp [flat]
    have hen : enK l pre.length = pre.length + 1 := by
      have := en_at (pre := pre) (k := []) (r := flat d n ++ r) (x := (d, t, false, b)) (by simp) (fun y hy => flat_fst hy hr)
      rw [e1]; simpa [flat] using this
    simp only [iterP, l33_0, l33_0_b]
    rw [decide_eq_true (by omega), oif_t, nn, oif_t, ofNat_toNat, hget, ob_s, oif_t, ob_s]
    simp only [oif_f]
    rw [enc_start hget (by omega)]
    simp only [oif_f]
    rw [room (by rw [iL_len, iL_len]; simp only [List.length_append, w2_len, List.length_cons, List.length_nil]; omega), oif_t, enc_mid hi hl hx4 rfl (by simp only [List.length_append, w2_len, List.length_cons, List.length_nil]; omega) (by simp only [List.length_append, w2_len]; omega), hen]
    have ez : 2 + (w2 t ++ bl b).length = 4 + (bl b).length := by simp only [List.length_append, w2_len]; omega
    rw [ez, pad4_add, show 4 + pad4 (bl b).length - (4 + (bl b).length) = pad4 (bl b).length - (bl b).length by omega]
    have := enc_loop hl n (k := k) (dd := dd) (fuel := fuel) (pre := pre ++ [(d, t, false, b)]) (r := r) (d := d) (x := x ++ (w2 ((4 + (bl b).length : Nat) : Int) ++ (w2 t ++ (bl b ++ List.replicate (pad4 (bl b).length - (bl b).length) 0)))) (e := e) hk hn e2 hr (by omega) (by simp only [List.length_append, w2_len, List.length_replicate]; omega) (by simp only [List.length_append, w2_len, List.length_replicate]; omega) (by simp only [List.length_append, List.length_cons, List.length_nil]; omega)
    rw [List.length_append] at this
    rw [encF]
    simp only [List.append_assoc] at this ⊢
    exact this
  | .node t K n, k, dd, fuel + 1, pre, r, d, x, e, hk, hty, e1, hr, hf, hx4, hx, he => by
    simp only [ht] at hk
    obtain ⟨⟨t1, t2⟩, hK, hn⟩ := hty
    obtain ⟨k', rfl⟩ : ∃ k', k = k' + 1 := ⟨k - 1, by omega⟩
    have e2 : l = (pre ++ ((d, t, true, ⟨#[]⟩) :: flat (d + 1) K)) ++ (flat d n ++ r) := by rw [e1]; simp [flat]
    have e3 : l = (pre ++ [(d, t, true, ⟨#[]⟩)]) ++ (flat (d + 1) K ++ (flat d n ++ r)) := by rw [e1]; simp [flat]
    have hll := congrArg List.length e2
    simp only [flat, List.length_cons, List.length_append, List.length_nil] at he hf hll
    simp only [encF, List.length_append, w2_len] at hx
    have hi : pre.length < l.length := by omega
    have hget : l[pre.length]? = some (d, t, true, ⟨#[]⟩) := by rw [e1]; simp [flat]
    have hr2 : ∀ y, (flat d n ++ r)[0]? = some y → y.1 ≤ d := fun y hy => flat_fst hy hr
    have hen : enK l pre.length = pre.length + 1 + (flat (d + 1) K).length := by
      have := en_at (pre := pre) (k := flat (d + 1) K) (r := flat d n ++ r) (x := (d, t, true, ⟨#[]⟩)) (fun y hy => by have := flat_dep hy; show d < y.1; omega) hr2
      rw [e1]; simpa [flat] using this
    have hm := enc_mod K
    have hkid := enc_loop hl K (k := k') (dd := dd) (fuel := fuelN) (pre := pre ++ [(d, t, true, ⟨#[]⟩)]) (r := flat d n ++ r) (d := d + 1) (x := x ++ ([0, 0] ++ w2 (t + 32768))) (e := ((pre.length + 1 + (flat (d + 1) K).length : Nat) : Int)) (by omega) hK e3 (fun y hy => by have := hr2 y hy; omega) (by rw [fuelN_eq]; omega) (by simp only [List.length_append, w2_len, List.length_cons, List.length_nil]; omega) (by simp only [List.length_append, w2_len, List.length_cons, List.length_nil]; omega) (by simp)
    rw [@List.length_append _ pre] at hkid
    simp only [List.length_cons, List.length_nil] at hkid
    simp only [iterP, l33_0, l33_0_b]
    rw [decide_eq_true (by omega), oif_t, nn, oif_t, ofNat_toNat, hget, ob_s, oif_t, ob_s]
    simp only [oif_t]
    rw [wr (n := t + 32768) (by omega) (by omega), show dd + (k' + 1) + 1 = (dd + k' + 1) + 1 by omega, enc_start hget (by omega)]
    simp only [oif_t]
    rw [q_endOf hi hl, ob_s, hen, e33, wr1 (by omega), hkid, ob_s]
    rw [show x ++ ([0, 0] ++ w2 (t + 32768)) ++ encF K = x ++ ([0, 0] ++ (w2 (t + 32768) ++ encF K)) by simp only [List.append_assoc]]
    rw [enc_mid hi hl hx4 rfl (by simp only [List.length_append, w2_len, List.length_cons, List.length_nil]; omega) (by simp only [List.length_append, w2_len]; omega), hen]
    have ez : 2 + (w2 (t + 32768) ++ encF K).length = 4 + (encF K).length := by simp only [List.length_append, w2_len]; omega
    rw [ez, show pad4 (4 + (encF K).length) - (4 + (encF K).length) = 0 by unfold pad4; omega]
    have := enc_loop hl n (k := k' + 1) (dd := dd) (fuel := fuel) (pre := pre ++ ((d, t, true, ⟨#[]⟩) :: flat (d + 1) K)) (r := r) (d := d) (x := x ++ (w2 ((4 + (encF K).length : Nat) : Int) ++ (w2 (t + 32768) ++ encF K))) (e := e) (by omega) hn e2 hr (by omega) (by simp only [List.length_append, w2_len]; omega) (by simp only [List.length_append, w2_len]; omega) (by simp only [List.length_append, List.length_cons]; omega)
    rw [@List.length_append _ pre, List.length_cons] at this
    rw [encF, List.replicate_zero, List.append_nil, show dd + k' + 1 + 1 = dd + (k' + 1) + 1 by omega, show pre.length + 1 + (flat (d + 1) K).length = pre.length + ((flat (d + 1) K).length + 1) by omega]
    simp only [List.append_assoc] at this ⊢
    exact this

/-- Sizes. -/
theorem szA_raw {n : Nat} (h : n ≤ 1000000000) : IntKind.i64.wrap ((4 : Int) + (IntKind.i64.wrap ((IntKind.i64.wrap ((IntKind.i64.wrap ((n : Int) + 3)).tdiv 4)) * 4))) = ((4 + pad4 n : Nat) : Int) := by
  have hp := pad4_le n
  rw [wr (n := (n : Int) + 3) (by omega) (by omega), show ((n : Int) + 3).tdiv 4 = (((n + 3) / 4 : Nat) : Int) from rfl, wr (n := (((n + 3) / 4 : Nat) : Int)) (by omega) (by omega), show ((((n + 3) / 4 : Nat) : Int)) * 4 = ((pad4 n : Nat) : Int) by unfold pad4; omega, wr (n := ((pad4 n : Nat) : Int)) (by omega) (by omega), wr (by omega) (by omega)]
  omega

theorem size_loop {d : Nat} {l : List At} {i : Nat} (hl : l.length < 4194304) (hi : i < l.length) (hs : ∀ x ∈ l, x.2.2.2.size ≤ 100000) : ∀ (M : List At) {pre r : List At} {fuel x : Nat}, l = pre ++ (M ++ r) → enK l i = pre.length + M.length → M.length < fuel → x + 100100 * M.length ≤ 100000000000000 →
    iterP (l38_0 (d + 1) l (i : Int) (j38_0 (d + 1))) fuel ((x : Int), ((pre.length : Nat) : Int)) = some ((x + szS M : Nat) : Int)
  | _, pre, r, 0, x, _, _, h, _ => by omega
  | [], pre, r, fuel + 1, x, e1, e2, hf, hx => by
    simp only [iterP, l38_0, l38_0_b]
    simp only [List.length_nil] at e2
    rw [q_endOf hi hl, ob_s, e2, decide_eq_false (by omega), oif_f]
    unfold j38_0
    simp [szS]
  | y :: M, pre, r, fuel + 1, x, e1, e2, hf, hx => by
    simp only [List.length_cons] at e2 hf hx
    have hy := hs y (by rw [e1]; simp)
    have hget : l[pre.length]? = some y := by rw [e1]; simp
    have hll := congrArg List.length e1
    simp only [List.length_append, List.length_cons] at hll
    have hp := pad4_le y.2.2.2.size
    simp only [iterP, l38_0, l38_0_b]
    rw [q_endOf hi hl, ob_s, e2, decide_eq_true (by omega), oif_t, nn, oif_t, ofNat_toNat, hget, ob_s, szA_raw (by omega), wrA (by omega), wr1 (by omega)]
    have := size_loop (d := d) hl hi hs M (pre := pre ++ [y]) (r := r) (fuel := fuel) (x := x + (4 + pad4 y.2.2.2.size)) (by rw [e1]; simp) (by rw [e2]; simp; omega) (by omega) (by omega)
    rw [szS_cons, show szA y = 4 + pad4 y.2.2.2.size from rfl, show x + (4 + pad4 y.2.2.2.size + szS M) = x + (4 + pad4 y.2.2.2.size) + szS M by omega]
    simpa using this

theorem size_at {d : Nat} {l pre K r : List At} {x : At} (hl : l.length ≤ 1000) (hs : ∀ x ∈ l, x.2.2.2.size ≤ 100000) (e1 : l = pre ++ (x :: (K ++ r))) (e2 : enK l pre.length = pre.length + (K.length + 1)) :
    g38 (d + 2) l ((pre.length : Nat) : Int) = some ((szS (x :: K) : Nat) : Int) := by
  have hll := congrArg List.length e1
  simp only [List.length_append, List.length_cons] at hll
  rw [e38]
  have := size_loop (d := d) (by omega) (i := pre.length) (by omega) hs (x :: K) (pre := pre) (r := r) (fuel := fuelN) (x := 0) (by rw [e1]; simp) (by rw [e2]; simp) (by rw [fuelN_eq]; simp; omega) (by simp only [List.length_cons]; omega)
  rw [Nat.zero_add] at this
  exact this

theorem flat_sz : ∀ {F : Fo} {d : Int}, tyF F → ∀ x ∈ flat d F, x.2.2.2.size ≤ 100000
  | .nil, d, _, x, hx => by simp [flat] at hx
  | .leaf t b n, d, h, x, hx => by
    rcases List.mem_cons.1 hx with rfl | hx
    · exact h.1.2.2
    · exact flat_sz h.2 x hx
  | .node t k n, d, h, x, hx => by
    rcases List.mem_cons.1 hx with rfl | hx
    · exact (by decide : (0 : Nat) ≤ 100000)
    · rcases List.mem_append.1 hx with hx | hx
      · exact flat_sz h.2.1 x hx
      · exact flat_sz h.2.2 x hx

theorem szS_le : ∀ {l : List At}, (∀ x ∈ l, x.2.2.2.size ≤ 100000) → szS l ≤ 100100 * l.length
  | [], _ => by simp [szS]
  | x :: l, h => by
    have := szS_le (l := l) fun y hy => h y (by simp [hy])
    have h0 := h x (by simp)
    have hp := pad4_le x.2.2.2.size
    rw [szS_cons, List.length_cons, show szA x = 4 + pad4 x.2.2.2.size from rfl]; omega

theorem whole_loop {d : Nat} {l : List At} (hl : l.length ≤ 1000) (hs : ∀ x ∈ l, x.2.2.2.size ≤ 100000) : ∀ (F : Fo) {pre : List At} {dp : Int} {fuel x : Nat}, tyF F → l = pre ++ flat dp F → (flat dp F).length < fuel → x + szS (flat dp F) ≤ 1000000000 →
    iterP (l72_0 (d + 2) l (j72_0 (d + 2))) fuel ((x : Int), ((pre.length : Nat) : Int)) = some ((x + szS (flat dp F) : Nat) : Int)
  | _, pre, dp, 0, x, _, _, h, _ => by omega
  | .nil, pre, dp, fuel + 1, x, _, e1, hf, hx => by
    simp only [iterP, l72_0, l72_0_b]
    simp only [flat, List.append_nil] at e1
    subst e1
    rw [decide_eq_false (by omega), oif_f]
    unfold j72_0
    simp [szS, flat]
  | .leaf t b n, pre, dp, fuel + 1, x, hty, e1, hf, hx => by
    have e2 : l = pre ++ ((dp, t, false, b) :: ([] ++ flat dp n)) := by rw [e1]; simp [flat]
    have hll := congrArg List.length e2
    simp only [flat, szS_cons, List.length_cons, List.length_append, List.length_nil] at hf hx hll
    have hen : enK l pre.length = pre.length + 1 := by
      have := en_at (pre := pre) (k := []) (r := flat dp n) (x := (dp, t, false, b)) (by simp) (fun y hy => flat_fst (r := []) (by simpa using hy) (by simp))
      rw [e2]; simpa using this
    simp only [iterP, l72_0, l72_0_b]
    rw [decide_eq_true (by omega), oif_t, size_at hl hs e2 (by rw [hen]; simp), ob_s, q_endOf (by omega) (by omega), ob_s, hen, szS_cons, szS_nil, wrA (by omega)]
    have := whole_loop (d := d) hl hs n (pre := pre ++ [(dp, t, false, b)]) (dp := dp) (fuel := fuel) (x := x + (szA (dp, t, false, b) + 0)) hty.2 (by rw [e1]; simp [flat]) (by omega) (by omega)
    rw [List.length_append] at this
    rw [flat, szS_cons, show x + (szA (dp, t, false, b) + szS (flat dp n)) = x + (szA (dp, t, false, b) + 0) + szS (flat dp n) by omega]
    exact this
  | .node t K n, pre, dp, fuel + 1, x, hty, e1, hf, hx => by
    have e2 : l = pre ++ ((dp, t, true, ⟨#[]⟩) :: (flat (dp + 1) K ++ flat dp n)) := by rw [e1]; simp [flat]
    have hll := congrArg List.length e2
    simp only [flat, szS_cons, szS_app, List.length_cons, List.length_append, List.length_nil] at hf hx hll
    have hen : enK l pre.length = pre.length + 1 + (flat (dp + 1) K).length := by
      have := en_at (pre := pre) (k := flat (dp + 1) K) (r := flat dp n) (x := (dp, t, true, ⟨#[]⟩)) (fun y hy => by have := flat_dep hy; show dp < y.1; omega) (fun y hy => flat_fst (r := []) (by simpa using hy) (by simp))
      rw [e2]; simpa using this
    simp only [iterP, l72_0, l72_0_b]
    rw [decide_eq_true (by omega), oif_t, size_at hl hs e2 (by rw [hen]; omega), ob_s, q_endOf (by omega) (by omega), ob_s, hen, szS_cons, wrA (by omega)]
    have := whole_loop (d := d) hl hs n (pre := pre ++ ((dp, t, true, ⟨#[]⟩) :: flat (dp + 1) K)) (dp := dp) (fuel := fuel) (x := x + (szA (dp, t, true, ⟨#[]⟩) + szS (flat (dp + 1) K))) hty.2.2 (by rw [e1]; simp [flat]) (by omega) (by omega)
    rw [List.length_append, List.length_cons] at this
    rw [flat, szS_cons, szS_app, show x + (szA (dp, t, true, ⟨#[]⟩) + (szS (flat (dp + 1) K) + szS (flat dp n))) = x + (szA (dp, t, true, ⟨#[]⟩) + szS (flat (dp + 1) K)) + szS (flat dp n) by omega, show pre.length + 1 + (flat (dp + 1) K).length = pre.length + ((flat (dp + 1) K).length + 1) by omega]
    exact this

/-- What is asked of valid attributes. -/
structure Val (l : List At) (F : Fo) : Prop where
  eq : l = flat 1 F
  ok : okF 1 F
  len : l.length ≤ 400

theorem Val.of {l : List At} (h : atsOk l = true) : ∃ F, Val l F := by
  obtain ⟨F, h1, h2⟩ := forest h
  exact ⟨F, h1, h2, at_len h⟩

theorem Val.ats {l : List At} {F : Fo} (h : Val l F) : atsOk l = true := by
  have := h.len
  obtain ⟨rfl, h2, _⟩ := h
  exact forest_ok h2 this

theorem Val.sz {l : List At} {F : Fo} (h : Val l F) : ∀ x ∈ l, x.2.2.2.size ≤ 100000 := by
  rw [h.eq]; exact flat_sz (okF_ty h.ok)

theorem Val.ht {l : List At} {F : Fo} (h : Val l F) : ht F ≤ 8 := by
  have := okF_ht h.ok (by omega) (by omega); omega

theorem Val.szl {l : List At} {F : Fo} (h : Val l F) : szS l ≤ 40040000 := by
  have h1 := szS_le h.sz
  have h2 := h.len
  omega

theorem q_encodable {d : Nat} {l : List At} : g32 (d + 4) l = some (atsOk l && decide (szS l ≤ 6000)) := by
  rw [e32, q_AreAttrs, ob_s]
  cases h : atsOk l with
  | false => rfl
  | true =>
    obtain ⟨F, hF⟩ := Val.of h
    have hl := hF.len
    have hz := hF.szl
    rw [oif_t, e72]
    have := whole_loop (d := d) (by omega) hF.sz F (pre := []) (dp := 1) (fuel := fuelN) (x := 0) (okF_ty hF.ok) (by simpa using hF.eq) (by rw [fuelN_eq, ← hF.eq]; omega) (by rw [← hF.eq]; omega)
    rw [Nat.zero_add, ← hF.eq] at this
    rw [show iterP (l72_0 (d + 2) l (j72_0 (d + 2))) fuelN (0, 0) = some ((szS l : Nat) : Int) from this, ob_s, Bool.true_and]
    congr 1
    exact decide_eq_decide.2 (by omega)

theorem q_length {d : Nat} {l : List At} {F : Fo} (hF : Val l F) : g40 (d + 19) l 0 ((l.length : Nat) : Int) = some ((szS l : Nat) : Int) := by
  have hl := hF.len
  have hz := hF.szl
  rw [show d + 19 = (d + 18) + 1 from rfl, e40]
  have := len_loop (l := l) (by omega) F (k := 8) (dd := d) (fuel := fuelN) (pre := []) (r := []) (d := 1) (x := 0) (e := ((l.length : Nat) : Int)) hF.ht (okF_ty hF.ok) (by simpa using hF.eq) (by simp) (by rw [fuelN_eq, ← hF.eq]; omega) (by rw [← hF.eq]; omega) (by rw [← hF.eq]; simp)
  rw [Nat.zero_add, ← hF.eq] at this
  exact this

def eaV (l : List At) (F : Fo) : ByteArray × Bool := if szS l ≤ 6000 then (toB (encF F), true) else (⟨#[]⟩, false)

theorem q_EncodeAttrs {d : Nat} {l : List At} {F : Fo} (hF : Val l F) : g7 (d + 11) l = some (eaV l F) := by
  rw [e7, show d + 10 = (d + 6) + 4 from rfl, q_encodable, ob_s, hF.ats, Bool.true_and]
  unfold eaV
  have hl := hF.len
  have hel := enc_len F 1
  rw [← hF.eq] at hel
  by_cases h : szS l ≤ 6000
  · rw [decide_eq_true h, Bool.not_true, oif_f, if_pos h, show d + 6 + 4 = (d + 8 + 1) + 1 from rfl, e33]
    have := enc_loop (l := l) (by omega) F (k := 8) (dd := d) (fuel := fuelN) (pre := []) (r := []) (d := 1) (x := []) (e := ((l.length : Nat) : Int)) hF.ht (okF_ty hF.ok) (by simpa using hF.eq) (by simp) (by rw [fuelN_eq, ← hF.eq]; omega) rfl (by simp; omega) (by rw [← hF.eq]; simp)
    rw [List.nil_append] at this
    rw [show iterP (l33_0 (d + 8 + 1) l ((l.length : Nat) : Int) (j33_0 (d + 8 + 1))) fuelN ([], 0) = some (iL (encF F)) from this, ob_s, strL_iL]
  · rw [decide_eq_false h, if_neg h]; rfl

theorem q_tvAll {d : Nat} {l : List At} {F : Fo} {k : Nat} {dp : Int} (hl : l.length ≤ 10000) (he : l = flat dp F) (hty : tyF F) (hk : ht F ≤ k) : g46 (d + 2 * k + 3) l 0 ((l.length : Nat) : Int) = some (toB (encF F)) := by
  have hz := tyF_sz dp hty
  rw [← he] at hz
  rw [show d + 2 * k + 3 = (d + 2 * k + 2) + 1 from rfl, e46]
  have := all_loop (l := l) (by omega) F (k := k) (dd := d) (fuel := fuelN) (pre := []) (r := []) (d := dp) (x := []) (e := ((l.length : Nat) : Int)) hk hty (by simpa using he) (by simp) (by rw [fuelN_eq, ← he]; omega) (by simp; omega) (by rw [← he]; simp)
  rw [List.nil_append] at this
  exact this

theorem q_sEncodeAttrs {d : Nat} {l : List At} {F : Fo} (hF : Val l F) : g8 (d + 21) l = some (eaV l F) := by
  have hl := hF.len
  rw [e8, q_tvGood (by omega), ob_s, hF.ats, Bool.not_true, oif_f, show d + 20 = (d + 19) + 1 from rfl, e35, q_length hF, ob_s]
  unfold eaV
  by_cases h : szS l ≤ 6000
  · rw [decide_eq_false (by omega), oif_f, if_pos h, show d + 19 = d + 2 * 8 + 3 from rfl, q_tvAll (by omega) hF.eq (okF_ty hF.ok) hF.ht, ob_s, ob_s]
  · rw [decide_eq_true (by omega), oif_t, if_neg h]; rfl

theorem q_EncodeNo {d : Nat} {l : List At} (h : atsOk l = false) : g7 (d + 5) l = some (⟨#[]⟩, false) := by
  rw [e7, q_encodable, ob_s, h]; rfl

theorem q_sEncodeNo {d : Nat} {l : List At} (hl : l.length < 4194304) (h : atsOk l = false) : g8 (d + 3) l = some (⟨#[]⟩, false) := by
  rw [e8, q_tvGood hl, ob_s, h]; rfl

/-- Any attribute of valid ones, with what is in it. -/
theorem at_any {l : List At} (h : atsOk l = true) {i : Nat} (hi : i < l.length) : ∃ x K r, l = l.take i ++ (x :: (flat (x.1 + 1) K ++ r)) ∧ enK l i = i + ((flat (x.1 + 1) K).length + 1) ∧ okF (x.1 + 1) K ∧ (∀ y, r[0]? = some y → y.1 ≤ x.1) ∧ 1 ≤ x.1 ∧ x.1 ≤ 8 ∧ (x.2.2.1 = false → K = .nil) ∧ (x.2.2.1 = true → x.2.2.2 = ⟨#[]⟩) := by
  have hg := h
  unfold atsOk at hg
  simp only [Bool.and_eq_true] at hg
  have hd := dep_in h hi
  have e0 : l = l.take i ++ l.drop i := (List.take_append_drop i l).symm
  obtain ⟨x0, hx0⟩ : ∃ x0, l[i]? = some x0 := ⟨_, List.getElem?_eq_getElem hi⟩
  have hx1 : (l.drop i)[0]? = some x0 := by rw [List.getElem?_drop]; simpa using hx0
  have hg2 : goodL (dep l i) (l.drop i) = true := by
    have h2 := hg.1
    rw [e0] at h2
    refine goodL_cut h2 fun y hy => ?_
    rw [hx1] at hy
    injection hy with hy
    rw [← hy, dep_get hx0]; exact Int.le_refl _
  obtain ⟨F, r, e1, hF, hr⟩ := parse _ (Nat.le_refl _) hg2
  have hil : (l.take i).length = i := by rw [List.length_take]; omega
  cases F with
  | nil =>
    rw [flat, List.nil_append] at e1
    rw [e1] at hx1
    have := hr x0 hx1
    rw [dep_get hx0] at this
    omega
  | leaf t b n =>
    refine ⟨(dep l i, t, false, b), .nil, flat (dep l i) n ++ r, ?_, ?_, trivial, fun y hy => flat_fst hy fun z hz => Int.le_of_lt (hr z hz), hd.1, hd.2, fun _ => rfl, fun h => by simp at h⟩
    · conv => lhs; rw [e0, e1]
      simp [flat]
    · have := en_at (pre := l.take i) (k := []) (r := flat (dep l i) n ++ r) (x := (dep l i, t, false, b)) (by simp) (fun y hy => flat_fst hy fun z hz => Int.le_of_lt (hr z hz))
      rw [hil] at this
      have e2 : l = l.take i ++ ((dep l i, t, false, b) :: ([] ++ (flat (dep l i) n ++ r))) := by
        conv => lhs; rw [e0, e1]
        simp [flat]
      rw [← e2] at this
      rw [this]; simp [flat]
  | node t K n =>
    have e2 : l = l.take i ++ ((dep l i, t, true, ⟨#[]⟩) :: (flat (dep l i + 1) K ++ (flat (dep l i) n ++ r))) := by
      conv => lhs; rw [e0, e1]
      simp [flat]
    refine ⟨(dep l i, t, true, ⟨#[]⟩), K, flat (dep l i) n ++ r, e2, ?_, hF.2.1, fun y hy => flat_fst hy fun z hz => Int.le_of_lt (hr z hz), hd.1, hd.2, fun h => by simp at h, fun _ => rfl⟩
    have := en_at (pre := l.take i) (k := flat (dep l i + 1) K) (r := flat (dep l i) n ++ r) (x := (dep l i, t, true, ⟨#[]⟩)) (fun y hy => by have := flat_dep hy; show dep l i < y.1; omega) (fun y hy => flat_fst hy fun z hz => Int.le_of_lt (hr z hz))
    rw [hil, ← e2] at this
    rw [this]; show i + 1 + (flat (dep l i + 1) K).length = i + ((flat (dep l i + 1) K).length + 1); omega

def szI (l : List At) (i : Nat) : Nat := szS ((l.take (enK l i)).drop i)

theorem szI_at {l pre K r : List At} {x : At} {i : Nat} (hi : pre.length = i) (e1 : l = pre ++ (x :: (K ++ r))) (e2 : enK l i = i + (K.length + 1)) : szI l i = szS (x :: K) := by
  unfold szI
  subst hi
  rw [e2, e1, show pre ++ (x :: (K ++ r)) = (pre ++ (x :: K)) ++ r by simp, show pre.length + (K.length + 1) = (pre ++ (x :: K)).length by simp, List.take_left, List.drop_left]

theorem szI_take {l : List At} (h : atsOk l = true) {i : Nat} (hi : i < l.length) : szS (l.take i) + szI l i = szS (l.take (enK l i)) := by
  have hk := enK_in hi
  unfold szI
  rw [← szS_app]
  congr 1
  have : l.take i = (l.take (enK l i)).take i := by rw [List.take_take]; congr 1; omega
  rw [this, List.take_append_drop]

theorem q_SizeOf {d : Nat} {l : List At} {F : Fo} {i : Nat} (hF : Val l F) (hi : i < l.length) (h6 : szS l ≤ 6000) : g13 (d + 5) l (i : Int) = some (((szI l i : Nat) : Int), true) := by
  obtain ⟨x, K, r, e1, e2, hK, hr, h1, h2, h3, h4⟩ := at_any hF.ats hi
  have hl := hF.len
  have hil : (l.take i).length = i := by rw [List.length_take]; omega
  rw [e13, q_isAttrOf, ob_s]
  have hh : hasV l (i : Int) = true := by unfold hasV; rw [hF.ats, decide_eq_true (by omega)]; rfl
  rw [hh, Bool.not_true, oif_f, q_encodable, ob_s, hF.ats, decide_eq_true h6]
  simp only [Bool.and_self, Bool.not_true, oif_f]
  have := size_at (d := d + 2) (l := l) (pre := l.take i) (K := flat (x.1 + 1) K) (r := r) (x := x) (by omega) hF.sz e1 (by rw [hil]; exact e2)
  rw [hil] at this
  rw [this, ob_s, szI_at hil e1 e2]

theorem q_sSizeOf {d : Nat} {l : List At} {F : Fo} {i : Nat} (hF : Val l F) (hi : i < l.length) (h6 : szS l ≤ 6000) : g14 (d + 21) l (i : Int) = some (((szI l i : Nat) : Int), true) := by
  obtain ⟨x, K, r, e1, e2, hK, hr, h1, h2, h3, h4⟩ := at_any hF.ats hi
  have hl := hF.len
  have hil : (l.take i).length = i := by rw [List.length_take]; omega
  rw [e14, q_tvHas (by omega), ob_s]
  have hh : hasV l (i : Int) = true := by unfold hasV; rw [hF.ats, decide_eq_true (by omega)]; rfl
  have hz := szI_at hil e1 e2
  have hzl := hF.szl
  have hle : szI l i ≤ szS l := by
    rw [hz]
    conv => rhs; rw [e1]
    rw [szS_app, szS_cons, szS_cons, szS_app]; omega
  have hget : l[i]? = some x := by rw [e1]; rw [List.getElem?_append_right (by omega), hil, Nat.sub_self]; rfl
  rw [hh, Bool.not_true, oif_f, show d + 20 = (d + 1) + 19 from rfl, q_length hF, ob_s, decide_eq_false (by omega), oif_f, show d + 1 + 19 = (d + 19) + 1 from rfl, e41, nn, oif_t, ofNat_toNat, hget, ob_s, oif_t, ob_s]
  have hlen : x.2.2.2.size ≤ 100000 := hF.sz x (List.mem_iff_getElem?.2 ⟨i, hget⟩)
  have hp := pad4_le x.2.2.2.size
  cases hn : x.2.2.1 with
  | false =>
    have hnil := h3 hn
    subst hnil
    rw [oif_f, wr (n := (4 : Int) + ((x.2.2.2.size : Nat) : Int)) (by omega) (by omega), show (4 : Int) + ((x.2.2.2.size : Nat) : Int) = ((4 + x.2.2.2.size : Nat) : Int) by omega, tvPad_eq (by omega), ob_s, ob_s, hz, pad4_add]
    simp only [flat, szS_cons, szS_nil]
    rw [show szA x = 4 + pad4 x.2.2.2.size from rfl]; rfl
  | true =>
    have hb := h4 hn
    have hsx : szA x = 4 := by unfold szA; rw [hb]; simp [bl_nil, pad4]
    rw [oif_t, q_tvEnd hi (by omega), ob_s, e2, wr1 (by omega), e40]
    have hk8 := okF_ht hK (by omega) (by omega)
    have := len_loop (l := l) (by omega) K (k := 8) (dd := d) (fuel := fuelN) (pre := l.take i ++ [x]) (r := r) (d := x.1 + 1) (x := 0) (e := ((i + ((flat (x.1 + 1) K).length + 1) : Nat) : Int)) (by omega) (okF_ty hK) (by rw [List.append_assoc]; exact e1) (fun y hy => by have := hr y hy; omega) (by rw [fuelN_eq]; have := congrArg List.length e1; simp only [List.length_append, List.length_cons] at this; omega) (by rw [hz, szS_cons] at hle; omega) (by rw [List.length_append, hil, List.length_cons, List.length_nil]; omega)
    rw [Nat.zero_add, List.length_append, hil, List.length_cons, List.length_nil] at this
    rw [show iterP (l40_0 (d + 18) l ((i + ((flat (x.1 + 1) K).length + 1) : Nat) : Int) (j40_0 (d + 18))) fuelN (0, ((i + 1 : Nat) : Int)) = some ((szS (flat (x.1 + 1) K) : Nat) : Int) from this, ob_s, wr (by omega) (by rw [hz, szS_cons] at hle; omega), ob_s, hz, szS_cons, hsx]
    congr 2

/-- Offsets. -/
theorem off_loop {d : Nat} {l : List At} {n : Int} (hs : ∀ x ∈ l, x.2.2.2.size ≤ 100000) (hl : l.length ≤ 1000) : ∀ (M : List At) {pre r : List At} {fuel x : Nat}, l = pre ++ (M ++ r) → n = ((pre.length + M.length : Nat) : Int) → M.length < fuel → x + 100100 * M.length ≤ 100000000000000 →
    iterP (l15_0 d l n (j15_0 d)) fuel ((x : Int), ((pre.length : Nat) : Int)) = some (((x + szS M : Nat) : Int), true)
  | _, pre, r, 0, x, _, _, h, _ => by omega
  | [], pre, r, fuel + 1, x, e1, e2, hf, hx => by
    simp only [iterP, l15_0, l15_0_b]
    simp only [List.length_nil] at e2
    rw [decide_eq_false (by omega), oif_f]
    unfold j15_0
    simp [szS]
  | y :: M, pre, r, fuel + 1, x, e1, e2, hf, hx => by
    simp only [List.length_cons] at e2 hf hx
    have hy := hs y (by rw [e1]; simp)
    have hget : l[pre.length]? = some y := by rw [e1]; simp
    have hll := congrArg List.length e1
    simp only [List.length_append, List.length_cons] at hll
    have hp := pad4_le y.2.2.2.size
    simp only [iterP, l15_0, l15_0_b]
    rw [decide_eq_true (by omega), oif_t, nn, oif_t, ofNat_toNat, hget, ob_s, szA_raw (by omega), wrA (by omega), wr1 (by omega)]
    have := off_loop (d := d) hs hl M (pre := pre ++ [y]) (r := r) (n := n) (fuel := fuel) (x := x + (4 + pad4 y.2.2.2.size)) (by rw [e1]; simp) (by rw [e2]; simp; omega) (by omega) (by omega)
    rw [szS_cons, show szA y = 4 + pad4 y.2.2.2.size from rfl, show x + (4 + pad4 y.2.2.2.size + szS M) = x + (4 + pad4 y.2.2.2.size) + szS M by omega]
    simpa using this

theorem q_OffsetOf {d : Nat} {l : List At} {F : Fo} {i : Nat} (hF : Val l F) (hi : i < l.length) (h6 : szS l ≤ 6000) : g15 (d + 5) l (i : Int) = some (((szS (l.take i) : Nat) : Int), true) := by
  have hl := hF.len
  rw [e15, q_isAttrOf, ob_s]
  have hh : hasV l (i : Int) = true := by unfold hasV; rw [hF.ats, decide_eq_true (by omega)]; rfl
  rw [hh, Bool.not_true, oif_f, q_encodable, ob_s, hF.ats, decide_eq_true h6]
  unfold j15_1
  simp only [Bool.and_self, Bool.not_true, oif_f]
  have hil : (l.take i).length = i := by rw [List.length_take]; omega
  have := off_loop (d := d + 4) (l := l) (n := (i : Int)) hF.sz (by omega) (l.take i) (pre := []) (r := l.drop i) (fuel := fuelN) (x := 0) (by simp) (by simp; omega) (by rw [fuelN_eq]; omega) (by omega)
  rw [Nat.zero_add] at this
  exact this

theorem seg {l : List At} (h : atsOk l = true) {a b : Nat} {D : Int} (hab : a ≤ b) (hb : b ≤ l.length) (hlo : ∀ j, a ≤ j → j < b → D ≤ dep l j) (hfst : a < b → dep l a ≤ D) : ∃ G, l = l.take a ++ (flat D G ++ l.drop b) ∧ okF D G ∧ (flat D G).length = b - a ∧ (l.take b).drop a = flat D G := by
  unfold atsOk at h
  simp only [Bool.and_eq_true] at h
  have h1 := h.1
  have e0 : l = l.take b ++ l.drop b := (List.take_append_drop b l).symm
  have e1 : l.take b = l.take a ++ (l.take b).drop a := by
    conv => lhs; rw [← List.take_append_drop a (l.take b)]
    rw [List.take_take, Nat.min_eq_left hab]
  have hm : ∀ j x, ((l.take b).drop a)[j]? = some x → a + j < b ∧ dep l (a + j) = x.1 := by
    intro j x hx
    rw [List.getElem?_drop] at hx
    have hlt := (List.getElem?_eq_some_iff.1 hx).1
    rw [List.length_take] at hlt
    rw [List.getElem?_take_of_lt (by omega)] at hx
    exact ⟨by omega, dep_get hx⟩
  rw [e0] at h1
  have h2 := goodL_pre h1
  rw [e1] at h2
  have h3 : goodL D ((l.take b).drop a) = true := goodL_cut h2 fun x hx => by
    have := hm 0 x hx
    have h4 := hfst (by omega)
    rw [← this.2]; exact h4
  obtain ⟨G, r, e2, hG, hr⟩ := parse _ (Nat.le_refl _) h3
  have hnil : r = [] := by
    cases r with
    | nil => rfl
    | cons y r =>
      have h5 := hr y rfl
      have h6 := hm (flat D G).length y (by rw [e2]; simp)
      have h7 := hlo (a + (flat D G).length) (by omega) h6.1
      omega
  subst hnil
  rw [List.append_nil] at e2
  refine ⟨G, ?_, hG, ?_, e2⟩
  · rw [← e2, ← List.append_assoc, ← e1]; exact e0
  · rw [← e2, List.length_drop, List.length_take]; omega

theorem range_len {d : Nat} {l : List At} {F : Fo} (hF : Val l F) {a b : Nat} {D : Int} (hab : a ≤ b) (hb : b < l.length) (hD : 1 ≤ D) (hlo : ∀ j, a ≤ j → j < b → D ≤ dep l j) (hfst : a < b → dep l a ≤ D) (hlast : dep l b ≤ D) (hD9 : D ≤ 9) :
    g40 (d + 19) l (a : Int) (b : Int) = some ((szS ((l.take b).drop a) : Nat) : Int) := by
  obtain ⟨G, e1, hG, hgl, e2⟩ := seg hF.ats hab (by omega) hlo hfst
  have hl := hF.len
  have hk := okF_ht hG hD hD9
  have hal : (l.take a).length = a := by rw [List.length_take]; omega
  have hzl := hF.szl
  have hz : szS (flat D G) ≤ szS l := by
    conv => rhs; rw [e1]
    rw [szS_app, szS_app]; omega
  rw [e2, show d + 19 = (d + 18) + 1 from rfl, e40]
  have := len_loop (l := l) (by omega) G (k := 8) (dd := d) (fuel := fuelN) (pre := l.take a) (r := l.drop b) (d := D) (x := 0) (e := (b : Int)) (by omega) (okF_ty hG) e1 (fun y hy => by
    rw [List.getElem?_drop] at hy
    rw [← dep_get hy]; exact hlast) (by rw [fuelN_eq]; omega) (by omega) (by rw [hal]; omega)
  rw [Nat.zero_add, hal] at this
  exact this

theorem take_split {l : List At} {p i : Nat} (h : p ≤ i) : szS (l.take i) = szS (l.take p) + szS ((l.take i).drop p) := by
  rw [← szS_app]
  congr 1
  have : l.take p = (l.take i).take p := by rw [List.take_take, Nat.min_eq_left h]
  rw [this, List.take_append_drop]

theorem tvOffset_eq {l : List At} {F : Fo} (hF : Val l F) : ∀ (j : Nat) {d i : Nat}, i < l.length → dep l i ≤ (j : Int) → g42 (d + j + 20) l (i : Int) = some ((szS (l.take i) : Nat) : Int)
  | 0, d, i, hi, hj => by have := dep_in hF.ats hi; omega
  | j + 1, d, i, hi, hj => by
    have hl := hF.len
    have hzl := hF.szl
    have hd := dep_in hF.ats hi
    rw [show d + (j + 1) + 20 = (d + j + 20) + 1 by omega, e42, show d + j + 20 = (d + j + 19) + 1 by omega, q_tvParent hi (by omega), ob_s]
    by_cases h1 : dep l i = 1
    · have hpa : paI l (dep l i) i = -1 := by rw [h1]; exact pa_one hF.ats (by omega)
      rw [hpa, decide_eq_true (by omega), oif_t, show d + j + 19 + 1 = (d + j + 1) + 19 by omega]
      have := range_len (d := d + j + 1) hF (a := 0) (b := i) (D := 1) (by omega) hi (by omega) (fun k _ hk => (dep_in hF.ats (by omega)).1) (fun h0 => by
        obtain ⟨x, hx⟩ : ∃ x, l[0]? = some x := ⟨_, List.getElem?_eq_getElem (by omega)⟩
        have hg := hF.ats
        unfold atsOk at hg
        simp only [Bool.and_eq_true] at hg
        rw [dep_get hx]; exact goodL_fst hg.1 hx) (by omega) (by omega)
      rw [List.drop_zero] at this
      rw [show ((0 : Nat) : Int) = 0 from rfl] at this
      rw [this, ob_s]
    · obtain ⟨p, hp, hpi, hpd, hbt⟩ := pa_some hF.ats hi (by omega)
      have hpl : p < l.length := by omega
      have hpd1 := dep_in hF.ats hpl
      rw [hp, decide_eq_false (by omega), oif_f, show d + j + 19 + 1 = d + j + 20 by omega, tvOffset_eq hF j hpl (by omega), ob_s, wr1 (by omega)]
      obtain ⟨y, hy⟩ : ∃ y, l[p]? = some y := ⟨_, List.getElem?_eq_getElem hpl⟩
      have hg := hF.ats
      unfold atsOk at hg
      simp only [Bool.and_eq_true] at hg
      have hya := goodL_all hg.1 hy
      have hstep : p + 1 < l.length → dep l (p + 1) ≤ nxM y := fun h => by
        obtain ⟨x, hx⟩ : ∃ x, l[p + 1]? = some x := ⟨_, List.getElem?_eq_getElem h⟩
        rw [dep_get hx]; exact goodL_next hg.1 hy hx
      have hst := hstep (by omega)
      have hge : dep l (p + 1) ≥ dep l i := by
        rcases Nat.eq_or_lt_of_le (show p + 1 ≤ i by omega) with h | h
        · rw [h]; omega
        · exact hbt (p + 1) (by omega) h
      have hnx := nxM_of hya
      rw [dep_get hy] at hpd
      have hyn : y.2.2.1 = true := by
        cases hn : y.2.2.1 with
        | true => rfl
        | false => rw [hn] at hnx; simp at hnx; omega
      rw [hyn, if_pos rfl] at hnx
      have hsy : szA y = 4 := by
        unfold atOk1 at hya
        rw [hyn] at hya
        simp only [Bool.not_true, Bool.false_or, Bool.and_eq_true, decide_eq_true_eq] at hya
        unfold szA; rw [hya.2]; rfl
      have hr := range_len (d := d + j + 1) hF (a := p + 1) (b := i) (D := dep l i) (by omega) hi (by omega) (fun k hk hki => hbt k (by omega) hki) (fun _ => by omega) (Int.le_refl _) (by omega)
      rw [show d + j + 20 = d + j + 1 + 19 by omega, hr, ob_s]
      have e1 := take_split (l := l) (show p ≤ i by omega)
      have e2 : (l.take i).drop p = y :: (l.take i).drop (p + 1) := by
        have hpt : p < (l.take i).length := by rw [List.length_take]; omega
        have e3 : (l.take i)[p] = y := by
          rw [List.getElem_take]
          have := List.getElem?_eq_getElem hpl
          rw [this] at hy; injection hy
        rw [List.drop_eq_getElem_cons hpt, e3]
      rw [e2, szS_cons, hsy] at e1
      have hle : szS (l.take i) ≤ szS l := by
        conv => rhs; rw [← List.take_append_drop i l]
        rw [szS_app]; omega
      rw [wr (n := ((szS (l.take p) : Nat) : Int) + 4) (by omega) (by omega), wr (by omega) (by omega), show ((szS (l.take p) : Nat) : Int) + 4 + ((szS ((l.take i).drop (p + 1)) : Nat) : Int) = ((szS (l.take i) : Nat) : Int) by omega]

theorem q_sOffsetOf {d : Nat} {l : List At} {F : Fo} {i : Nat} (hF : Val l F) (hi : i < l.length) (h6 : szS l ≤ 6000) : g16 (d + 29) l (i : Int) = some (((szS (l.take i) : Nat) : Int), true) := by
  have hl := hF.len
  have hd := dep_in hF.ats hi
  rw [e16, q_tvHas (by omega), ob_s]
  have hh : hasV l (i : Int) = true := by unfold hasV; rw [hF.ats, decide_eq_true (by omega)]; rfl
  rw [hh, Bool.not_true, oif_f, show d + 28 = (d + 9) + 19 from rfl, q_length hF, ob_s, decide_eq_false (by omega), oif_f, show d + 9 + 19 = d + 8 + 20 from rfl, tvOffset_eq hF 8 hi hd.2, ob_s]

/-- Reading. -/
theorem dc_inv {s : ByteArray} : ∀ (f : Nat) {d : Int} {a e : Nat} {acc : List At}, ¬ (dcV s f d a e acc).2.1 > 0 → e - a < f → a ≤ e → e ≤ (bl s).length → acc.length ≤ 400 → 1 ≤ d →
    ∃ F, (dcV s f d a e acc).1 = acc ++ flat d F ∧ okF d F ∧ ((bl s).drop a).take (e - a) = encF F ∧ (acc ++ flat d F).length ≤ 400
  | 0, d, a, e, acc, _, h, _, _, _, _ => by omega
  | f + 1, d, a, e, acc, h, hf, hae, hes, hac, hd => by
    simp only [dcV] at h ⊢
    by_cases hlt : a < e
    case neg =>
      rw [if_neg hlt]
      exact ⟨.nil, by simp [flat], trivial, by rw [show e - a = 0 by omega]; rfl, by simpa [flat] using hac⟩
    rw [if_pos hlt] at h ⊢
    by_cases hh : (hdV (bl s) d a e acc.length).1 > 0
    · rw [if_pos hh] at h; exact absurd hh h
    rw [if_neg hh] at h ⊢
    obtain ⟨k1, k2, k3, k4, k5, k6, k7⟩ := hd_ok hh
    have hp := pad4_le (wN (bl s) a)
    obtain ⟨c0, c1, c2, c3, D, hD⟩ : ∃ c0 c1 c2 c3 D, (bl s).drop a = c0 :: c1 :: c2 :: c3 :: D := by
      have hl : 4 ≤ ((bl s).drop a).length := by rw [List.length_drop]; omega
      generalize (bl s).drop a = m at hl
      match m, hl with
      | c0 :: c1 :: c2 :: c3 :: D, _ => exact ⟨c0, c1, c2, c3, D, rfl⟩
    have hby : ∀ j, by0 (bl s) (a + j) = (((bl s).drop a).getD j 0).toNat := by
      intro j
      unfold by0
      rw [List.getD_eq_getElem?_getD, List.getD_eq_getElem?_getD, List.getElem?_drop]
    have b0 : by0 (bl s) a = c0.toNat := by have := hby 0; rw [hD] at this; simpa using this
    have b1 : by0 (bl s) (a + 1) = c1.toNat := by have := hby 1; rw [hD] at this; simpa using this
    have b2 : by0 (bl s) (a + 2) = c2.toNat := by have := hby 2; rw [hD] at this; simpa using this
    have b3 : by0 (bl s) (a + 2 + 1) = c3.toNat := by have := hby 3; rw [hD] at this; simpa using this
    have hw : wN (bl s) a = c0.toNat + 256 * c1.toNat := by unfold wN; rw [b0, b1]
    have hk : wN (bl s) (a + 2) = c2.toNat + 256 * c3.toNat := by unfold wN; rw [b2, b3]
    have w2a : w2 ((wN (bl s) a : Nat) : Int) = [c0, c1] := by rw [hw]; exact by_w2
    have w2b : w2 ((wN (bl s) (a + 2) : Nat) : Int) = [c2, c3] := by rw [hk]; exact by_w2
    have hwl := wN_lt (bl s) (a + 2)
    have hD4 : (bl s).drop (a + 4) = D := by rw [← List.drop_drop, hD]; rfl
    have hlen : (bl s).length - a = D.length + 4 := by have := congrArg List.length hD; simpa using this
    have hnx : ((bl s).drop (a + pad4 (wN (bl s) a))).take (e - (a + pad4 (wN (bl s) a))) = (D.drop (pad4 (wN (bl s) a) - 4)).take (e - a - pad4 (wN (bl s) a)) := by
      rw [← hD4, List.drop_drop, show a + 4 + (pad4 (wN (bl s) a) - 4) = a + pad4 (wN (bl s) a) by omega, show e - (a + pad4 (wN (bl s) a)) = e - a - pad4 (wN (bl s) a) by omega]
    have hsp : ((bl s).drop a).take (e - a) = [c0, c1, c2, c3] ++ (D.take (wN (bl s) a - 4) ++ ((D.drop (wN (bl s) a - 4)).take (pad4 (wN (bl s) a) - wN (bl s) a) ++ (D.drop (pad4 (wN (bl s) a) - 4)).take (e - a - pad4 (wN (bl s) a)))) := by
      rw [hD]
      have e1 : e - a = (e - a - 4) + 4 := by omega
      have e2 : e - a - 4 = (wN (bl s) a - 4) + ((pad4 (wN (bl s) a) - wN (bl s) a) + (e - a - pad4 (wN (bl s) a))) := by omega
      conv => lhs; rw [e1]
      simp only [List.take_succ_cons, List.cons_append, List.nil_append]
      conv => lhs; rw [e2]
      rw [List.take_add, List.take_add, List.drop_drop, show wN (bl s) a - 4 + (pad4 (wN (bl s) a) - wN (bl s) a) = pad4 (wN (bl s) a) - 4 by omega]
    have hzero : (D.drop (wN (bl s) a - 4)).take (pad4 (wN (bl s) a) - wN (bl s) a) = List.replicate (pad4 (wN (bl s) a) - wN (bl s) a) 0 := by
      rw [List.eq_replicate_iff]
      refine ⟨by rw [List.length_take, List.length_drop]; omega, fun c hc => ?_⟩
      obtain ⟨j, hj, rfl⟩ := List.getElem_of_mem hc
      rw [List.length_take, List.length_drop] at hj
      rw [List.getElem_take, List.getElem_drop]
      have h7 := k7 (a + wN (bl s) a + j) (by omega) (by omega)
      have hidx : (bl s)[a + wN (bl s) a + j]? = some (D[wN (bl s) a - 4 + j]'(by omega)) := by
        rw [← List.getElem?_eq_getElem (l := D), ← hD4, List.getElem?_drop, show a + 4 + (wN (bl s) a - 4 + j) = a + wN (bl s) a + j by omega]
      unfold by0 at h7
      rw [List.getD_eq_getElem?_getD, hidx, Option.getD_some] at h7
      exact UInt8.toNat_inj.1 h7
    by_cases hleaf : wN (bl s) (a + 2) < 32768
    · rw [if_pos hleaf] at h ⊢
      obtain ⟨F, e1, e2, e3, e4⟩ := dc_inv f h (by omega) (by omega) hes (by simp; omega) hd
      have hbl : bl (s.extract (a + 4) (a + wN (bl s) a)) = D.take (wN (bl s) a - 4) := by
        rw [bl_ext, hD4, show a + wN (bl s) a - (a + 4) = wN (bl s) a - 4 by omega]
      have hbz : (D.take (wN (bl s) a - 4)).length = wN (bl s) a - 4 := by rw [List.length_take]; omega
      refine ⟨.leaf ((wN (bl s) (a + 2) : Nat) : Int) (s.extract (a + 4) (a + wN (bl s) a)) F, by rw [e1]; simp [flat], ⟨⟨hd, by omega, by omega, by omega, by rw [bl_len, hbl, hbz]; have := k6 hleaf; omega⟩, e2⟩, ?_, by simpa [flat] using e4⟩
      rw [encF, hbl, hbz, show 4 + (wN (bl s) a - 4) = wN (bl s) a by omega, w2a, w2b, hsp, hzero, ← hnx, e3]
      have hpz : pad4 (wN (bl s) a - 4) - (wN (bl s) a - 4) = pad4 (wN (bl s) a) - wN (bl s) a := by unfold pad4; omega
      rw [hpz]
      simp
    · rw [if_neg hleaf] at h ⊢
      by_cases hin : (dcV s f (d + 1) (a + 4) (a + wN (bl s) a) (acc ++ [(d, ((wN (bl s) (a + 2) - 32768 : Nat) : Int), true, ⟨#[]⟩)])).2.1 > 0
      · rw [if_pos hin] at h; exact absurd hin h
      rw [if_neg hin] at h ⊢
      obtain ⟨K, i1, i2, i3, i4⟩ := dc_inv f hin (by omega) (by omega) (by omega) (by simp; omega) (by omega)
      rw [i1] at h ⊢
      obtain ⟨F, e1, e2, e3, e4⟩ := dc_inv f h (by omega) (by omega) hes i4 hd
      rw [hD4, show a + wN (bl s) a - (a + 4) = wN (bl s) a - 4 by omega] at i3
      have hm := enc_mod K
      have hKl : (encF K).length = wN (bl s) a - 4 := by rw [← i3, List.length_take]; omega
      have hpz : pad4 (wN (bl s) a) - wN (bl s) a = 0 := by unfold pad4; omega
      refine ⟨.node ((wN (bl s) (a + 2) - 32768 : Nat) : Int) K F, by rw [e1]; simp [flat], ⟨⟨hd, by omega, by omega, by omega⟩, i2, e2⟩, ?_, by simpa [flat] using e4⟩
      rw [encF, hKl, show 4 + (wN (bl s) a - 4) = wN (bl s) a by omega, w2a, show ((wN (bl s) (a + 2) - 32768 : Nat) : Int) + 32768 = ((wN (bl s) (a + 2) : Nat) : Int) by omega, w2b, hsp, hzero, hpz, i3, ← hnx, e3]
      simp

theorem hd_pos {l : List UInt8} {d : Int} {a e c : Nat} : (hdV l d a e c).1 > 0 ∨ hdV l d a e c = (0, 0) := by
  unfold hdV
  (repeat' split) <;> simp

theorem dc_kind {s : ByteArray} : ∀ (f : Nat) {d : Int} {a e : Nat} {acc : List At}, (dcV s f d a e acc).2.1 > 0 ∨ (dcV s f d a e acc).2 = (0, 0)
  | 0, d, a, e, acc => Or.inr rfl
  | f + 1, d, a, e, acc => by
    simp only [dcV]
    split
    · split
      · rename_i h; exact Or.inl h
      · split
        · exact dc_kind f
        · split
          · rename_i h; exact Or.inl h
          · exact dc_kind f
    · exact Or.inr rfl

theorem dc_len {s : ByteArray} : ∀ (f : Nat) {d : Int} {a e : Nat} {acc : List At}, acc.length ≤ 400 → (dcV s f d a e acc).1.length ≤ 400
  | 0, d, a, e, acc, h => h
  | f + 1, d, a, e, acc, h => by
    simp only [dcV]
    split
    · split
      · exact h
      · rename_i hh
        have hc := (hd_ok hh).2.1
        split
        · exact dc_len f (by simp; omega)
        · have h2 := dc_len f (s := s) (d := d + 1) (a := a + 4) (e := a + wN (bl s) a) (acc := acc ++ [(d, ((wN (bl s) (a + 2) - 32768 : Nat) : Int), true, ⟨#[]⟩)]) (by simp; omega)
          split
          · exact h2
          · exact dc_len f h2
    · exact h

theorem orS8 {a b : Int} (h1 : 0 ≤ a) (h2 : a < 256) (h3 : 0 ≤ b) (h4 : b < 256) : IntKind.i64.wrap ((BitVec.ofInt IntKind.i64.bits a ||| BitVec.ofInt IntKind.i64.bits (IntKind.i64.wrap (b * 2 ^ (min (8 : Int).toNat IntKind.i64.bits)))).toNat : Int) = a + b * 256 := by
  have e0 : ((2 : Int) ^ (min (8 : Int).toNat IntKind.i64.bits)) = 256 := by decide
  rw [e0, wr (n := b * 256) (by omega) (by omega)]
  obtain ⟨x, rfl⟩ := Int.eq_ofNat_of_zero_le h1
  obtain ⟨y, rfl⟩ := Int.eq_ofNat_of_zero_le h3
  have hb : IntKind.i64.bits = 64 := rfl
  have e1 : (BitVec.ofInt IntKind.i64.bits ((y : Int) * 256)).toNat = 2 ^ 8 * y := by
    rw [hb, BitVec.toNat_ofInt]; omega
  have e2 : (BitVec.ofInt IntKind.i64.bits (x : Int)).toNat = x := by
    rw [hb, BitVec.toNat_ofInt]; omega
  rw [BitVec.toNat_or, e1, e2, Nat.or_comm, ← Nat.two_pow_add_eq_or_of_lt (show x < 2 ^ 8 by omega) y]
  rw [wr (by omega) (by omega)]; omega

theorem andM {n : Nat} (h : n < 65536) : IntKind.i64.wrap ((BitVec.ofInt IntKind.i64.bits (n : Int) &&& BitVec.ofInt IntKind.i64.bits 32767).toNat : Int) = ((n % 32768 : Nat) : Int) := by
  have hb : IntKind.i64.bits = 64 := rfl
  have e2 : (BitVec.ofInt IntKind.i64.bits (n : Int)).toNat = n := by
    rw [hb, BitVec.toNat_ofInt]; omega
  have e3 : (BitVec.ofInt IntKind.i64.bits 32767).toNat = 2 ^ 15 - 1 := by rw [hb]; decide
  rw [BitVec.toNat_and, e2, e3, Nat.and_two_pow_sub_one_eq_mod, show (2 : Nat) ^ 15 = 32768 from rfl]
  rw [wr (by omega) (by omega)]

theorem pad_raw {n : Nat} (h : n ≤ 1000000000) : IntKind.i64.wrap ((IntKind.i64.wrap ((IntKind.i64.wrap ((n : Int) + 3)).tdiv 4)) * 4) = ((pad4 n : Nat) : Int) := by
  have hp := pad4_le n
  rw [wr (n := (n : Int) + 3) (by omega) (by omega), show ((n : Int) + 3).tdiv 4 = (((n + 3) / 4 : Nat) : Int) from rfl, wr (n := (((n + 3) / 4 : Nat) : Int)) (by omega) (by omega), show ((((n + 3) / 4 : Nat) : Int)) * 4 = ((pad4 n : Nat) : Int) by unfold pad4; omega, wr (by omega) (by omega)]

theorem by_get {s : ByteArray} {i : Nat} (h : i < (bl s).length) : ∃ c, s.data.toList[i]? = some c ∧ c.toNat = by0 (bl s) i := by
  refine ⟨(bl s)[i], List.getElem?_eq_getElem (l := bl s) h, ?_⟩
  unfold by0
  rw [List.getD_eq_getElem?_getD, List.getElem?_eq_getElem h]; rfl

theorem q_short {d : Nat} {s : ByteArray} {acc : List At} {f : Int × Int} {i : Nat} (h : i + 1 < s.size) (hs : s.size ≤ 100000) : g77 (d + 1) (s, acc, f) (i : Int) = some (((wN (bl s) i : Nat) : Int), (s, acc, f)) := by
  rw [bl_len] at h hs
  obtain ⟨c, h1, h2⟩ := by_get (s := s) (i := i) (by omega)
  obtain ⟨c', h3, h4⟩ := by_get (s := s) (i := i + 1) (by omega)
  rw [e77, nn, oif_t, ofNat_toNat, h1, ob_s, wr1 (by omega), nn, oif_t, ofNat_toNat, h3, ob_s]
  have l1 := c.toNat_lt
  have l2 := c'.toNat_lt
  rw [wr (n := (c.toNat : Int)) (by omega) (by omega), wr (n := (c'.toNat : Int)) (by omega) (by omega), orS8 (by omega) (by omega) (by omega) (by omega)]
  unfold wN
  rw [← h2, ← h4]
  congr 2; omega

theorem q_tvRead {d : Nat} {s : ByteArray} {i : Nat} (h : i + 1 < s.size) (hs : s.size ≤ 100000) : g96 (d + 1) s (i : Int) = some ((wN (bl s) i : Nat) : Int) := by
  rw [bl_len] at h hs
  obtain ⟨c, h1, h2⟩ := by_get (s := s) (i := i) (by omega)
  obtain ⟨c', h3, h4⟩ := by_get (s := s) (i := i + 1) (by omega)
  rw [e96, nn, oif_t, ofNat_toNat, h1, ob_s, wr1 (by omega), nn, oif_t, ofNat_toNat, h3, ob_s]
  have l1 := c.toNat_lt
  have l2 := c'.toNat_lt
  rw [wr (n := (c.toNat : Int)) (by omega) (by omega), wr (n := (c'.toNat : Int)) (by omega) (by omega), wr (n := (256 : Int) * (c'.toNat : Int)) (by omega) (by omega), wr (by omega) (by omega)]
  unfold wN
  rw [← h2, ← h4]
  congr 1

theorem fnz_t {l : List UInt8} {a b : Nat} (h : a < b) (h2 : by0 l a ≠ 0) : fnz l a b = a := by
  unfold fnz
  rw [show b - a = (b - a - 1) + 1 by omega, untN, decide_eq_true h2]; rfl

theorem fnz_f {l : List UInt8} {a b : Nat} (h : a < b) (h2 : ¬ by0 l a ≠ 0) : fnz l a b = fnz l (a + 1) b := by
  unfold fnz
  rw [show b - a = (b - (a + 1)) + 1 by omega, untN, decide_eq_false h2]; rfl

theorem fnz_n {l : List UInt8} {a : Nat} : fnz l a a = a := by unfold fnz; rw [Nat.sub_self]; rfl

theorem zero_loop {d : Nat} {s : ByteArray} {acc : List At} {f : Int × Int} {at_ : Nat} {r12 : Int × (ByteArray × List At × Int × Int)} {kd : Int} {K : Bool → Int → Int → Option (Bool × (ByteArray × List At × Int × Int))} {n : Nat} (h12 : r12.1 = (n : Int)) (hn : n ≤ 70000) (ha : at_ ≤ 100000) (hb : at_ + pad4 n ≤ s.size) (hs : s.size ≤ 100000) :
    ∀ (k fuel a : Nat), a + k = at_ + pad4 n → k < fuel → iterP (l36_1 (d + 1) (at_ : Int) r12 (kd, (s, acc, f)) K) fuel (false, (a : Int)) = if fnz (bl s) a (at_ + pad4 n) < at_ + pad4 n then some (false, (s, acc, 1, ((fnz (bl s) a (at_ + pad4 n) : Nat) : Int))) else K false ((at_ + pad4 n : Nat) : Int) ((at_ + pad4 n : Nat) : Int)
  | _, 0, a, _, h => by omega
  | 0, fuel + 1, a, h, hf => by
    have hp := pad4_le n
    simp only [iterP, l36_1, l36_1_b, h12]
    rw [pad_raw (by omega), wrA (by omega), decide_eq_false (by omega), oif_f, show a = at_ + pad4 n by omega, fnz_n, if_neg (by omega)]
  | k + 1, fuel + 1, a, h, hf => by
    have hp := pad4_le n
    rw [bl_len] at hb hs
    obtain ⟨c, h1, h2⟩ := by_get (s := s) (i := a) (by omega)
    simp only [iterP, l36_1, l36_1_b, h12]
    rw [pad_raw (by omega), wrA (by omega), decide_eq_true (by omega), oif_t, nn, oif_t, ofNat_toNat, h1, ob_s]
    by_cases hz : by0 (bl s) a ≠ 0
    · rw [fnz_t (by omega) hz, if_pos (by omega), show (((c.toNat : Int)) != 0) = true by rw [bne_iff_ne]; omega, oif_t, e76, ob_s]
    · rw [fnz_f (by omega) hz, show (((c.toNat : Int)) != 0) = false by rw [bne_eq_false_iff_eq]; omega, oif_f, wr1 (by omega)]
      exact zero_loop h12 hn ha (by rw [bl_len]; exact hb) (by rw [bl_len]; exact hs) k fuel (a + 1) (by omega) (by omega)

def rdR (s : ByteArray) (R : List At × Int × Int) : Bool × (ByteArray × List At × Int × Int) := (!decide (R.2.1 > 0), (s, R))

theorem read_loop {s : ByteArray} (hs : s.size ≤ 100000) : ∀ (f : Nat) {k dd fuel a e : Nat} {dp : Int} {acc : List At}, k ≤ 9 → dp = 9 - (k : Int) → e - a < f → f ≤ 200000 → f ≤ fuel → a ≤ e → e ≤ s.size → acc.length ≤ 400 →
    iterP (l36_0 (dd + k + 1) (e : Int) dp (j36_0 (dd + k + 1))) fuel ((a : Int), false, (s, acc, 0, 0)) = some (rdR s (dcV s f dp a e acc))
  | 0, k, dd, fuel, a, e, dp, acc, _, _, h, _, _, _, _, _ => by omega
  | f + 1, k, dd, 0, a, e, dp, acc, _, _, h, _, h2, _, _, _ => by omega
  | f + 1, k, dd, fuel + 1, a, e, dp, acc, hk9, hk, hf, hf2, hfu, hae, hes, hac => by
    simp only [iterP, l36_0, l36_0_b, dcV]
    by_cases hlt : a < e
    case neg =>
      rw [decide_eq_false (by omega), oif_f, if_neg hlt]; rfl
    have stop : ∀ {kd : Int} {a' : Nat}, obind (g76 (dd + k + 1) (s, acc, 0, 0) kd (a' : Int)) (fun r => some (r.1, r.2)) = some (false, (s, acc, kd, (a' : Int))) := by
      intro kd a'
      rw [e76, ob_s]
    have bad : ∀ {p : Int × Int} {X : List At × Int × Int}, hdV (bl s) dp a e acc.length = p → p.1 > 0 → some (false, (s, acc, p.1, p.2)) = some (rdR s (if (hdV (bl s) dp a e acc.length).1 > 0 then (acc, hdV (bl s) dp a e acc.length) else X)) := by
      intro p X h1 h2
      rw [h1, if_pos h2]
      unfold rdR
      simp only []
      rw [decide_eq_true h2]; rfl
    rw [decide_eq_true (by omega), oif_t, if_pos hlt]
    have eh : hdV (bl s) dp a e acc.length = hdV (bl s) dp a e acc.length := rfl
    conv at eh => rhs; unfold hdV
    by_cases h1 : dp > 8
    · rw [if_pos h1] at eh
      rw [decide_eq_true h1, oif_t, stop]; exact bad eh (by simp)
    rw [if_neg h1] at eh
    rw [decide_eq_false h1, oif_f]
    by_cases h2 : acc.length ≥ 400
    · rw [if_pos h2] at eh
      rw [show (((acc.length : Nat) : Int) == 400) = true by rw [beq_iff_eq]; omega, oif_t, stop]; exact bad eh (by simp)
    rw [if_neg h2] at eh
    rw [show (((acc.length : Nat) : Int) == 400) = false by rw [beq_eq_false_iff_ne]; omega, oif_f, wr (n := (e : Int) - (a : Int)) (by omega) (by omega)]
    by_cases h3 : e - a < 4
    · rw [if_pos h3] at eh
      rw [decide_eq_true (by omega), oif_t, stop]; exact bad eh (by simp)
    rw [if_neg h3] at eh
    rw [decide_eq_false (by omega), oif_f, q_short (by omega) hs, ob_s]
    simp only []
    by_cases h4 : wN (bl s) a < 4
    · rw [if_pos h4] at eh
      rw [decide_eq_true (by omega), oif_t, stop]; exact bad eh (by simp)
    rw [if_neg h4] at eh
    have hp := pad4_le (wN (bl s) a)
    have hwl := wN_lt (bl s) a
    have hkl := wN_lt (bl s) (a + 2)
    rw [decide_eq_false (by omega), oif_f, pad_raw (by omega)]
    by_cases h5 : pad4 (wN (bl s) a) > e - a
    · rw [if_pos h5] at eh
      rw [decide_eq_true (by omega), oif_t, stop]; exact bad eh (by simp)
    rw [if_neg h5] at eh
    rw [decide_eq_false (by omega), oif_f, show ((a : Int) + 2) = ((a + 2 : Nat) : Int) by omega, wr (n := ((a + 2 : Nat) : Int)) (by omega) (by omega), q_short (by omega) hs, ob_s]
    simp only []
    have fin : ¬ (wN (bl s) (a + 2) < 32768 ∧ wN (bl s) a > 1004) → ∀ b, j36_4 (dd + k + 1) dp (iterP (l36_0 (dd + k + 1) (e : Int) dp (j36_0 (dd + k + 1))) fuel) (a : Int) false (((wN (bl s) a : Nat) : Int), (s, acc, 0, 0)) (((wN (bl s) (a + 2) : Nat) : Int), (s, acc, 0, 0)) b false = some (rdR s (if (hdV (bl s) dp a e acc.length).1 > 0 then (acc, hdV (bl s) dp a e acc.length) else
        if wN (bl s) (a + 2) < 32768 then dcV s f dp (a + pad4 (wN (bl s) a)) e (acc ++ [(dp, ((wN (bl s) (a + 2) : Nat) : Int), false, s.extract (a + 4) (a + wN (bl s) a))])
        else if (dcV s f (dp + 1) (a + 4) (a + wN (bl s) a) (acc ++ [(dp, ((wN (bl s) (a + 2) - 32768 : Nat) : Int), true, ⟨#[]⟩)])).2.1 > 0 then dcV s f (dp + 1) (a + 4) (a + wN (bl s) a) (acc ++ [(dp, ((wN (bl s) (a + 2) - 32768 : Nat) : Int), true, ⟨#[]⟩)])
        else dcV s f dp (a + pad4 (wN (bl s) a)) e (dcV s f (dp + 1) (a + 4) (a + wN (bl s) a) (acc ++ [(dp, ((wN (bl s) (a + 2) - 32768 : Nat) : Int), true, ⟨#[]⟩)])).1)) := by
      intro h6 b
      rw [if_neg h6] at eh
      unfold j36_4
      rw [oif_f, wrA (by omega), zero_loop (n := wN (bl s) a) rfl (by omega) (by omega) (by omega) hs (pad4 (wN (bl s) a) - wN (bl s) a) fuelN (a + wN (bl s) a) (by omega) (by rw [fuelN_eq]; omega)]
      by_cases h7 : fnz (bl s) (a + wN (bl s) a) (a + pad4 (wN (bl s) a)) < a + pad4 (wN (bl s) a)
      · rw [if_pos h7] at eh ⊢
        exact bad eh (by simp)
      rw [if_neg h7] at eh ⊢
      rw [if_neg (show ¬ (hdV (bl s) dp a e acc.length).1 > 0 by rw [eh]; decide)]
      unfold j36_3
      simp only []
      rw [wrA (by omega), show ((a : Int) + 4) = ((a + 4 : Nat) : Int) by omega, wr (n := ((a + 4 : Nat) : Int)) (by omega) (by omega), nn, nn, ofNat_toNat, ofNat_toNat, oif_t, oif_t, slice_t (by omega) (by omega)]
      have hmask : IntKind.i64.wrap ((BitVec.ofInt IntKind.i64.bits ((wN (bl s) (a + 2) : Nat) : Int) &&& BitVec.ofInt IntKind.i64.bits 32767).toNat : Int) = ((wN (bl s) (a + 2) % 32768 : Nat) : Int) := andM hkl
      by_cases hleaf : wN (bl s) (a + 2) < 32768
      · rw [if_pos hleaf, decide_eq_false (show ¬ ((wN (bl s) (a + 2) : Nat) : Int) > 32767 by omega), Bool.not_false, oif_t]
        unfold j36_2
        simp only []
        rw [room (by simp; omega), oif_t, decide_eq_false (show ¬ ((wN (bl s) (a + 2) : Nat) : Int) > 32767 by omega), oif_f]
        unfold j36_1
        simp only []
        rw [oif_f, pad_raw (by omega), wrA (by omega), hmask, Nat.mod_eq_of_lt hleaf]
        exact read_loop hs f hk9 hk (by omega) (by omega) (by omega) (by omega) hes (by simp; omega)
      · rw [if_neg hleaf, decide_eq_true (show ((wN (bl s) (a + 2) : Nat) : Int) > 32767 by omega), Bool.not_true, oif_f]
        unfold j36_2
        simp only []
        obtain ⟨k', rfl⟩ : ∃ k', k = k' + 1 := ⟨k - 1, by omega⟩
        rw [room (by simp; omega), oif_t, decide_eq_true (show ((wN (bl s) (a + 2) : Nat) : Int) > 32767 by omega), oif_t, hmask, show wN (bl s) (a + 2) % 32768 = wN (bl s) (a + 2) - 32768 by omega, show dd + (k' + 1) + 1 = (dd + k' + 1) + 1 by omega, e36, wrA (by omega), show ((a : Int) + 4) = ((a + 4 : Nat) : Int) by omega, wr (n := ((a + 4 : Nat) : Int)) (by omega) (by omega), wr (n := dp + 1) (by omega) (by omega)]
        have hin := read_loop hs f (k := k') (dd := dd) (fuel := fuelN) (a := a + 4) (e := a + wN (bl s) a) (dp := dp + 1) (acc := acc ++ [(dp, ((wN (bl s) (a + 2) - 32768 : Nat) : Int), true, ⟨#[]⟩)]) (by omega) (by omega) (by omega) (by omega) (by rw [fuelN_eq]; omega) (by omega) (by omega) (by simp; omega)
        rw [hin, ob_s]
        have hkd := dc_kind f (s := s) (d := dp + 1) (a := a + 4) (e := a + wN (bl s) a) (acc := acc ++ [(dp, ((wN (bl s) (a + 2) - 32768 : Nat) : Int), true, ⟨#[]⟩)])
        have hln := dc_len f (s := s) (d := dp + 1) (a := a + 4) (e := a + wN (bl s) a) (acc := acc ++ [(dp, ((wN (bl s) (a + 2) - 32768 : Nat) : Int), true, ⟨#[]⟩)]) (by simp; omega)
        generalize dcV s f (dp + 1) (a + 4) (a + wN (bl s) a) (acc ++ [(dp, ((wN (bl s) (a + 2) - 32768 : Nat) : Int), true, ⟨#[]⟩)]) = R at hkd hln
        unfold j36_1 rdR
        simp only [Bool.not_not]
        by_cases hR : R.2.1 > 0
        · rw [decide_eq_true hR, oif_t, if_pos hR, decide_eq_true hR]; rfl
        · have hz : R.2 = (0, 0) := by
            rcases hkd with h | h
            · exact absurd h hR
            · exact h
          rw [decide_eq_false hR, oif_f, if_neg hR, hz, pad_raw (by omega), wrA (by omega)]
          exact read_loop hs f (k := k' + 1) hk9 hk (by omega) (by omega) (by omega) (by omega) hes hln
    by_cases hleaf : wN (bl s) (a + 2) < 32768
    · rw [decide_eq_false (show ¬ ((wN (bl s) (a + 2) : Nat) : Int) > 32767 by omega), Bool.not_false, oif_t, wr (n := ((wN (bl s) a : Nat) : Int) - 4) (by omega) (by omega)]
      by_cases h6 : wN (bl s) a > 1004
      · rw [if_pos ⟨hleaf, h6⟩] at eh
        rw [decide_eq_true (by omega)]
        unfold j36_4
        rw [oif_t]
        simp only []
        rw [stop]; exact bad eh (by simp)
      · rw [decide_eq_false (by omega)]
        exact fin (by omega) true
    · rw [decide_eq_true (show ((wN (bl s) (a + 2) : Nat) : Int) > 32767 by omega), Bool.not_true, oif_f]
      exact fin (by omega) false

theorem zero_spec {d : Nat} {s : ByteArray} {acc : List At} {at_ n : Nat} (hn : n ≤ 70000) (ha : at_ ≤ 100000) (hb : at_ + pad4 n ≤ s.size) (hs : s.size ≤ 100000) :
    ∀ (k fuel a : Nat), a + k = at_ + pad4 n → k < fuel → iterP (l95_0 (d + 1) (s, acc) (at_ : Int) (n : Int) (j95_0 (d + 1) (s, acc))) fuel (a : Int) = some (if fnz (bl s) a (at_ + pad4 n) < at_ + pad4 n then (1, ((fnz (bl s) a (at_ + pad4 n) : Nat) : Int)) else (0, 0), (s, acc))
  | _, 0, a, _, h => by omega
  | 0, fuel + 1, a, h, hf => by
    have hp := pad4_le n
    simp only [iterP, l95_0, l95_0_b]
    rw [tvPad_eq (by omega), ob_s, wrA (by omega), decide_eq_false (by omega), oif_f, show a = at_ + pad4 n by omega, fnz_n, if_neg (by omega)]
    rfl
  | k + 1, fuel + 1, a, h, hf => by
    have hp := pad4_le n
    rw [bl_len] at hb hs
    obtain ⟨c, h1, h2⟩ := by_get (s := s) (i := a) (by omega)
    simp only [iterP, l95_0, l95_0_b]
    rw [tvPad_eq (by omega), ob_s, wrA (by omega), decide_eq_true (by omega), oif_t, nn, oif_t, ofNat_toNat, h1, ob_s]
    by_cases hz : by0 (bl s) a ≠ 0
    · rw [fnz_t (by omega) hz, if_pos (by omega), show (((c.toNat : Int)) != 0) = true by rw [bne_iff_ne]; omega, oif_t, e84, ob_s]
    · rw [fnz_f (by omega) hz, show (((c.toNat : Int)) != 0) = false by rw [bne_eq_false_iff_eq]; omega, oif_f, wr1 (by omega)]
      exact zero_spec hn ha (by rw [bl_len]; exact hb) (by rw [bl_len]; exact hs) k fuel (a + 1) (by omega) (by omega)

theorem head_eq {d : Nat} {s : ByteArray} {acc : List At} {dp : Int} {a e : Nat} (hs : s.size ≤ 100000) (hae : a < e) (hes : e ≤ s.size) (hac : acc.length ≤ 400) : g95 (d + 2) (s, acc) dp (a : Int) (e : Int) = some (hdV (bl s) dp a e acc.length, (s, acc)) := by
  rw [e95]
  unfold hdV
  by_cases h1 : dp > 8
  · rw [decide_eq_true h1, oif_t, if_pos h1, e84, ob_s]
  rw [decide_eq_false h1, oif_f, if_neg h1]
  by_cases h2 : acc.length ≥ 400
  · rw [decide_eq_true (show ((acc.length : Nat) : Int) ≥ 400 by omega), oif_t, if_pos h2, e84, ob_s]
  rw [decide_eq_false (show ¬ ((acc.length : Nat) : Int) ≥ 400 by omega), oif_f, if_neg h2, wr (n := (e : Int) - (a : Int)) (by omega) (by omega)]
  by_cases h3 : e - a < 4
  · rw [decide_eq_true (by omega), oif_t, if_pos h3, e84, ob_s]
  rw [decide_eq_false (by omega), oif_f, if_neg h3, q_tvRead (by omega) hs, ob_s]
  by_cases h4 : wN (bl s) a < 4
  · rw [decide_eq_true (by omega), oif_t, if_pos h4, e84, ob_s]
  have hp := pad4_le (wN (bl s) a)
  have hwl := wN_lt (bl s) a
  have hkl := wN_lt (bl s) (a + 2)
  rw [decide_eq_false (by omega), oif_f, if_neg h4, tvPad_eq (by omega), ob_s, wrA (by omega)]
  by_cases h5 : pad4 (wN (bl s) a) > e - a
  · rw [decide_eq_true (by omega), oif_t, if_pos h5, e84, ob_s]
  rw [decide_eq_false (by omega), oif_f, if_neg h5, show ((a : Int) + 2) = ((a + 2 : Nat) : Int) by omega, wr (n := ((a + 2 : Nat) : Int)) (by omega) (by omega), q_tvRead (by omega) hs, ob_s]
  have fin : ¬ (wN (bl s) (a + 2) < 32768 ∧ wN (bl s) a > 1004) → j95_1 (d + 1) (s, acc) (a : Int) ((wN (bl s) a : Nat) : Int) = some (if wN (bl s) (a + 2) < 32768 ∧ wN (bl s) a > 1004 then (5, (a : Int)) else if fnz (bl s) (a + wN (bl s) a) (a + pad4 (wN (bl s) a)) < a + pad4 (wN (bl s) a) then (1, ((fnz (bl s) (a + wN (bl s) a) (a + pad4 (wN (bl s) a)) : Nat) : Int)) else (0, 0), (s, acc)) := by
    intro h6
    unfold j95_1
    rw [if_neg h6, wrA (by omega), zero_spec (by omega) (by omega) (by omega) hs (pad4 (wN (bl s) a) - wN (bl s) a) fuelN (a + wN (bl s) a) (by omega) (by rw [fuelN_eq]; omega)]
  by_cases h6 : wN (bl s) (a + 2) < 32768
  · rw [decide_eq_true (by omega), oif_t]
    by_cases h7 : wN (bl s) a > 1004
    · rw [decide_eq_true (by omega), oif_t, if_pos ⟨h6, h7⟩, e84, ob_s]
    · rw [decide_eq_false (by omega), oif_f]; exact fin (by omega)
  · rw [decide_eq_false (by omega), oif_f]; exact fin (by omega)

theorem list_loop {s : ByteArray} (hs : s.size ≤ 100000) : ∀ (f : Nat) {k dd fuel a e : Nat} {dp : Int} {acc : List At}, k ≤ 9 → dp = 9 - (k : Int) → e - a < f → f ≤ 200000 → f ≤ fuel → a ≤ e → e ≤ s.size → acc.length ≤ 400 →
    iterP (l85_0 (dd + k + 2) dp (e : Int) (j85_0 (dd + k + 2))) fuel ((a : Int), (s, acc)) = some ((dcV s f dp a e acc).2, (s, (dcV s f dp a e acc).1))
  | 0, k, dd, fuel, a, e, dp, acc, _, _, h, _, _, _, _, _ => by omega
  | f + 1, k, dd, 0, a, e, dp, acc, _, _, h, _, h2, _, _, _ => by omega
  | f + 1, k, dd, fuel + 1, a, e, dp, acc, hk9, hk, hf, hf2, hfu, hae, hes, hac => by
    simp only [iterP, l85_0, l85_0_b, dcV]
    by_cases hlt : a < e
    case neg =>
      rw [decide_eq_false (by omega), oif_f, if_neg hlt]; rfl
    rw [decide_eq_true (by omega), oif_t, if_pos hlt, head_eq hs hlt hes hac, ob_s]
    simp only []
    by_cases hh : (hdV (bl s) dp a e acc.length).1 > 0
    · rw [decide_eq_true hh, oif_t, if_pos hh]
    rw [decide_eq_false hh, oif_f, if_neg hh]
    obtain ⟨k1, k2, k3, k4, k5, k6, k7⟩ := hd_ok hh
    have hp := pad4_le (wN (bl s) a)
    have hwl := wN_lt (bl s) a
    have hkl := wN_lt (bl s) (a + 2)
    rw [show dd + k + 2 = (dd + k + 1) + 1 by omega, q_tvRead (by omega) hs, ob_s, show ((a : Int) + 2) = ((a + 2 : Nat) : Int) by omega, wr (n := ((a + 2 : Nat) : Int)) (by omega) (by omega), q_tvRead (by omega) hs, ob_s]
    by_cases hleaf : wN (bl s) (a + 2) < 32768
    · rw [decide_eq_true (by omega), oif_t, if_pos hleaf, wrA (by omega), show ((a : Int) + 4) = ((a + 4 : Nat) : Int) by omega, wr (n := ((a + 4 : Nat) : Int)) (by omega) (by omega), nn, nn, ofNat_toNat, ofNat_toNat, oif_t, oif_t, slice_t (by omega) (by omega), room (by simp; omega), oif_t, tvPad_eq (by omega), ob_s, wrA (by omega)]
      exact list_loop hs f (dd := dd) hk9 hk (by omega) (by omega) (by omega) (by omega) hes (by simp; omega)
    · obtain ⟨k', rfl⟩ : ∃ k', k = k' + 1 := ⟨k - 1, by omega⟩
      rw [decide_eq_false (by omega), oif_f, if_neg hleaf, wr (n := ((wN (bl s) (a + 2) : Nat) : Int) - 32768) (by omega) (by omega), room (by simp; omega), oif_t, show ((wN (bl s) (a + 2) : Nat) : Int) - 32768 = ((wN (bl s) (a + 2) - 32768 : Nat) : Int) by omega]
      rw [show dd + (k' + 1) + 1 + 1 = (dd + k' + 2) + 1 by omega, e85, wrA (by omega), show ((a : Int) + 4) = ((a + 4 : Nat) : Int) by omega, wr (n := ((a + 4 : Nat) : Int)) (by omega) (by omega), wr (n := dp + 1) (by omega) (by omega)]
      have hin := list_loop hs f (k := k') (dd := dd) (fuel := fuelN) (a := a + 4) (e := a + wN (bl s) a) (dp := dp + 1) (acc := acc ++ [(dp, ((wN (bl s) (a + 2) - 32768 : Nat) : Int), true, ⟨#[]⟩)]) (by omega) (by omega) (by omega) (by omega) (by rw [fuelN_eq]; omega) (by omega) (by omega) (by simp; omega)
      rw [hin, ob_s]
      have hln := dc_len f (s := s) (d := dp + 1) (a := a + 4) (e := a + wN (bl s) a) (acc := acc ++ [(dp, ((wN (bl s) (a + 2) - 32768 : Nat) : Int), true, ⟨#[]⟩)]) (by simp; omega)
      generalize dcV s f (dp + 1) (a + 4) (a + wN (bl s) a) (acc ++ [(dp, ((wN (bl s) (a + 2) - 32768 : Nat) : Int), true, ⟨#[]⟩)]) = R at hln
      simp only []
      by_cases hR : R.2.1 > 0
      · rw [decide_eq_true hR, oif_t, if_pos hR]
      · rw [decide_eq_false hR, oif_f, if_neg hR, tvPad_eq (by omega), ob_s, wrA (by omega)]
        exact list_loop hs f (k := k' + 1) (dd := dd) hk9 hk (by omega) (by omega) (by omega) (by omega) hes hln

def dcA (s : ByteArray) : List At × Int × Int := dcV s (s.size + 1) 1 0 s.size []

def deV (s : ByteArray) : List At × (Int × Int) × Bool := if s.size > 6000 then ([], (5, 0), false) else if (dcA s).2.1 > 0 then ([], (dcA s).2, false) else ((dcA s).1, (0, 0), true)

theorem q_DecodeAttrs {d : Nat} {s : ByteArray} : g11 (d + 11) s = some (deV s) := by
  rw [e11]
  unfold deV
  by_cases h : s.size > 6000
  · rw [decide_eq_true (by omega), oif_t, if_pos h]
  rw [decide_eq_false (by omega), oif_f, if_neg h, show d + 10 = (d + 8 + 1) + 1 from rfl, e36]
  have := read_loop (s := s) (by omega) (s.size + 1) (k := 8) (dd := d) (fuel := fuelN) (a := 0) (e := s.size) (dp := 1) (acc := []) (by omega) (by omega) (by omega) (by omega) (by rw [fuelN_eq]; omega) (by omega) (by omega) (by simp)
  rw [show iterP (l36_0 (d + 8 + 1) ((s.size : Nat) : Int) 1 (j36_0 (d + 8 + 1))) fuelN (0, false, (s, [], 0, 0)) = some (rdR s (dcA s)) from this, ob_s]
  unfold rdR
  simp only [Bool.not_not]
  by_cases hR : (dcA s).2.1 > 0
  · rw [decide_eq_true hR, oif_t, if_pos hR]
  · rw [decide_eq_false hR, oif_f, if_neg hR]

theorem q_sDecodeAttrs {d : Nat} {s : ByteArray} : g18 (d + 13) s = some (deV s) := by
  rw [e18, show d + 12 = (d + 11) + 1 from rfl, e52]
  unfold deV
  by_cases h : s.size > 6000
  · rw [decide_eq_true (by omega), oif_t, if_pos h, show d + 11 = (d + 10) + 1 from rfl, e84, ob_s, ob_s]; rfl
  rw [decide_eq_false (by omega), oif_f, if_neg h, show d + 11 = (d + 8 + 2) + 1 from rfl, e85]
  have := list_loop (s := s) (by omega) (s.size + 1) (k := 8) (dd := d) (fuel := fuelN) (a := 0) (e := s.size) (dp := 1) (acc := []) (by omega) (by omega) (by omega) (by omega) (by rw [fuelN_eq]; omega) (by omega) (by omega) (by simp)
  rw [show iterP (l85_0 (d + 8 + 2) 1 ((s.size : Nat) : Int) (j85_0 (d + 8 + 2))) fuelN (0, (s, [])) = some ((dcA s).2, (s, (dcA s).1)) from this, ob_s]
  simp only []
  have hk := dc_kind (s := s) (s.size + 1) (d := 1) (a := 0) (e := s.size) (acc := [])
  change (dcA s).2.1 > 0 ∨ (dcA s).2 = (0, 0) at hk
  by_cases hR : (dcA s).2.1 > 0
  · rw [decide_eq_true hR, oif_t, if_pos hR, ob_s]
    simp only []
    rw [show ((dcA s).2.1 == 0) = false by rw [beq_eq_false_iff_ne]; omega]
  · have hz : (dcA s).2 = (0, 0) := by
      rcases hk with h | h
      · exact absurd h hR
      · exact h
    rw [decide_eq_false hR, oif_f, if_neg hR, hz, ob_s]; rfl

/-- What is encoded is read back. -/
theorem back {l : List At} {F : Fo} (hF : Val l F) (h6 : szS l ≤ 6000) : deV (toB (encF F)) = (l, (0, 0), true) := by
  have hel := enc_len F 1
  rw [← hF.eq] at hel
  have hl := hF.len
  unfold deV dcA
  have hz : (toB (encF F)).size = (encF F).length := toB_size _
  have := dc_enc (s := toB (encF F)) (by omega) F ((toB (encF F)).size + 1) (d := 1) (p := []) (q := []) (acc := []) hF.ok (by rw [bl_toB]; simp) (by rw [← hF.eq]; simpa using hl) (by omega)
  simp only [List.length_nil, Nat.zero_add, List.nil_append] at this
  rw [if_neg (by omega), hz] at *
  rw [this, ← hF.eq]
  rfl

/-- What is read is encoded again. -/
theorem forth {s : ByteArray} (h : (deV s).2.2 = true) : ∃ F, Val (deV s).1 F ∧ eaV (deV s).1 F = (s, true) := by
  unfold deV at h ⊢
  by_cases h1 : s.size > 6000
  · rw [if_pos h1] at h; simp at h
  rw [if_neg h1] at h ⊢
  by_cases h2 : (dcA s).2.1 > 0
  · rw [if_pos h2] at h; simp at h
  rw [if_neg h2]
  obtain ⟨F, e1, e2, e3, e4⟩ := dc_inv (s := s) (s.size + 1) (d := 1) (a := 0) (e := s.size) (acc := []) h2 (by omega) (by omega) (by rw [bl_len]; exact Nat.le_refl _) (by simp) (by omega)
  rw [List.nil_append] at e1 e4
  rw [List.drop_zero, Nat.sub_zero, bl_len, List.take_length] at e3
  change (dcA s).1 = flat 1 F at e1
  simp only []
  refine ⟨F, ⟨e1, e2, by rw [e1]; exact e4⟩, ?_⟩
  have hel := enc_len F 1
  rw [← e3, ← bl_len] at hel
  unfold eaV
  rw [e1, if_pos (by omega), ← e3, toB_bl]

theorem fault_at {s : ByteArray} (h : (deV s).2.2 = false) : (deV s).2.1.2 ≤ (s.size : Int) := by
  unfold deV at h ⊢
  by_cases h1 : s.size > 6000
  · rw [if_pos h1]; simp only; omega
  rw [if_neg h1] at h ⊢
  by_cases h2 : (dcA s).2.1 > 0
  · rw [if_pos h2]; exact (dc_at (s := s) (s.size + 1) (d := 1) (a := 0) (e := s.size) (acc := [])).2
  · rw [if_neg h2] at h; simp at h

theorem p_bentA {d m : Nat} {c : List Int × Int × Int} {s : ByteArray} (hc : CurOk m c) (hm : m + 100 < 4611686018427387904) (hs : s.size ≤ 600000000000) : Ok (g51 (d + 4) c s) fun r => r.1.size ≤ 600000000008 := by
  rw [e51]
  refine Ok.oif (fun h => ?_) (fun h => ?_)
  · refine Ok.bind (p_of hc (by omega) (by simp)) fun r hr => Ok.some ?_
    have := hr.1
    have all : ∀ x ∈ [(⟨#[]⟩ : ByteArray), (⟨#[0, 0, 0]⟩ : ByteArray), (⟨#[3, 0, 3, 0]⟩ : ByteArray), (⟨#[4, 0, 0, 0]⟩ : ByteArray), (⟨#[5, 0, 0, 0, 97, 0, 0, 1]⟩ : ByteArray)], x.size ≤ 8 := by
      intro x hx
      simp only [List.mem_cons, List.not_mem_nil, or_false] at hx
      rcases hx with rfl | rfl | rfl | rfl | rfl <;> decide
    have := all _ this
    simp only; omega
  · have h0 : 0 < s.size := by
      rcases Nat.eq_zero_or_pos s.size with e | e
      · rw [e] at h; simp at h
      · exact e
    refine Ok.bind (p_pick hc (by omega)) fun r1 hr1 => ?_
    refine Ok.oif (fun _ => ?_) (fun _ => Ok.oif (fun _ => ?_) (fun _ => Ok.oif (fun _ => ?_) (fun _ => Ok.some (by simp only; omega))))
    · refine Ok.bind (p_pick hr1.2.2 (by omega)) fun r2 hr2 => ?_
      obtain ⟨a1, a2, a3⟩ := hr2
      have hlt : r2.1.toNat < s.size := by omega
      rw [decide_eq_true a1, oif_t, slice_t (by omega) (by omega)]
      refine Ok.bind (p_pick a3 (by omega)) fun r3 hr3 => ?_
      have e1 : (s.extract 0 r2.1.toNat).size = r2.1.toNat := by rw [ByteArray.size_extract]; omega
      have hst : ∀ n : Int, (strL [n]).size = 1 := fun n => by rw [strL_len]; rfl
      rw [room2 (by rw [e1, hst]; omega), wr (n := r2.1 + 1) (by omega) (by omega), decide_eq_true (show 0 ≤ r2.1 + 1 by omega), oif_t, slice_t (by omega) (by omega)]
      have e3 : (s.extract (r2.1 + 1).toNat s.size).size = s.size - r2.1.toNat - 1 := by rw [ByteArray.size_extract]; omega
      rw [room2 (by rw [ByteArray.size_append, e1, hst, e3]; omega)]
      refine Ok.some ?_
      simp only [ByteArray.size_append]
      rw [e1, hst, e3]; omega
    · refine Ok.bind (p_pick hr1.2.2 (by omega)) fun r2 hr2 => ?_
      obtain ⟨a1, a2, a3⟩ := hr2
      rw [decide_eq_true a1, oif_t, slice_t (by omega) (by omega)]
      refine Ok.some ?_
      simp only [ByteArray.size_extract]; omega
    · refine Ok.bind (p_of hr1.2.2 (by omega) (by simp)) fun r hr => ?_
      have := hr.1
      have all : ∀ x ∈ [(⟨#[0]⟩ : ByteArray), (⟨#[4, 0, 0, 128]⟩ : ByteArray), (⟨#[0, 0, 0, 0]⟩ : ByteArray), (⟨#[8, 0, 0, 128, 3, 0, 0, 0]⟩ : ByteArray)], x.size ≤ 8 := by
        intro x hx
        simp only [List.mem_cons, List.not_mem_nil, or_false] at hx
        rcases hx with rfl | rfl | rfl | rfl <;> decide
      have := all _ this
      rw [room2 (by omega)]
      refine Ok.some ?_
      simp only [ByteArray.size_append]; omega

theorem p_longA {d : Nat} {c : List Int × Int × Int} {n : Int} (hn : n ≤ 10000) : Ok (g50 (d + 1) c n) fun r => r.1.size ≤ 10000 := by
  rw [e50]
  refine iter_ok (fun j s => s.size + j = 10000) ?_ _ 10000 _ (by rw [fuelN_eq]; omega) (by show (⟨#[]⟩ : ByteArray).size + 10000 = 10000; rfl)
  rintro j s ag h1 hag
  simp only [l50_0, l50_0_b]
  refine Ok.oif (fun h => ?_) (fun _ => ?_)
  · simp only [decide_eq_true_eq] at h
    have h0 : (⟨#[120]⟩ : ByteArray).size = 1 := rfl
    rw [room2 (by omega)]
    exact hag (j - 1) _ (by omega) (by rw [ByteArray.size_append]; omega)
  · unfold j50_0
    exact Ok.some (by simp only; omega)

theorem map_dpr : ∀ (F : Fo) (d : Int), 0 ≤ d → d + (ht F : Int) ≤ 1000 → (flat d F).map dpr = flat (d + 1) F
  | .nil, d, _, _ => rfl
  | .leaf t b n, d, h0, h => by
    simp only [ht] at h
    simp only [flat, List.map_cons, map_dpr n d h0 h, dpr]
    rw [wr (by omega) (by omega)]
  | .node t k n, d, h0, h => by
    simp only [ht] at h
    simp only [flat, List.map_cons, List.map_append, map_dpr n d h0 (by omega), map_dpr k (d + 1) (by omega) (by omega), dpr]
    rw [wr (by omega) (by omega)]

theorem wrap_flat {F : Fo} (h : (ht F : Int) ≤ 900) : wrL 1 (flat 1 F) = flat 1 (.node 1 F .nil) := by
  unfold wrL
  rw [map_dpr F 1 (by omega) (by omega)]
  simp [flat]

theorem p_DrawDecodeAttrs {d : Nat} {y : List Int} (hy : Bytes y) : Ok (g17 (d + 30) y) fun _ => True := by
  rw [e17]
  have hbk : ∀ {l : List At} {c : List Int × Int × Int}, l.length ≤ 500 → CurOk 2000 c → Ok (j17_2 (d + 29) c.1 c.2.1 c.2.2 l) fun _ => True := by
    intro l c hl hc
    unfold j17_2
    rw [q_tvGood (by omega), ob_s]
    cases ha : atsOk l with
    | false => exact Ok.some trivial
    | true =>
      obtain ⟨F, hF⟩ := Val.of ha
      have hl4 := hF.len
      have hty := okF_ty hF.ok
      have hht := hF.ht
      have hz := tyF_sz 1 hty
      rw [← hF.eq] at hz
      rw [Bool.not_true, oif_f, show d + 29 = (d + 10) + 2 * 8 + 3 from rfl, q_tvAll (by omega) hF.eq hty hht, ob_s]
      refine Ok.bind (p_one (m := 2000) (c := (c.1, c.2.1, c.2.2)) hc (by omega)) fun r hr => ?_
      refine Ok.oif (fun _ => ?_) fun _ => ?_
      · have e1 : wrL 1 l = flat 1 (.node 1 F .nil) := by rw [hF.eq]; exact wrap_flat (by omega)
        have l1 : (wrL 1 l).length = l.length + 1 := by simp [wrL]
        have e2 : wrL 1 (wrL 1 l) = flat 1 (.node 1 (.node 1 F .nil) .nil) := by rw [e1]; exact wrap_flat (by simp only [ht]; omega)
        have l2 : (wrL 1 (wrL 1 l)).length = l.length + 2 := by simp [wrL]
        have e3 : wrL 1 (wrL 1 (wrL 1 l)) = flat 1 (.node 1 (.node 1 (.node 1 F .nil) .nil) .nil) := by rw [e2]; exact wrap_flat (by simp only [ht]; omega)
        have l3 : (wrL 1 (wrL 1 (wrL 1 l))).length = l.length + 3 := by simp [wrL]
        have e4 : wrL 1 (wrL 1 (wrL 1 (wrL 1 l))) = flat 1 (.node 1 (.node 1 (.node 1 (.node 1 F .nil) .nil) .nil) .nil) := by rw [e3]; exact wrap_flat (by simp only [ht]; omega)
        have l4 : (wrL 1 (wrL 1 (wrL 1 (wrL 1 l)))).length = l.length + 4 := by simp [wrL]
        rw [q_tvWrap (by omega), ob_s, q_tvWrap (by omega), ob_s, q_tvWrap (by omega), ob_s, q_tvWrap (by omega), ob_s, wr (by omega) (by omega), show ((l.length : Nat) : Int) + 4 = (((wrL 1 (wrL 1 (wrL 1 (wrL 1 l)))).length : Nat) : Int) by omega, show d + 10 + 2 * 8 + 3 = d + 2 * 12 + 2 + 3 from rfl]
        rw [show d + 2 * 12 + 2 + 3 = (d + 2) + 2 * 12 + 3 by omega, q_tvAll (d := d + 2) (k := 12) (by omega) e4 (by refine ⟨⟨by omega, by omega⟩, ⟨⟨by omega, by omega⟩, ⟨⟨by omega, by omega⟩, ⟨⟨by omega, by omega⟩, hty, trivial⟩, trivial⟩, trivial⟩, trivial⟩) (by simp only [ht]; omega), ob_s]
        exact Ok.some trivial
      refine Ok.bind (p_one hr (by omega)) fun r2 hr2 => ?_
      refine Ok.oif (fun _ => ?_) fun _ => ?_
      · refine Ok.bind (p_pick hr2 (by omega)) fun r3 hr3 => ?_
        obtain ⟨a1, a2, a3⟩ := hr3
        rw [wr (by omega) (by omega)]
        refine iter_ok (fun k (st : ByteArray × Int) => st.2 ≤ (k : Int) ∧ st.1.size + 4 * k ≤ 2000) ?_ _ 402 _ (by rw [fuelN_eq]; omega) ⟨by simp only; omega, by show (⟨#[]⟩ : ByteArray).size + 4 * 402 ≤ 2000; decide⟩
        rintro k ⟨s, n⟩ ag ⟨h1, h2⟩ hag
        simp only at h1 h2
        simp only [l17_0, l17_0_b]
        refine Ok.oif (fun h => ?_) fun _ => Ok.some trivial
        simp only [decide_eq_true_eq] at h
        have h4 : (⟨#[4, 0, 0, 0]⟩ : ByteArray).size = 4 := rfl
        rw [room2 (by omega), wr (by omega) (by omega)]
        exact hag (k - 1) _ (by omega) ⟨by simp only; omega, by rw [ByteArray.size_append]; omega⟩
      refine Ok.bind (p_one hr2 (by omega)) fun r3 hr3 => ?_
      refine Ok.oif (fun _ => ?_) fun _ => ?_
      · refine Ok.bind (p_pick hr3 (by omega)) fun r4 hr4 => ?_
        obtain ⟨a1, a2, a3⟩ := hr4
        rw [wr (n := (1000 : Int) + r4.1) (by omega) (by omega), wr (n := (4 : Int) + ((1000 : Int) + r4.1)) (by omega) (by omega), show d + 10 + 2 * 8 + 3 = (d + 28) + 1 from rfl, tvWord_eq (by omega) (by omega), ob_s, tvWord_eq (by omega) (by omega), ob_s, room2 (by rw [toB_size, toB_size, w2_len, w2_len]; omega)]
        refine Ok.bind (p_longA (by omega)) fun r5 hr5 => ?_
        have hsz : (toB (w2 ((4 : Int) + ((1000 : Int) + r4.1))) ++ toB (w2 0)).size = 4 := by rw [toB_app, toB_size]; rfl
        rw [room2 (by rw [hsz]; omega)]
        refine iter_ok (fun k (s : ByteArray) => s.size + k = 20000 ∨ (s.size % 4 = 0 ∧ s.size ≤ 20000)) ?_ _ (20000 - (toB (w2 ((4 : Int) + ((1000 : Int) + r4.1))) ++ toB (w2 0) ++ r5.1).size) _ (by rw [fuelN_eq]; omega) (Or.inl (by rw [ByteArray.size_append, hsz]; omega))
        rintro k s ag hs hag
        simp only [l17_1, l17_1_b]
        refine Ok.oif (fun h => ?_) fun _ => Ok.some trivial
        rw [bne_iff_ne, show ((s.size : Nat) : Int).tmod 4 = ((s.size % 4 : Nat) : Int) from rfl] at h
        have h4 : (⟨#[0]⟩ : ByteArray).size = 1 := rfl
        rw [room2 (by omega)]
        exact hag (k - 1) _ (by omega) (Or.inl (by rw [ByteArray.size_append]; omega))
      · exact Ok.bind (p_bentA hr3 (by omega) (by rw [toB_size]; omega)) fun r4 _ => Ok.some trivial
  refine Ok.bind (p_attrs (CurOk.new hy) (by omega)) fun r hr => ?_
  refine Ok.bind (p_one hr.2 (by omega)) fun q hq => ?_
  refine Ok.oif (fun _ => ?_) fun _ => ?_
  · refine Ok.bind (p_anyAttrs hq (by omega)) fun u hu => ?_
    exact hbk hu.1 (hu.2.mono (by omega))
  · exact hbk (by omega) (hq.mono (by omega))

theorem deV_len {s : ByteArray} : (deV s).1.length ≤ 400 := by
  unfold deV
  split
  · simp
  · split
    · simp
    · exact dc_len _ (by simp)

theorem law_1 {d : Nat} {y : List Int} {b : Bool} (hy : Bytes y) : Ok (j3_1 (d + 30) y b) fun r => r = true := by
  unfold j3_1
  refine Ok.bind (p_DrawDecodeAttrs hy) fun s _ => ?_
  have hl := deV_len (s := s)
  rw [show d + 30 = (d + 19) + 11 from rfl, q_DecodeAttrs, ob_s, show d + 19 + 11 = (d + 17) + 13 from rfl, q_sDecodeAttrs, ob_s, show d + 17 + 13 = (d + 29) + 1 from rfl, q_pSameAttrs (by omega), ob_s]
  simp only [beq_self_eq_true, Bool.not_true, oif_f, Bool.and_self]
  have h0 : j3_0 (d + 29 + 1) s (deV s) false = some true := by
    unfold j3_0
    rw [oif_f]
    cases h : (deV s).2.2 with
    | false => rfl
    | true =>
      obtain ⟨F, hF, he⟩ := forth h
      rw [oif_t, show d + 29 + 1 = (d + 19) + 11 from rfl, q_EncodeAttrs hF, ob_s, he]
      simp only [beq_self_eq_true, oif_t]
  refine Ok.eq (a := true) ?_ rfl
  cases h : (deV s).2.2 with
  | false =>
    have := fault_at h
    rw [Bool.not_false, oif_t, decide_eq_false (by omega)]; exact h0
  | true => rw [Bool.not_true, oif_f]; exact h0

theorem law_4 {d : Nat} {y : List Int} {l : List At} {F : Fo} (hy : Bytes y) (hF : Val l F) (h6 : szS l ≤ 6000) : Ok (j3_4 (d + 30) y l (toB (encF F), true) false) fun r => r = true := by
  unfold j3_4
  rw [oif_f]
  have hl := hF.len
  have hel := enc_len F 1
  rw [← hF.eq] at hel
  have h2 : ∀ (b : Bool) (n : Int), (l.length ≤ 40 → n = ((szS l : Nat) : Int)) → Ok (j3_2 (d + 30) y l (toB (encF F), true) b n) fun r => r = true := by
    intro b n hn
    unfold j3_2
    by_cases h40 : l.length ≤ 40
    · rw [decide_eq_true (by omega), oif_t, hn h40]
      simp only []
      rw [toB_size, hel, bne_self_eq_false, oif_f]
      exact law_1 hy
    · rw [decide_eq_false (by omega), oif_f]
      exact law_1 hy
  refine iter_ok (fun k (st : Bool × Int × Int) => ∃ i e : Nat, i + k = l.length ∧ st.2.2 = (i : Int) ∧ i ≤ e ∧ e ≤ l.length ∧ st.2.1 = ((szS (l.take e) : Nat) : Int) ∧ (∀ j, i ≤ j → j < e → dep l j > 1) ∧ (e < l.length → dep l e = 1)) ?_ _ l.length _ (by rw [fuelN_eq]; omega) ⟨0, 0, Nat.zero_add _, rfl, Nat.le_refl _, Nat.zero_le _, rfl, fun j _ h => by omega, fun h => ?_⟩
  · rintro k ⟨b, n, i'⟩ ag ⟨i, e, e1, e2, e3, e4, e5, e6, e7⟩ hag
    simp only at e2 e5
    subst e2 e5
    simp only [l3_0, l3_0_b]
    by_cases hi : i < l.length
    case neg =>
      rw [decide_eq_false (by omega), oif_f]
      refine h2 _ _ fun _ => ?_
      rw [show e = l.length by omega, List.take_length]
    obtain ⟨x, hx⟩ : ∃ x, l[i]? = some x := ⟨_, List.getElem?_eq_getElem hi⟩
    have hd := dep_in hF.ats hi
    have hzl := hF.szl
    have hle : ∀ j, szS (l.take j) ≤ szS l := fun j => by
      conv => rhs; rw [← List.take_append_drop j l]
      rw [szS_app]; omega
    have htk := szI_take hF.ats hi
    have hel2 := hle (enK l i)
    have hee := hle e
    rw [decide_eq_true (by omega), oif_t, nn, oif_t, ofNat_toNat, blt_of hi, oif_t, hx, ob_s, show d + 30 = (d + 25) + 5 from rfl, q_SizeOf hF hi h6, ob_s, show d + 25 + 5 = (d + 9) + 21 from rfl, q_sSizeOf hF hi h6, ob_s, show d + 9 + 21 = (d + 25) + 5 from rfl, q_OffsetOf hF hi h6, ob_s, show d + 25 + 5 = (d + 1) + 29 from rfl, q_sOffsetOf hF hi h6, ob_s]
    simp only [Bool.not_true, oif_f, bne_self_eq_false]
    unfold j3_3
    rw [oif_f]
    simp only []
    rw [dep_get hx] at hd
    by_cases h1 : x.1 = 1
    · have hei : e = i := by
        rcases Nat.eq_or_lt_of_le e3 with h | h
        · exact h.symm
        · have := e6 i (Nat.le_refl _) h
          rw [dep_get hx] at this; omega
      subst hei
      obtain ⟨k1, k2, k3, k4⟩ := enK_in hi
      rw [show (x.1 == 1) = true by rw [beq_iff_eq]; exact h1, oif_t, bne_self_eq_false, oif_f, wrA (by omega), htk]
      by_cases h40 : ((e : Nat) : Int) > 40
      · rw [decide_eq_true h40, oif_t]
        exact h2 _ _ fun _ => by omega
      · rw [decide_eq_false h40, oif_f, wr1 (by omega)]
        refine hag (k - 1) _ (by omega) ⟨e + 1, enK l e, by omega, rfl, by omega, k2, rfl, fun j hj1 hj2 => ?_, fun h => ?_⟩
        · have := k3 j (by omega) hj2
          rw [dep_get hx] at this; omega
        · have h5 := k4 h
          rw [dep_get hx] at h5
          have := (dep_in hF.ats h).1
          omega
    · have hei : i < e := by
        rcases Nat.eq_or_lt_of_le e3 with h | h
        · subst h
          have := e7 hi
          rw [dep_get hx] at this; omega
        · exact h
      rw [show (x.1 == 1) = false by rw [beq_eq_false_iff_ne]; exact h1, oif_f]
      by_cases h40 : ((i : Nat) : Int) > 40
      · rw [decide_eq_true h40, oif_t]
        exact h2 _ _ fun _ => by omega
      · rw [decide_eq_false h40, oif_f, wr1 (by omega)]
        exact hag (k - 1) _ (by omega) ⟨i + 1, e, by omega, rfl, by omega, e4, rfl, fun j hj1 hj2 => e6 j (by omega) hj2, e7⟩
  · obtain ⟨x, hx⟩ : ∃ x, l[0]? = some x := ⟨_, List.getElem?_eq_getElem h⟩
    have hg := hF.ats
    unfold atsOk at hg
    simp only [Bool.and_eq_true] at hg
    have := goodL_fst hg.1 hx
    have h3 := (dep_in hF.ats h).1
    rw [dep_get hx] at h3 ⊢
    omega

theorem law_main {d : Nat} {x y : List Int} (hx : Bytes x) (hy : Bytes y) : g3 (d + 31) x y = some true := by
  rw [e3]
  obtain ⟨b, hb⟩ := q_big (d := d + 29) (x := x) (y := y)
  rw [hb, ob_s]
  cases b with
  | true => rfl
  | false =>
  rw [oif_f]
  refine Ok.val ?_
  rw [show d + 30 = (d + 29) + 1 from rfl, e6, show d + 29 = (d + 28) + 1 from rfl, e31]
  obtain ⟨q, h1, h2⟩ := p_anyAttrs (d := d + 23) (CurOk.new hx) (by omega)
  rw [show d + 28 = d + 23 + 5 from rfl, h1, ob_s, ob_s, ob_s]
  obtain ⟨l, c⟩ := q
  have hl := h2.1
  simp only at hl ⊢
  rw [show d + 23 + 5 + 1 + 1 = d + 30 from rfl]
  have harr : ∀ X : Bool → Bool → Option Bool, obind (g9 (d + 30) l) (fun r7 => obind (g10 (d + 30) l) fun r8 => X r7 r8) = X (atsOk l) (atsOk l) := by
    intro X
    rw [show d + 30 = (d + 29) + 1 from rfl, q_AreAttrs, ob_s, e10, show d + 29 = (d + 27) + 2 from rfl, q_tvGood (by omega), ob_s, ob_s]
  cases ha : atsOk l with
  | false =>
    rw [show d + 30 = (d + 25) + 5 from rfl, q_EncodeNo ha, ob_s, show d + 25 + 5 = (d + 27) + 3 from rfl, q_sEncodeNo (by omega) ha, ob_s]
    simp only [beq_self_eq_true, Bool.not_true, oif_f]
    rw [show d + 27 + 3 = d + 30 from rfl, harr]
    simp only [beq_self_eq_true, Bool.not_true]
    unfold j3_5
    rw [oif_f, oif_f]
    exact law_1 hy
  | true =>
    obtain ⟨F, hF⟩ := Val.of ha
    rw [show d + 30 = (d + 19) + 11 from rfl, q_EncodeAttrs hF, ob_s, show d + 19 + 11 = (d + 9) + 21 from rfl, q_sEncodeAttrs hF, ob_s]
    simp only [beq_self_eq_true, Bool.not_true, oif_f]
    rw [show d + 9 + 21 = d + 30 from rfl, harr]
    simp only [beq_self_eq_true, Bool.not_true]
    unfold j3_5
    rw [oif_f]
    unfold eaV
    by_cases h6 : szS l ≤ 6000
    · rw [if_pos h6, oif_t]
      simp only []
      have hel := enc_len F 1
      rw [show d + 30 = (d + 19) + 11 from rfl, q_DecodeAttrs, ob_s, back hF h6]
      simp only [Bool.not_true, oif_f, beq_self_eq_true, Bool.and_self]
      rw [show d + 19 + 11 = (d + 29) + 1 from rfl, q_pSameAttrs (by omega), ob_s, Bool.not_true, oif_f, toB_size, show (((encF F).length : Nat) : Int).tmod 4 = (((encF F).length % 4 : Nat) : Int) from rfl, enc_mod]
      exact law_4 hy hF h6
    · rw [if_neg h6, oif_f]
      exact law_1 hy

theorem lawOk : LawOk Try.prog pvAnn (31) 3 :=
  ⟨rfl, rfl, rfl, fun x y hx hy _ _ => ⟨(x, y), true, law_main (d := 0) hx hy, rfl, rfl⟩⟩

end Go.Proofs.Ytpjlbjkeekobnaa
