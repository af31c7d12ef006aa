/-
  The simp kit for the abstract interpreter's residual forms: lazy evaluation of reads and writes on heaps of the form H ++ locals.
  Conditions: none.
-/
import Derived.Test.YtpjlbjkeekobnaaDoorSound
import Derived.Attr
import Derived.IntWalk
set_option linter.unusedSimpArgs false
set_option linter.all false
namespace Go.Ek
open Go.Ev

@[congr] theorem obind_congr {α β : Type} {x y : Option α} {f : α → Option β} (h : x = y) : obind x f = obind y f := by rw [h]
@[congr] theorem oif_congr {β : Type} {b c : Bool} {x y : Option β} (h : b = c) : oif b x y = oif c x y := by rw [h]
@[congr] theorem vInt_congr {β : Type} {k : IntKind} {v u : Value} {K : Int → Option β} (h : v = u) : vInt k v K = vInt k u K := by rw [h]
@[congr] theorem vBool_congr {β : Type} {v u : Value} {K : Bool → Option β} (h : v = u) : vBool v K = vBool u K := by rw [h]
@[congr] theorem vStr_congr {β : Type} {v u : Value} {K : ByteArray → Option β} (h : v = u) : vStr v K = vStr u K := by rw [h]
@[congr] theorem vSl_congr {β : Type} {v u : Value} {K : Option Addr → Nat → Nat → Option β} (h : v = u) : vSl v K = vSl u K := by rw [h]
@[congr] theorem vPtr_congr {β : Type} {v u : Value} {K : Option Addr → Option β} (h : v = u) : vPtr v K = vPtr u K := by rw [h]
@[congr] theorem vAgg_congr {β : Type} {v u : Value} {K : List Value → Option β} (h : v = u) : vAgg v K = vAgg u K := by rw [h]
@[congr] theorem vTup_congr {β : Type} {v u : Value} {K : List Value → Option β} (h : v = u) : vTup v K = vTup u K := by rw [h]
@[congr] theorem vCons_congr {β : Type} {v u : List Value} {K : Value → List Value → Option β} (h : v = u) : vCons v K = vCons u K := by rw [h]
@[congr] theorem vFn_congr {β : Type} {v u : Value} {K : FuncId → Array Value → Array Value → Option β} (h : v = u) : vFn v K = vFn u K := by rw [h]
@[congr] theorem ptrS_congr {β : Type} {v u : Value} {K : Addr → Option β} (h : v = u) : ptrS v K = ptrS u K := by rw [h]
@[congr] theorem slS_congr {β : Type} {v u : Value} {K : Addr → Nat → Nat → Option β} (h : v = u) : slS v K = slS u K := by rw [h]
@[congr] theorem asNat_congr {β : Type} {v u : Value} {K : Nat → Option β} (h : v = u) : asNat v K = asNat u K := by rw [h]

@[go_sem] theorem obind_sm {α β : Type} (a : α) (f : α → Option β) : obind (some a) f = f a := (rfl)
attribute [go_sem] Go.Ev.obind_none
@[go_sem] theorem oif_true {β : Type} (x y : Option β) : oif true x y = x := (rfl)
@[go_sem] theorem oif_false {β : Type} (x y : Option β) : oif false x y = y := (rfl)
@[go_sem] theorem vInt_int {β : Type} (k : IntKind) (n : Int) (K : Int → Option β) : vInt k (.int k n) K = K n := by simp [vInt]
@[go_sem] theorem vBool_bool {β : Type} (b : Bool) (K : Bool → Option β) : vBool (.bool b) K = K b := (rfl)
@[go_sem] theorem vStr_str {β : Type} (b : ByteArray) (K : ByteArray → Option β) : vStr (.string b) K = K b := (rfl)
@[go_sem] theorem vSl_sl {β : Type} (a : Option Addr) (n c : Nat) (K : Option Addr → Nat → Nat → Option β) : vSl (.slice a n c) K = K a n c := (rfl)
@[go_sem] theorem vPtr_ptr {β : Type} (a : Option Addr) (K : Option Addr → Option β) : vPtr (.pointer a) K = K a := (rfl)
@[go_sem] theorem vFn_fn {β : Type} (f : FuncId) (a b : Array Value) (K : FuncId → Array Value → Array Value → Option β) : vFn (.func (.func f) a b) K = K f a b := (rfl)
@[go_sem] theorem ptrS_ptr {β : Type} (p : Addr) (K : Addr → Option β) : ptrS (.pointer (some p)) K = K p := (rfl)
@[go_sem] theorem slS_sl {β : Type} (p : Addr) (n c : Nat) (K : Addr → Nat → Nat → Option β) : slS (.slice (some p) n c) K = K p n c := (rfl)
@[go_sem] theorem asNat_int {β : Type} (n : Int) (K : Nat → Option β) : asNat (.int .i64 n) K = oif (decide (0 ≤ n)) (K n.toNat) none := (rfl)
@[go_sem] theorem asNat_nat {β : Type} (n : Nat) (K : Nat → Option β) : asNat (.int .i64 (n : Int)) K = K n := by simp [asNat, oif]

@[go_sem] theorem Nat_ble (a b : Nat) : Nat.ble a b = decide (a ≤ b) := by rw [Bool.eq_iff_iff]; simp
@[go_sem] theorem Nat_blt (a b : Nat) : Nat.blt a b = decide (a < b) := by rw [Bool.eq_iff_iff]; simp [Nat.blt]; omega
@[go_sem] theorem Nat_beq (a b : Nat) : Nat.beq a b = decide (a = b) := by rw [Bool.eq_iff_iff]; simp

@[go_sem] theorem hpush_eq (H : Heap) (c : List Value) : hpush H c = H ++ [some ⟨c, false⟩] := (rfl)
@[go_sem] theorem hget_add (H L : Heap) (k : Nat) : hget (H ++ L) (H.length + k) = hget L k := by
  unfold hget; rw [List.getElem?_append_right (Nat.le_add_right _ _), Nat.add_sub_cancel_left]
@[go_sem] theorem hget_len (H L : Heap) : hget (H ++ L) H.length = hget L 0 := hget_add H L 0
@[go_sem] theorem hget_sadd (H L : Heap) (b k : Nat) (x : Option Blk) : hget (H.set b x ++ L) (H.length + k) = hget L k := by
  have := hget_add (H.set b x) L k; simpa using this
@[go_sem] theorem hget_slen (H L : Heap) (b : Nat) (x : Option Blk) : hget (H.set b x ++ L) H.length = hget L 0 := by
  have := hget_len (H.set b x) L; simpa using this
theorem hget_left {H L : Heap} {b : Nat} (h : b < H.length) : hget (H ++ L) b = hget H b := by
  unfold hget; rw [List.getElem?_append_left h]
theorem hget_some_lt {H : Heap} {b : Nat} {k : Blk} (h : hget H b = some k) : b < H.length := by
  unfold hget at h
  rcases Nat.lt_or_ge b H.length with h1 | h1
  · exact h1
  · rw [List.getElem?_eq_none h1] at h; simp at h
theorem hget_app {H L : Heap} {b : Nat} {k : Blk} (h : hget H b = some k) : hget (H ++ L) b = some k := by rw [hget_left (hget_some_lt h), h]
theorem hget_set_self {H : Heap} {b : Nat} {x : Option Blk} (h : b < H.length) : hget (H.set b x) b = x := by
  cases x <;> simp [hget, h]
theorem set_self {H : Heap} {b : Nat} {k : Blk} (h : hget H b = some k) : H.set b (some k) = H := by
  apply List.ext_getElem? ; intro i
  by_cases hi : b = i
  · subst hi
    unfold hget at h
    rcases e : H[b]? with _ | _ | x
    · rw [e] at h; simp at h
    · rw [e] at h; simp at h
    · rw [e] at h; simp at h; subst h
      rw [List.getElem?_set_self (by have := List.getElem?_eq_some_iff.1 e; exact this.1)]
  · rw [List.getElem?_set_ne hi]
@[go_sem] theorem hget_c0 (k : Option Blk) (L : Heap) : hget (k :: L) 0 = k := by cases k <;> rfl
@[go_sem] theorem hget_cs (k : Option Blk) (L : Heap) (n : Nat) : hget (k :: L) (n + 1) = hget L n := by simp [hget]
@[go_sem] theorem set_add (H L : Heap) (k : Nat) (x : Option Blk) : (H ++ L).set (H.length + k) x = H ++ L.set k x := by simp [List.set_append]
@[go_sem] theorem set_len (H L : Heap) (x : Option Blk) : (H ++ L).set H.length x = H ++ L.set 0 x := by simp [List.set_append]
@[go_sem] theorem set_sadd (H L : Heap) (b k : Nat) (x y : Option Blk) : (H.set b y ++ L).set (H.length + k) x = H.set b y ++ L.set k x := by simp [List.set_append]
@[go_sem] theorem set_slen (H L : Heap) (b : Nat) (x y : Option Blk) : (H.set b y ++ L).set H.length x = H.set b y ++ L.set 0 x := by simp [List.set_append]
theorem set_lt {H L : Heap} {b : Nat} (x : Option Blk) (h : b < H.length) : (H ++ L).set b x = H.set b x ++ L := by simp [List.set_append, h]
theorem set_slt {H L : Heap} {b : Nat} (x y : Option Blk) (h : b < H.length) : (H.set b y ++ L).set b x = H.set b x ++ L := by simp [List.set_append, h]
@[go_sem] theorem set_set' (H : Heap) (b : Nat) (x y : Option Blk) : (H.set b x).set b y = H.set b y := by simp

@[go_sem] theorem take_app (H L : Heap) : (H ++ L).take H.length = H := by simp
theorem take_over (H L : Heap) (x : Option Blk) : (H ++ x :: L).take (H.length + (L.length + 1)) = H ++ x :: L := by
  have := List.take_length (l := H ++ x :: L); simpa using this
@[go_sem] theorem take_sapp (H L : Heap) (b : Nat) (x : Option Blk) : (H.set b x ++ L).take H.length = H.set b x := by
  have := take_app (H.set b x) L; simpa using this
@[go_sem] theorem take_s (H : Heap) (b : Nat) (x : Option Blk) : (H.set b x).take H.length = H.set b x := by
  have := List.take_length (l := H.set b x); simpa using this

@[go_sem] theorem hload_eq (H : Heap) (a : Addr) : hload H a = obind (hget H a.block) fun k => k.cells[a.off]? := (rfl)
@[go_sem] theorem hloadN_eq (H : Heap) (a : Addr) (n : Nat) : hloadN H a n = obind (hget H a.block) fun k => oif (decide (a.off + n ≤ k.cells.length)) (some ((k.cells.drop a.off).take n)) none := by
  unfold hloadN; congr 1; funext k; rw [Nat_ble]; cases decide (a.off + n ≤ k.cells.length) <;> rfl
@[go_sem] theorem hstoreN_eq (H : Heap) (lim : Nat) (a : Addr) (vs : List Value) : hstoreN H lim a vs = obind (hget H a.block) fun k =>
    oif (!k.ro && vs.all isCell && (vs.all leafOk || decide (lim ≤ a.block)) && decide (a.off + vs.length ≤ k.cells.length))
      (some (H.set a.block (some { k with cells := spliceAt k.cells a.off vs }))) none := by
  unfold hstoreN; congr 1; funext k; rw [Nat_ble, Nat_ble]
  cases k.ro <;> cases vs.all isCell <;> cases (vs.all leafOk || decide (lim ≤ a.block)) <;> cases decide (a.off + vs.length ≤ k.cells.length) <;> rfl

@[go_sem] theorem leafOk_int (k : IntKind) (n : Int) : leafOk (.int k n) = true := (rfl)
@[go_sem] theorem leafOk_bool (b : Bool) : leafOk (.bool b) = true := (rfl)
@[go_sem] theorem leafOk_str (b : ByteArray) : leafOk (.string b) = true := (rfl)
@[go_sem] theorem leafOk_slN : leafOk (.slice none 0 0) = true := (rfl)
@[go_sem] theorem leafOk_slS (a : Addr) (n c : Nat) : leafOk (.slice (some a) n c) = false := (rfl)
@[go_sem] theorem leafOk_ptS (a : Addr) : leafOk (.pointer (some a)) = false := (rfl)
@[go_sem] theorem isCell_int (k : IntKind) (n : Int) : isCell (.int k n) = true := (rfl)
@[go_sem] theorem isCell_bool (b : Bool) : isCell (.bool b) = true := (rfl)
@[go_sem] theorem isCell_str (b : ByteArray) : isCell (.string b) = true := (rfl)
@[go_sem] theorem isCell_sl (a : Option Addr) (n c : Nat) : isCell (.slice a n c) = true := (rfl)
@[go_sem] theorem isCell_pt (a : Option Addr) : isCell (.pointer a) = true := (rfl)

/-- The result of a function that drops its locals. -/
def fin (base : Nat) (vs : List Value) (H : Heap) : Option (Value × Heap) := obind (finish .drop base vs H) fun r => some (oneOf r.1, r.2)
def finK (base : Nat) (vs : List Value) (H : Heap) : Option (Value × Heap) := obind (finish .keep base vs H) fun r => some (oneOf r.1, r.2)

/-- A value without an address. -/
def plainV : Value → Bool
  | .agg cs => cs.toList.all leafOk
  | v => leafOk v

theorem mvLeaves_plain (base : Nat) (H : Heap) (olds : List Nat) : ∀ l : List Value, l.all leafOk = true → mvLeaves base H olds l = some (l, olds)
  | [], _ => rfl
  | v :: r, h => by
    simp only [List.all_cons, Bool.and_eq_true] at h
    have hv : mvLeaf base H olds v = some (v, olds) := by
      have h1 := h.1
      unfold mvLeaf
      split
      · simp [leafOk] at h1
      · simp [leafOk] at h1
      · simp [h1]
    simp [mvLeaves, hv, obind, mvLeaves_plain base H olds r h.2]

theorem mvAgg_plain (base : Nat) (H : Heap) (olds : List Nat) (v : Value) (h : plainV v = true) : mvAgg base H olds v = some (v, olds) := by
  unfold mvAgg
  split
  · rename_i cs
    simp only [plainV] at h
    rw [mvLeaves_plain _ _ _ _ h]; simp [obind]
  · rename_i hn
    have h1 : leafOk v = true := by unfold plainV at h; split at h <;> first | exact h | exact absurd rfl (hn _)
    unfold mvLeaf
    split
    · simp [leafOk] at h1
    · simp [leafOk] at h1
    · simp [h1]

theorem mvAggs_plain (base : Nat) (H : Heap) (olds : List Nat) : ∀ l : List Value, l.all plainV = true → mvAggs base H olds l = some (l, olds)
  | [], _ => rfl
  | v :: r, h => by
    simp only [List.all_cons, Bool.and_eq_true] at h
    simp [mvAggs, mvAgg_plain base H olds v h.1, obind, mvAggs_plain base H olds r h.2]

@[go_sem] theorem fin_plain (base : Nat) (vs : List Value) (H : Heap) (h : vs.all plainV = true) : fin base vs H = some (oneOf vs, H.take base) := by
  unfold fin finish; simp [mvAggs_plain base H [] vs h, obind]
@[go_sem] theorem plainV_int (k : IntKind) (n : Int) : plainV (.int k n) = true := (rfl)
@[go_sem] theorem plainV_bool (b : Bool) : plainV (.bool b) = true := (rfl)
@[go_sem] theorem plainV_str (b : ByteArray) : plainV (.string b) = true := (rfl)
@[go_sem] theorem plainV_slN : plainV (.slice none 0 0) = true := (rfl)
@[go_sem] theorem plainV_agg (cs : Array Value) : plainV (.agg cs) = cs.toList.all leafOk := (rfl)
@[go_sem] theorem oneOf_one (v : Value) : oneOf [v] = v := (rfl)
@[go_sem] theorem oneOf_two (u v : Value) (l : List Value) : oneOf (u :: v :: l) = .tuple (u :: v :: l).toArray := (rfl)
@[go_sem] theorem take_len (H : Heap) : H.take H.length = H := List.take_length

attribute [go_sem] List.length_append List.length_set List.length_cons List.length_nil List.append_assoc List.cons_append List.nil_append List.append_nil List.set_cons_zero List.set_cons_succ List.all_cons List.all_nil List.take_succ_cons List.take_zero List.drop_succ_cons List.drop_zero List.take_nil List.drop_nil List.getElem?_cons_zero List.getElem?_cons_succ spliceAt Nat.reduceAdd Nat.reduceLeDiff Nat.reduceLT Nat.reduceMul Nat.add_zero Nat.zero_add Bool.and_true Bool.true_and Bool.not_false Bool.not_true Bool.true_or Bool.false_or Bool.or_true Bool.or_false Bool.and_false Bool.false_and decide_true decide_false Nat.add_assoc Nat.zero_mul Nat.one_mul Nat.mul_one
/-- What a run gives. -/
def W (e : Option (Value × Heap)) (Q : Value → Heap → Prop) : Prop := ∃ v H, e = some (v, H) ∧ Q v H

theorem W_some {v : Value} {H : Heap} {Q : Value → Heap → Prop} (h : Q v H) : W (some (v, H)) Q := ⟨v, H, rfl, h⟩
theorem W_bind {e : Option (Value × Heap)} {P Q : Value → Heap → Prop} {K : Value × Heap → Option (Value × Heap)} (h : W e P) (k : ∀ v H, P v H → W (K (v, H)) Q) : W (obind e K) Q := by
  obtain ⟨v, H, rfl, hp⟩ := h; exact k v H hp
theorem W_oif {b : Bool} {x y : Option (Value × Heap)} {Q : Value → Heap → Prop} (h1 : b = true → W x Q) (h2 : b = false → W y Q) : W (oif b x y) Q := by
  cases b with
  | true => exact h1 rfl
  | false => exact h2 rfl
theorem W_mono {e : Option (Value × Heap)} {P Q : Value → Heap → Prop} (h : W e P) (k : ∀ v H, P v H → Q v H) : W e Q := by
  obtain ⟨v, H, e, hp⟩ := h; exact ⟨v, H, e, k v H hp⟩
theorem W_val {e : Option (Value × Heap)} {v : Value} {G : Heap} (h : W e fun u H => u = v ∧ H = G) : e = some (v, G) := by
  obtain ⟨_, _, rfl, rfl, rfl⟩ := h; rfl
theorem oif_eq {β : Type} {b : Bool} {x y r : Option β} (h1 : b = true → x = r) (h2 : b = false → y = r) : oif b x y = r := by
  cases b with
  | true => exact h1 rfl
  | false => exact h2 rfl

theorem oif_ff {c x : Bool} {H : Heap} : oif c (some (Value.bool x, H)) (some (Value.bool false, H)) = some (Value.bool (c && x), H) := by cases c <;> rfl
theorem oif_bb {c x y : Bool} {H : Heap} : oif c (some (Value.bool x, H)) (some (Value.bool y, H)) = some (Value.bool (bif c then x else y), H) := by cases c <;> rfl
theorem some_bool {x y : Bool} {H : Heap} (h : (x = true) ↔ (y = true)) : some (Value.bool x, H) = some (Value.bool y, H) := by
  rw [Bool.eq_iff_iff.2 h]

/-- The bytes behind a cursor: the block that holds them, if any, may only be read. -/
def CodeAt (g : Option (Nat × Blk)) (G : Heap) : Prop := ∀ c B, g = some (c, B) → B.ro = true ∧ hget G c = some B

/-- A cursor's block, after at most m steps. -/
def CurB (g : Option (Nat × Blk)) (m : Nat) (k : Blk) : Prop := ∃ a l e, ∃ t s : Int, k = ⟨[.slice a l e, .int .i64 t, .int .u64 s], false⟩ ∧ 0 ≤ t ∧ t ≤ m ∧
  (l = 0 ∨ ∃ p B, a = some p ∧ g = some (p.block, B) ∧ ∀ i, i < l → ∃ x : Int, B.cells[p.off + i]? = some (.int .u8 x) ∧ 0 ≤ x ∧ x < 256)

def Cu (g : Option (Nat × Blk)) (m : Nat) (G : Heap) (b : Nat) : Prop := ∃ k, hget G b = some k ∧ CodeAt g G ∧ CurB g m k

theorem CurB.mono {g : Option (Nat × Blk)} {m n : Nat} {k : Blk} (h : CurB g m k) (hn : m ≤ n) : CurB g n k := by
  obtain ⟨a, l, e, t, s, h1, h2, h3, h4⟩ := h; exact ⟨a, l, e, t, s, h1, h2, by omega, h4⟩
theorem Cu.mono {g : Option (Nat × Blk)} {m n : Nat} {G : Heap} {b : Nat} (h : Cu g m G b) (hn : m ≤ n) : Cu g n G b := by
  obtain ⟨k, h1, h2, h3⟩ := h; exact ⟨k, h1, h2, h3.mono hn⟩
theorem Cu.lt {g : Option (Nat × Blk)} {m : Nat} {G : Heap} {b : Nat} (h : Cu g m G b) : b < G.length := by
  obtain ⟨k, h1, _, _⟩ := h; exact hget_some_lt h1
theorem CodeAt.app {g : Option (Nat × Blk)} {G : Heap} (h : CodeAt g G) (L : Heap) : CodeAt g (G ++ L) :=
  fun c B e => ⟨(h c B e).1, hget_app (h c B e).2⟩
theorem CodeAt.set {g : Option (Nat × Blk)} {G : Heap} (h : CodeAt g G) {b : Nat} {k : Blk} (hk : hget G b = some k) (hr : k.ro = false) (x : Option Blk) : CodeAt g (G.set b x) := by
  intro c B e
  obtain ⟨h1, h2⟩ := h c B e
  refine ⟨h1, ?_⟩
  have hbc : b ≠ c := by rintro rfl; rw [hk] at h2; injection h2 with h2; subst h2; rw [h1] at hr; exact absurd hr (by decide)
  rw [hget_set_ne hbc]; exact h2
theorem CurB.ro {g : Option (Nat × Blk)} {m : Nat} {k : Blk} (h : CurB g m k) : k.ro = false := by
  obtain ⟨a, l, e, t, s, h1, _⟩ := h; subst h1; rfl
theorem Cu.app {g : Option (Nat × Blk)} {m : Nat} {G : Heap} {b : Nat} (h : Cu g m G b) (L : Heap) : Cu g m (G ++ L) b := by
  obtain ⟨k, h1, h2, h3⟩ := h; exact ⟨k, hget_app h1, h2.app L, h3⟩
theorem Cu.set {g : Option (Nat × Blk)} {m n : Nat} {G : Heap} {b : Nat} {k : Blk} (h : Cu g m G b) (hk : CurB g n k) : Cu g n (G.set b (some k)) b := by
  obtain ⟨k0, h1, h2, h3⟩ := h
  exact ⟨k, by rw [hget_set_self (hget_some_lt h1)], h2.set h1 h3.ro _, hk⟩
theorem Cu.step {g : Option (Nat × Blk)} {m n : Nat} {G : Heap} {b : Nat} {k : Blk} (h : Cu g m G b) (hk : CurB g n k) (L : Heap) : Cu g n (G.set b (some k) ++ L) b := (h.set hk).app L
theorem Cu.new {g : Option (Nat × Blk)} {n : Nat} {G : Heap} {k : Blk} (h : CodeAt g G) (hk : CurB g n k) (L : Heap) : Cu g n (G ++ some k :: L) G.length := by
  refine ⟨k, ?_, h.app _, hk⟩
  rw [hget_len]; rfl

@[go_sem] theorem sameRd_int (k : IntKind) (a : Int) : sameRd (some (.int k a)) (some (.int k a)) = true := by simp [sameRd, sameLeaf]
@[go_sem] theorem sameRd_bool (a : Bool) : sameRd (some (.bool a)) (some (.bool a)) = true := by simp [sameRd, sameLeaf]
@[go_sem] theorem sameRd_sl (a : Option Addr) (n c : Nat) : sameRd (some (.slice a n c)) (some (.slice a n c)) = true := by simp [sameRd, sameLeaf]
theorem sameLeaf_plain (v : Value) (h : leafOk v = true) : sameLeaf v v = true := by
  unfold leafOk at h
  split at h <;> simp_all [sameLeaf]
theorem sameLs_plain : ∀ l : List Value, l.all leafOk = true → sameLs l l = true
  | [], _ => rfl
  | v :: r, h => by
    simp only [List.all_cons, Bool.and_eq_true] at h
    simp [sameLs, sameLeaf_plain v h.1, sameLs_plain r h.2]
@[go_sem] theorem sameRd_agg (l : List Value) (h : l.all leafOk = true) : sameRd (some (.agg l.toArray)) (some (.agg l.toArray)) = true := by
  simp [sameRd, sameLs_plain l h]
attribute [go_sem] Int.reduceBEq Int.reduceBNe Int.reduceLT Int.reduceLE Int.reduceGT Int.reduceGE

def CodeV (g : Option (Nat × Blk)) (a : Option Addr) (l : Nat) : Prop :=
  l = 0 ∨ ∃ p B, a = some p ∧ g = some (p.block, B) ∧ ∀ i, i < l → ∃ x : Int, B.cells[p.off + i]? = some (.int .u8 x) ∧ 0 ≤ x ∧ x < 256
theorem CurB.new {g : Option (Nat × Blk)} {a : Option Addr} {l : Nat} (h : CodeV g a l) (e : Nat) : CurB g 0 ⟨[.slice a l e, .int .i64 0, .int .u64 0], false⟩ :=
  ⟨a, l, e, 0, 0, rfl, by omega, by omega, h⟩
theorem Cu.loc {g : Option (Nat × Blk)} {n i : Nat} {G L : Heap} {k : Blk} (h : CodeAt g G) (hk : CurB g n k) (hl : hget L i = some k) : Cu g n (G ++ L) (G.length + i) :=
  ⟨k, by rw [hget_add]; exact hl, h.app _, hk⟩
theorem Cu.loc0 {g : Option (Nat × Blk)} {n : Nat} {G L : Heap} {k : Blk} (h : CodeAt g G) (hk : CurB g n k) (hl : hget L 0 = some k) : Cu g n (G ++ L) G.length := Cu.loc h hk hl

end Go.Ek
