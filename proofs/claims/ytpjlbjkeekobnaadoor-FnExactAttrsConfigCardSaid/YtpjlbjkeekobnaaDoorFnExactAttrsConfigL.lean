/-
  The law FnExactAttrsConfig by value: configurations read from attributes, in both packages.
  Conditions: lengths fit an int.
-/
import Derived.Test.YtpjlbjkeekobnaaDoorFnExactAttrsConfigK
import Derived.Test.YtpjlbjkeekobnaaDoorVAny
set_option linter.all false
namespace Go.Proofs.YtpjlbjkeekobnaaDoor
open Go.Ev Go.Pv

abbrev Cl8 := Int × Int × Int × Int × Int × Int × Int × Int
abbrev Fl5 := Int × Int × Int × Int × Int
abbrev Cf := ByteArray × List Cl8 × List Fl5 × Int

def zC : Cf := (⟨#[]⟩, [], [], 0)

theorem wrA {a b : Nat} (h : a + b ≤ 4000000000000000) : IntKind.i64.wrap ((a : Int) + (b : Int)) = ((a + b : Nat) : Int) := by
  rw [wr (by omega) (by omega)]; omega

def nmB (s : ByteArray) : Bool := decide (1 ≤ s.size ∧ s.size ≤ 8) && ((bl s).all sm && !kyB s)

theorem q_isName {d : Nat} {s : ByteArray} : g67 (d + 2) s = some (nmB s) := by
  rw [e67]
  unfold nmB j67_1
  by_cases h0 : ((s.size : Nat) : Int) < 1
  · rw [decide_eq_true h0, oif_t, oif_t, decide_eq_false (by omega)]; rfl
  rw [decide_eq_false h0, oif_f]
  by_cases h2 : ((s.size : Nat) : Int) > 8
  · rw [decide_eq_true h2, oif_t, decide_eq_false (by omega)]; rfl
  rw [decide_eq_false h2, oif_f, decide_eq_true (show 1 ≤ s.size ∧ s.size ≤ 8 by omega), Bool.true_and]
  have hs : (bl s).length < 4194304 := by rw [← bl_len]; omega
  refine (range_eq (fun (t : Bool) (i : Int) => (t, i)) (bl s) (fun x _ t k => oif (sm x) (k t) (some false)) (j67_0 (d + 1) s) ?_ ?_ (by rw [fuelN_eq]; exact hs) false).trans ?_
  · intro ag t i x hx
    have hi := (List.getElem?_eq_some_iff.1 hx).1
    have hx2 : s.data.toList[i]? = some x := hx
    have hsz : s.size = (bl s).length := rfl
    simp only [l67_0, l67_0_b]
    rw [decide_eq_true (show (i : Int) < ((s.size : Nat) : Int) by omega), oif_t, nn, oif_t, ofNat_toNat, hx2, ob_s, q_isSmall, ob_s, wr1 (by omega)]
    cases sm x <;> rfl
  · intro ag t
    simp only [l67_0, l67_0_b]
    rw [show ((s.size : Nat) : Int) = (((bl s).length : Nat) : Int) from rfl, ltn, oif_f]
  · rw [rangeR_all]
    cases (bl s).all sm with
    | false => rfl
    | true =>
      rw [oif_t, Bool.true_and]
      unfold j67_0
      rw [q_IsKey, ob_s]

theorem q_cfName {d : Nat} {s : ByteArray} (hs : s.size < 4000000) : g79 (d + 3) s = some (nmB s) := by
  rw [e79]
  unfold nmB
  have hsz : s.size = (bl s).length := rfl
  refine (range_eq (fun (t : Bool) (i : Int) => (t, i)) (bl s) (fun x _ t k => oif (sm x) (k t) (some false)) (j79_0 (d + 2) s) ?_ ?_ (by rw [fuelN_eq]; omega) false).trans ?_
  · intro ag t i x hx
    have hi := (List.getElem?_eq_some_iff.1 hx).1
    have hx2 : s.data.toList[i]? = some x := hx
    simp only [l79_0, l79_0_b]
    rw [decide_eq_true (show (i : Int) < ((s.size : Nat) : Int) by omega), oif_t, nn, oif_t, ofNat_toNat, hx2, ob_s, oif_t, ob_s, wr1 (by omega)]
    unfold sm
    by_cases h1 : (x.toNat : Int) < 97
    · rw [decide_eq_true h1, oif_t, decide_eq_false (by omega)]; rfl
    · rw [decide_eq_false h1, oif_f]
      by_cases h2 : (x.toNat : Int) > 122
      · rw [decide_eq_true h2, oif_t, decide_eq_false (by omega)]; rfl
      · rw [decide_eq_false h2, oif_f, decide_eq_true (by omega)]; rfl
  · intro ag t
    simp only [l79_0, l79_0_b]
    rw [show ((s.size : Nat) : Int) = (((bl s).length : Nat) : Int) from rfl, ltn, oif_f]
  · rw [rangeR_all]
    cases (bl s).all sm with
    | false => rw [oif_f, Bool.false_and, Bool.and_false]
    | true =>
      rw [oif_t, Bool.true_and]
      unfold j79_0
      rw [q_l1In, ob_s]
      by_cases h : 1 ≤ s.size ∧ s.size ≤ 8
      · rw [decide_eq_true (show (1 : Int) ≤ ((s.size : Nat) : Int) ∧ ((s.size : Nat) : Int) ≤ 8 by omega), oif_t, q_sIsKey, ob_s, decide_eq_true h, Bool.true_and]
      · rw [decide_eq_false (show ¬ ((1 : Int) ≤ ((s.size : Nat) : Int) ∧ ((s.size : Nat) : Int) ≤ 8) by omega), oif_f, decide_eq_false h]; rfl

/-- What attributes say, by value. -/
def okA (x : At) (dp t : Int) (b : Bool) : Prop := x.1 = dp ∧ x.2.1 = t ∧ x.2.2.1 = b

instance {x : At} {dp t : Int} {b : Bool} : Decidable (okA x dp t b) := by unfold okA; exact inferInstance

def wtA (l : List At) (dp t : Int) (b : Bool) (a : Nat) : Option ByteArray := match l[a]? with
  | none => none
  | some x => if okA x dp t b then some x.2.2.2 else none

def rdO (s : ByteArray) : Option Int := if vOk (rd4 (bl s)) = true then some (rd4 (bl s)) else none

def nbA (l : List At) (dp t : Int) (a : Nat) : Option Int := (wtA l dp t false a).bind rdO

def numsV (l : List At) : Nat → Nat → Nat → Option (List Int)
  | 0, _, _ => some []
  | k + 1, a, i => (nbA l 3 ((i + 1 : Nat) : Int) a).bind fun n => (numsV l k (a + 1) (i + 1)).bind fun ns => some (n :: ns)

def mkC (n : List Int) : Cl8 := (n.getD 0 0, n.getD 1 0, n.getD 2 0, n.getD 3 0, n.getD 4 0, n.getD 5 0, n.getD 6 0, n.getD 7 0)

def mkF (n : List Int) : Fl5 := (n.getD 0 0, n.getD 1 0, n.getD 2 0, n.getD 3 0, n.getD 4 0)

def clV (l : List At) : Nat → Nat → List Cl8 → Option (List Cl8 × Nat)
  | 0, a, acc => some (acc, a)
  | f + 1, a, acc => match wtA l 2 4 true a with
    | none => some (acc, a)
    | some _ => if acc.length = 24 then none else (numsV l 8 (a + 1) 0).bind fun ns => clV l f (a + 9) (acc ++ [mkC ns])

def ftV (l : List At) : Nat → Nat → List Fl5 → Option (List Fl5 × Nat)
  | 0, a, acc => some (acc, a)
  | f + 1, a, acc => match wtA l 2 5 true a with
    | none => some (acc, a)
    | some _ => if acc.length = 16 then none else (numsV l 5 (a + 1) 0).bind fun ns => ftV l f (a + 6) (acc ++ [mkF ns])

def cfV (l : List At) : Option Cf :=
  (wtA l 1 1 true 0).bind fun _ => (wtA l 2 2 false 1).bind fun nm => if nmB nm = true then (nbA l 2 3 2).bind fun n => (clV l (l.length + 1) 3 []).bind fun p => (ftV l (l.length + 1) p.2 []).bind fun q => if q.2 < l.length then none else some (nm, p.1, q.1, n) else none

theorem wtA_lt {l : List At} {dp t : Int} {b : Bool} {a : Nat} {s : ByteArray} (h : wtA l dp t b a = some s) : a < l.length := by
  unfold wtA at h
  cases hx : l[a]? with
  | none => rw [hx] at h; simp at h
  | some x => exact (List.getElem?_eq_some_iff.1 hx).1

theorem nbA_lt {l : List At} {dp t : Int} {a : Nat} {n : Int} (h : nbA l dp t a = some n) : a < l.length := by
  unfold nbA at h
  cases hw : wtA l dp t false a with
  | none => rw [hw] at h; simp at h
  | some s => exact wtA_lt hw

theorem numsV_in {l : List At} : ∀ {k a i : Nat} {ns : List Int}, numsV l k a i = some ns → ns.length = k ∧ (0 < k → a + k ≤ l.length)
  | 0, a, i, ns, h => by simp [numsV] at h; subst h; exact ⟨rfl, fun h => absurd h (by omega)⟩
  | k + 1, a, i, ns, h => by
    simp only [numsV] at h
    cases hn : nbA l 3 ((i + 1 : Nat) : Int) a with
    | none => rw [hn] at h; simp at h
    | some n =>
      rw [hn] at h
      simp only [Option.bind_some] at h
      cases hm : numsV l k (a + 1) (i + 1) with
      | none => rw [hm] at h; simp at h
      | some ms =>
        rw [hm] at h
        simp only [Option.bind_some, Option.some.injEq] at h
        subst h
        obtain ⟨h1, h2⟩ := numsV_in hm
        have := nbA_lt hn
        refine ⟨by simp [h1], fun _ => ?_⟩
        rcases Nat.eq_zero_or_pos k with h | h
        · omega
        · have := h2 h; omega

/-- This package. -/
theorem i_stop {d : Nat} {l : List At} {a k v : Int} : g68 (d + 1) (l, a, k) v = some (if k = 0 then (l, a, v) else (l, a, k)) := by
  rw [e68]
  simp only []
  by_cases h : k = 0
  · rw [show (k == 0) = true by rw [beq_iff_eq]; exact h, oif_t, if_pos h]
  · rw [show (k == 0) = false by rw [beq_eq_false_iff_ne]; exact h, oif_f, if_neg h]

theorem i_want_bad {d : Nat} {l : List At} {a k dp t : Int} {b : Bool} (h : k ≠ 0) : g66 (d + 2) (l, a, k) dp t b = some (⟨#[]⟩, (l, a, k)) := by
  rw [e66]
  simp only []
  rw [show (k != 0) = true by rw [bne_iff_ne]; exact h, oif_t]

theorem i_want {d : Nat} {l : List At} {a : Nat} {dp t : Int} {b : Bool} (ha : a ≤ l.length) (hl : l.length ≤ 400) :
    Ok (g66 (d + 2) (l, (a : Int), 0) dp t b) fun r => (∀ s, wtA l dp t b a = some s → r = (s, (l, ((a + 1 : Nat) : Int), 0))) ∧ (wtA l dp t b a = none → ∃ k, k ≠ 0 ∧ r = (⟨#[]⟩, (l, (a : Int), k))) := by
  rw [e66]
  simp only []
  rw [show ((0 : Int) != 0) = false from rfl, oif_f]
  unfold wtA
  cases hx : l[a]? with
  | none =>
    have := List.getElem?_eq_none_iff.1 hx
    rw [show ((a : Int) == ((l.length : Nat) : Int)) = true by rw [beq_iff_eq]; omega, oif_t, i_stop, ob_s, if_pos rfl]
    exact Ok.some ⟨fun s h => by simp at h, fun _ => ⟨6, by decide, rfl⟩⟩
  | some x =>
    have hlt := (List.getElem?_eq_some_iff.1 hx).1
    rw [show ((a : Int) == ((l.length : Nat) : Int)) = false by rw [beq_eq_false_iff_ne]; omega, oif_f, nn, oif_t, ofNat_toNat, hx, ob_s]
    simp only [i_stop, if_true, ob_s]
    have no : ¬ okA x dp t b → Ok (some ((⟨#[]⟩ : ByteArray), (l, (a : Int), (2 : Int)))) fun r => (∀ s, (if okA x dp t b then some x.2.2.2 else none) = some s → r = (s, (l, ((a + 1 : Nat) : Int), 0))) ∧ ((if okA x dp t b then some x.2.2.2 else none) = none → ∃ k, k ≠ 0 ∧ r = (⟨#[]⟩, (l, (a : Int), k))) := by
      intro hn
      rw [if_neg hn]
      exact Ok.some ⟨fun s h => by simp at h, fun _ => ⟨2, by decide, rfl⟩⟩
    by_cases h1 : x.1 = dp
    case neg => rw [show (x.1 != dp) = true by rw [bne_iff_ne]; exact h1, oif_t]; exact no fun h => h1 h.1
    rw [show (x.1 != dp) = false by rw [bne_eq_false_iff_eq]; exact h1, oif_f]
    by_cases h2 : x.2.1 = t
    case neg => rw [show (x.2.1 != t) = true by rw [bne_iff_ne]; exact h2, oif_t]; exact no fun h => h2 h.2.1
    rw [show (x.2.1 != t) = false by rw [bne_eq_false_iff_eq]; exact h2, oif_f]
    by_cases h3 : x.2.2.1 = b
    case neg => rw [show (!(x.2.2.1 == b)) = true by rw [Bool.not_eq_true', beq_eq_false_iff_ne]; exact h3, oif_t]; exact no fun h => h3 h.2.2
    rw [show (!(x.2.2.1 == b)) = false by rw [Bool.not_eq_false', beq_iff_eq]; exact h3, oif_f, wr1 (by omega), if_pos (show okA x dp t b from ⟨h1, h2, h3⟩)]
    exact Ok.some ⟨fun s h => by injection h with h; rw [h], fun h => by simp at h⟩

theorem i_number_bad {d : Nat} {l : List At} {a k dp t : Int} (h : k ≠ 0) : g69 (d + 3) (l, a, k) dp t = some (0, (l, a, k)) := by
  rw [e69, i_want_bad h, ob_s]
  simp only []
  rw [show (k != 0) = true by rw [bne_iff_ne]; exact h, oif_t]

theorem i_number {d : Nat} {l : List At} {a : Nat} {dp t : Int} (ha : a ≤ l.length) (hl : l.length ≤ 400) :
    Ok (g69 (d + 3) (l, (a : Int), 0) dp t) fun r => (∀ n, nbA l dp t a = some n → r = (n, (l, ((a + 1 : Nat) : Int), 0))) ∧ (nbA l dp t a = none → ∃ n k, k ≠ 0 ∧ r = (n, (l, (a : Int), k))) := by
  rw [e69]
  unfold nbA
  refine Ok.bind (i_want (d := d) (b := false) ha hl) fun r hr => ?_
  obtain ⟨r1, r2⟩ := hr
  cases hw : wtA l dp t false a with
  | none =>
    obtain ⟨k, hk, rfl⟩ := r2 hw
    simp only []
    rw [show (k != 0) = true by rw [bne_iff_ne]; exact hk, oif_t]
    exact Ok.some ⟨fun n h => by simp at h, fun _ => ⟨0, k, hk, rfl⟩⟩
  | some s =>
    have hlt := wtA_lt hw
    obtain rfl := r1 s hw
    simp only []
    rw [show ((0 : Int) != 0) = false from rfl, oif_f, q_ReadData, ob_s]
    unfold rdV
    simp only [Option.bind_some]
    unfold rdO
    cases hv : vOk (rd4 (bl s)) with
    | true =>
      simp only [if_true, Bool.not_true, oif_f]
      exact Ok.some ⟨fun n h => by injection h with h; rw [h], fun h => by simp at h⟩
    | false =>
      simp only [Bool.false_eq_true, if_false, Bool.not_false, oif_t]
      rw [i_stop, ob_s, if_pos rfl, wr (by omega) (by omega), show ((a + 1 : Nat) : Int) - 1 = (a : Int) by omega]
      exact Ok.some ⟨fun n h => by simp at h, fun _ => ⟨0, 3, by decide, rfl⟩⟩

theorem rep_set {ms : List Int} {n i : Nat} {v : Int} (h : ms.length = i) (hi : i < n) : (ms ++ List.replicate (n - i) 0).set i v = (ms ++ [v]) ++ List.replicate (n - (i + 1)) 0 := by
  subst h
  rw [show n - ms.length = (n - (ms.length + 1)) + 1 by omega, List.replicate_succ, List.set_append_right _ _ (Nat.le_refl _), Nat.sub_self, List.set_cons_zero]
  simp

theorem i_numbers {d : Nat} {l : List At} {a n : Nat} (ha : a ≤ l.length) (hl : l.length ≤ 400) (hn : n ≤ 8) :
    Ok (g72 (d + 4) (l, (a : Int), 0) (n : Int)) fun r => (∀ ns, numsV l n a 0 = some ns → r = (ns, (l, ((a + n : Nat) : Int), 0))) ∧ (numsV l n a 0 = none → ∃ ns a' k, k ≠ 0 ∧ ns.length = n ∧ r = (ns, (l, a', k))) := by
  rw [e72, nn, oif_t, oif_t, ofNat_toNat, show (Nat.ble n n && Nat.ble (n * 8) roomMax) = true by rw [Bool.and_eq_true, Nat.ble_eq, Nat.ble_eq]; unfold roomMax; omega, oif_t]
  refine iter_ok (fun j (st : Int × (List At × Int × Int) × List Int) => ∃ i : Nat, i + j = n ∧ st.1 = (i : Int) ∧ ((∃ ms, ms.length = i ∧ st.2 = ((l, ((a + i : Nat) : Int), 0), ms ++ List.replicate (n - i) 0) ∧ a + i ≤ l.length ∧ numsV l n a 0 = (numsV l (n - i) (a + i) i).bind fun ns => some (ms ++ ns)) ∨ (numsV l n a 0 = none ∧ ∃ a' k ns, k ≠ 0 ∧ ns.length = n ∧ st.2 = ((l, a', k), ns)))) ?_ _ n _ (by rw [fuelN_eq]; omega) ⟨0, by omega, rfl, Or.inl ⟨[], rfl, rfl, by omega, by simp⟩⟩
  rintro j ⟨i', st⟩ ag ⟨i, h1, h2, h3⟩ hag
  simp only at h2 h3
  subst h2
  simp only [l72_0, l72_0_b, ofNat_toNat, List.length_replicate]
  by_cases hi : i < n
  case neg =>
    rw [decide_eq_false (show ¬ (i : Int) < ((n : Nat) : Int) by omega), oif_f]
    unfold j72_0
    obtain rfl : i = n := by omega
    rcases h3 with ⟨ms, e1, e2, e3, e4⟩ | ⟨e1, a', k, ns, hk, hns, e2⟩
    · subst e2
      rw [Nat.sub_self] at e4
      simp only [numsV, Option.bind_some, List.append_nil] at e4
      refine Ok.some ⟨fun ns h => ?_, fun h => by rw [e4] at h; simp at h⟩
      rw [e4] at h
      injection h with h
      rw [← h]; simp
    · subst e2
      exact Ok.some ⟨fun ns h => by rw [e1] at h; simp at h, fun _ => ⟨ns, a', k, hk, hns, rfl⟩⟩
  rw [decide_eq_true (show (i : Int) < ((n : Nat) : Int) by omega), oif_t, wr1 (by omega)]
  rcases h3 with ⟨ms, e1, e2, e3, e4⟩ | ⟨e1, a', k, ns, hk, hns, e2⟩
  · subst e2
    simp only []
    refine Ok.bind (i_number (d := d) (dp := 3) (t := ((i + 1 : Nat) : Int)) e3 hl) fun r hr => ?_
    obtain ⟨r1, r2⟩ := hr
    have hsl : i < (ms ++ List.replicate (n - i) (0 : Int)).length := by simp; omega
    rw [nn, oif_t, blt_of hsl, oif_t, List.getElem?_eq_getElem hsl, ob_s]
    rw [show n - i = (n - (i + 1)) + 1 by omega, numsV] at e4
    cases hb : nbA l 3 ((i + 1 : Nat) : Int) (a + i) with
    | none =>
      obtain ⟨v, k, hk, rfl⟩ := r2 hb
      rw [hb] at e4
      exact hag (j - 1) _ (by omega) ⟨i + 1, by omega, rfl, Or.inr ⟨by simpa using e4, _, k, _, hk, by simp; omega, rfl⟩⟩
    | some v =>
      have hlt := nbA_lt hb
      obtain rfl := r1 v hb
      rw [hb] at e4
      refine hag (j - 1) _ (by omega) ⟨i + 1, by omega, rfl, Or.inl ⟨ms ++ [v], by simp [e1], ?_, by omega, ?_⟩⟩
      · rw [rep_set e1 hi]; rfl
      · rw [e4, show a + (i + 1) = a + i + 1 by omega]
        simp only [Option.bind_some]
        cases numsV l (n - (i + 1)) (a + i + 1) (i + 1) <;> simp
  · subst e2
    simp only []
    rw [i_number_bad hk, ob_s]
    have hsl : i < ns.length := by omega
    rw [nn, oif_t, blt_of hsl, oif_t, List.getElem?_eq_getElem hsl, ob_s]
    exact hag (j - 1) _ (by omega) ⟨i + 1, by omega, rfl, Or.inr ⟨e1, a', k, _, hk, by simp [hns], rfl⟩⟩

theorem i_begins_bad {d : Nat} {l : List At} {a k t h m : Int} (hk : k ≠ 0) : g70 (d + 2) (l, a, k) t h m = some (false, (l, a, k)) := by
  rw [e70]
  simp only []
  rw [show (k != 0) = true by rw [bne_iff_ne]; exact hk, oif_t]
  unfold j70_1
  rw [oif_t]

theorem i_begins {d : Nat} {l : List At} {a : Nat} {t : Int} {h m : Nat} (ha : a ≤ l.length) (hl : l.length ≤ 400) :
    g70 (d + 2) (l, (a : Int), 0) t (h : Int) (m : Int) = some (match wtA l 2 t true a with | none => (false, (l, (a : Int), 0)) | some _ => if h = m then (false, (l, (a : Int), 5)) else (true, (l, ((a + 1 : Nat) : Int), 0))) := by
  rw [e70]
  simp only []
  rw [show ((0 : Int) != 0) = false from rfl, oif_f]
  unfold j70_1 wtA
  cases hx : l[a]? with
  | none =>
    have := List.getElem?_eq_none_iff.1 hx
    rw [show ((a : Int) == ((l.length : Nat) : Int)) = true by rw [beq_iff_eq]; omega, oif_t]
  | some x =>
    have hlt := (List.getElem?_eq_some_iff.1 hx).1
    rw [show ((a : Int) == ((l.length : Nat) : Int)) = false by rw [beq_eq_false_iff_ne]; omega, oif_f]
    simp only []
    rw [nn, oif_t, ofNat_toNat, hx, ob_s]
    unfold j70_0
    by_cases h1 : x.1 = 2
    case neg => rw [show (x.1 != 2) = true by rw [bne_iff_ne]; exact h1, oif_t, oif_t, if_neg (fun h => h1 h.1)]
    rw [show (x.1 != 2) = false by rw [bne_eq_false_iff_eq]; exact h1, oif_f]
    by_cases h2 : x.2.1 = t
    case neg => rw [show (x.2.1 != t) = true by rw [bne_iff_ne]; exact h2, oif_t, oif_t, if_neg (fun h => h2 h.2.1)]
    rw [show (x.2.1 != t) = false by rw [bne_eq_false_iff_eq]; exact h2, oif_f]
    by_cases h3 : x.2.2.1 = true
    case neg => rw [show x.2.2.1 = false by simpa using h3, Bool.not_false, oif_t, if_neg (fun h => h3 h.2.2)]
    rw [h3, Bool.not_true, oif_f, if_pos (show okA x 2 t true from ⟨h1, h2, h3⟩)]
    by_cases h4 : h = m
    · rw [show ((h : Int) == (m : Int)) = true by rw [beq_iff_eq]; omega, oif_t, i_stop, ob_s, if_pos rfl, if_pos h4]
    · rw [show ((h : Int) == (m : Int)) = false by rw [beq_eq_false_iff_ne]; omega, oif_f, wr1 (by omega), if_neg h4]

theorem q_classWith {d : Nat} {n : List Int} (h : n.length = 8) : g71 (d + 1) n = some (mkC n) := by
  rw [e71]
  match n, h with
  | [a, b, c, e, f, g, i, j], _ => rfl

theorem q_filterWith {d : Nat} {n : List Int} (h : n.length = 5) : g73 (d + 1) n = some (mkF n) := by
  rw [e73]
  match n, h with
  | [a, b, c, e, f], _ => rfl
abbrev RI := Cf × (List At × Int × Int)

theorem t2_bad {d : Nat} {l : List At} {a k : Int} {c : Cf} (hk : k ≠ 0) : Ok (iterP (l41_1 (d + 5) (j41_0 (d + 5))) fuelN ((l, a, k), c)) fun r => r.2.2.2 ≠ 0 := by
  obtain ⟨n, hn⟩ : ∃ n, fuelN = n + 1 := ⟨4194303, fuelN_eq⟩
  rw [hn]
  simp only [iterP, l41_1, l41_1_b]
  rw [i_begins_bad hk, ob_s]
  simp only [oif_f]
  unfold j41_0
  refine Ok.oif (fun _ => ?_) (fun _ => Ok.some hk)
  rw [i_stop, ob_s, if_neg hk]
  exact Ok.some hk

theorem t1_bad {d : Nat} {l : List At} {a k : Int} {c : Cf} (hk : k ≠ 0) : Ok (iterP (l41_0 (d + 5) (j41_1 (d + 5))) fuelN ((l, a, k), c)) fun r => r.2.2.2 ≠ 0 := by
  obtain ⟨n, hn⟩ : ∃ n, fuelN = n + 1 := ⟨4194303, fuelN_eq⟩
  rw [hn]
  simp only [iterP, l41_0, l41_0_b]
  rw [i_begins_bad hk, ob_s]
  simp only [oif_f]
  unfold j41_1
  exact t2_bad hk

/-- The filters, from a place on. -/
theorem t2 {d : Nat} {l : List At} (hl : l.length ≤ 400) {nm : ByteArray} {cs : List Cl8} {n : Int} : ∀ (f fuel a : Nat) {fs : List Fl5}, l.length - a < f → f ≤ fuel → a ≤ l.length → fs.length ≤ 16 →
    Ok (iterP (l41_1 (d + 5) (j41_0 (d + 5))) fuel ((l, (a : Int), 0), (nm, cs, fs, n))) fun r => (∀ q, ftV l f a fs = some q → if q.2 < l.length then r.2.2.2 ≠ 0 else r.1 = (nm, cs, q.1, n) ∧ r.2.2.2 = 0) ∧ (ftV l f a fs = none → r.2.2.2 ≠ 0)
  | 0, _, _, _, h, _, _, _ => by omega
  | f + 1, 0, _, _, _, h, _, _ => by omega
  | f + 1, fuel + 1, a, fs, hf, hfu, ha, hfs => by
    simp only [iterP, l41_1, l41_1_b, ftV]
    rw [show d + 5 = (d + 3) + 2 from rfl, show (16 : Int) = ((16 : Nat) : Int) from rfl, i_begins ha hl, ob_s]
    cases hw : wtA l 2 5 true a with
    | none =>
      simp only [oif_f]
      unfold j41_0
      by_cases hlt : a < l.length
      · rw [decide_eq_true (show (a : Int) < ((l.length : Nat) : Int) by omega), oif_t, i_stop, ob_s, if_pos rfl]
        refine Ok.some ⟨fun q h => ?_, fun h => by simp at h⟩
        injection h with h
        rw [← h, if_pos hlt]; simp
      · rw [decide_eq_false (show ¬ (a : Int) < ((l.length : Nat) : Int) by omega), oif_f]
        refine Ok.some ⟨fun q h => ?_, fun h => by simp at h⟩
        injection h with h
        rw [← h, if_neg hlt]; exact ⟨rfl, rfl⟩
    | some s =>
      have hlt := wtA_lt hw
      simp only []
      by_cases h16 : fs.length = 16
      · simp only [if_pos h16, oif_f]
        unfold j41_0
        refine Ok.oif (fun _ => ?_) (fun _ => Ok.some ⟨fun q h => by simp at h, fun _ => by simp⟩)
        rw [i_stop, ob_s, if_neg (by decide)]
        exact Ok.some ⟨fun q h => by simp at h, fun _ => by simp⟩
      simp only [if_neg h16, oif_t]
      refine Ok.bind (i_numbers (d := d + 1) (a := a + 1) (n := 5) hlt hl (by omega)) fun r hr => ?_
      obtain ⟨r1, r2⟩ := hr
      cases hn : numsV l 5 (a + 1) 0 with
      | none =>
        obtain ⟨ns, a', k, hk, hns, rfl⟩ := r2 hn
        rw [q_filterWith hns, ob_s, room (by simp; omega), oif_t]
        refine Ok.mono ?_ fun r hr => ⟨fun q h => by simp at h, fun _ => hr⟩
        cases fuel with
        | zero => omega
        | succ fuel =>
          simp only [iterP, l41_1, l41_1_b]
          rw [i_begins_bad hk, ob_s]
          simp only [oif_f]
          unfold j41_0
          refine Ok.oif (fun _ => ?_) (fun _ => Ok.some hk)
          rw [i_stop, ob_s, if_neg hk]
          exact Ok.some hk
      | some ns =>
        obtain ⟨hns, hin⟩ := numsV_in hn
        obtain rfl := r1 ns hn
        rw [q_filterWith hns, ob_s, room (by simp; omega), oif_t]
        simp only [Option.bind_some]
        exact t2 hl f fuel (a + 1 + 5) (by omega) (by omega) (by have := hin (by omega); omega) (by simp; omega)

/-- The classes, from a place on. -/
theorem t1 {d : Nat} {l : List At} (hl : l.length ≤ 400) {nm : ByteArray} {n : Int} : ∀ (f fuel a : Nat) {cs : List Cl8}, l.length - a < f → f ≤ fuel → a ≤ l.length → cs.length ≤ 24 →
    Ok (iterP (l41_0 (d + 5) (j41_1 (d + 5))) fuel ((l, (a : Int), 0), (nm, cs, [], n))) fun r => (∀ p q, clV l f a cs = some p → ftV l (l.length + 1) p.2 [] = some q → if q.2 < l.length then r.2.2.2 ≠ 0 else r.1 = (nm, p.1, q.1, n) ∧ r.2.2.2 = 0) ∧ (∀ p, clV l f a cs = some p → ftV l (l.length + 1) p.2 [] = none → r.2.2.2 ≠ 0) ∧ (clV l f a cs = none → r.2.2.2 ≠ 0)
  | 0, _, _, _, h, _, _, _ => by omega
  | f + 1, 0, _, _, _, h, _, _ => by omega
  | f + 1, fuel + 1, a, cs, hf, hfu, ha, hcs => by
    simp only [iterP, l41_0, l41_0_b, clV]
    rw [show d + 5 = (d + 3) + 2 from rfl, show (24 : Int) = ((24 : Nat) : Int) from rfl, i_begins ha hl, ob_s]
    cases hw : wtA l 2 4 true a with
    | none =>
      simp only [oif_f]
      unfold j41_1
      refine Ok.mono (t2 (d := d) hl (nm := nm) (cs := cs) (n := n) (l.length + 1) fuelN a (fs := []) (by omega) (by rw [fuelN_eq]; omega) ha (by simp)) fun r hr => ⟨fun p q h1 h2 => ?_, fun p h1 h2 => ?_, fun h => by simp at h⟩
      · injection h1 with h1
        subst h1
        exact hr.1 q h2
      · injection h1 with h1
        subst h1
        exact hr.2 h2
    | some s =>
      have hlt := wtA_lt hw
      simp only []
      by_cases h16 : cs.length = 24
      · simp only [if_pos h16, oif_f]
        unfold j41_1
        exact Ok.mono (t2_bad (by decide)) fun r hr => ⟨fun p q h => by simp at h, fun p h => by simp at h, fun _ => hr⟩
      simp only [if_neg h16, oif_t]
      refine Ok.bind (i_numbers (d := d + 1) (a := a + 1) (n := 8) hlt hl (by omega)) fun r hr => ?_
      obtain ⟨r1, r2⟩ := hr
      cases hn : numsV l 8 (a + 1) 0 with
      | none =>
        obtain ⟨ns, a', k, hk, hns, rfl⟩ := r2 hn
        rw [q_classWith hns, ob_s, room (by simp; omega), oif_t]
        refine Ok.mono ?_ fun r hr => ⟨fun p q h => by simp at h, fun p h => by simp at h, fun _ => hr⟩
        cases fuel with
        | zero => omega
        | succ fuel =>
          simp only [iterP, l41_0, l41_0_b]
          rw [i_begins_bad hk, ob_s]
          simp only [oif_f]
          unfold j41_1
          exact t2_bad hk
      | some ns =>
        obtain ⟨hns, hin⟩ := numsV_in hn
        obtain rfl := r1 ns hn
        rw [q_classWith hns, ob_s, room (by simp; omega), oif_t]
        simp only [Option.bind_some]
        exact t1 hl f fuel (a + 1 + 8) (by omega) (by omega) (by have := hin (by omega); omega) (by simp; omega)

theorem i_config {d : Nat} {l : List At} (hl : l.length ≤ 400) : Ok (g41 (d + 6) (l, 0, 0)) fun r => (∀ c, cfV l = some c → r.1 = c ∧ r.2.2.2 = 0) ∧ (cfV l = none → r.2.2.2 ≠ 0) := by
  rw [e41]
  have num_bad : ∀ {nm : ByteArray} {a k : Int} {r3 : ByteArray × (List At × Int × Int)}, k ≠ 0 → Ok (j41_2 (d + 5) r3 l a k) fun r => r.2.2.2 ≠ 0 := by
    intro nm a k r3 hk
    unfold j41_2
    rw [show d + 5 = (d + 2) + 3 from rfl, i_number_bad hk, ob_s]
    exact t1_bad hk
  have fin : cfV l = none → ∀ {X : Option RI}, Ok X (fun r => r.2.2.2 ≠ 0) → Ok X fun r => (∀ c, cfV l = some c → r.1 = c ∧ r.2.2.2 = 0) ∧ (cfV l = none → r.2.2.2 ≠ 0) := by
    intro h X hX
    exact Ok.mono hX fun r hr => ⟨fun c hc => by rw [h] at hc; simp at hc, fun _ => hr⟩
  refine Ok.bind (i_want (d := d + 3) (l := l) (a := 0) (dp := 1) (t := 1) (b := true) (Nat.zero_le _) hl) fun r hr => ?_
  obtain ⟨r1, r2⟩ := hr
  cases hw : wtA l 1 1 true 0 with
  | none =>
    obtain ⟨k, hk, rfl⟩ := r2 hw
    refine fin (by unfold cfV; rw [hw]; rfl) ?_
    simp only []
    rw [show d + 5 = (d + 3) + 2 from rfl, i_want_bad hk, ob_s]
    simp only []
    rw [show (k == 0) = false by rw [beq_eq_false_iff_ne]; exact hk, oif_f]
    unfold j41_3
    rw [oif_f]
    exact num_bad (nm := ⟨#[]⟩) hk
  | some s0 =>
    have l0 := wtA_lt hw
    obtain rfl := r1 s0 hw
    refine Ok.bind (i_want (d := d + 3) (l := l) (a := 1) (dp := 2) (t := 2) (b := false) (by omega) hl) fun r hr => ?_
    obtain ⟨r3, r4⟩ := hr
    cases hw2 : wtA l 2 2 false 1 with
    | none =>
      obtain ⟨k, hk, rfl⟩ := r4 hw2
      refine fin (by unfold cfV; rw [hw]; simp only [Option.bind_some]; rw [hw2]; rfl) ?_
      simp only []
      rw [show (k == 0) = false by rw [beq_eq_false_iff_ne]; exact hk, oif_f]
      unfold j41_3
      rw [oif_f]
      exact num_bad (nm := ⟨#[]⟩) hk
    | some nm =>
      have l1 := wtA_lt hw2
      obtain rfl := r3 nm hw2
      simp only []
      rw [show ((0 : Int) == 0) = true from rfl, oif_t, show d + 5 = (d + 3) + 2 from rfl, q_isName, ob_s]
      unfold j41_3
      cases hnm : nmB nm with
      | false =>
        refine fin (by unfold cfV; rw [hw]; simp only [Option.bind_some]; rw [hw2]; simp only [Option.bind_some]; rw [hnm]; rfl) ?_
        rw [Bool.not_false, oif_t, i_stop, ob_s, if_pos rfl]
        exact num_bad (nm := ⟨#[]⟩) (show (7 : Int) ≠ 0 by decide)
      | true =>
        rw [Bool.not_true, oif_f]
        unfold j41_2
        refine Ok.bind (i_number (d := d + 2) (l := l) (a := 1 + 1) (dp := 2) (t := 3) (by omega) hl) fun r hr => ?_
        obtain ⟨r5, r6⟩ := hr
        cases hn : nbA l 2 3 2 with
        | none =>
          obtain ⟨v, k, hk, rfl⟩ := r6 hn
          refine fin (by unfold cfV; rw [hw]; simp only [Option.bind_some]; rw [hw2]; simp only [Option.bind_some]; rw [hnm, hn]; rfl) ?_
          exact t1_bad hk
        | some n =>
          have l2 := nbA_lt hn
          obtain rfl := r5 n hn
          have ec : cfV l = (clV l (l.length + 1) 3 []).bind fun p => (ftV l (l.length + 1) p.2 []).bind fun q => if q.2 < l.length then none else some (nm, p.1, q.1, n) := by
            unfold cfV; rw [hw]; simp only [Option.bind_some]; rw [hw2]; simp only [Option.bind_some]; rw [hnm, hn]; rfl
          refine Ok.mono (t1 (d := d) hl (nm := nm) (n := n) (l.length + 1) fuelN 3 (cs := []) (by omega) (by rw [fuelN_eq]; omega) (by omega) (by simp)) fun r hr => ?_
          obtain ⟨q1, q2, q3⟩ := hr
          rw [ec]
          cases hc : clV l (l.length + 1) 3 [] with
          | none => exact ⟨fun c h => by simp at h, fun _ => q3 hc⟩
          | some p =>
            simp only [Option.bind_some]
            cases hf : ftV l (l.length + 1) p.2 [] with
            | none => exact ⟨fun c h => by simp at h, fun _ => q2 p hc hf⟩
            | some q =>
              simp only [Option.bind_some]
              have := q1 p q hc hf
              by_cases hlt : q.2 < l.length
              · rw [if_pos hlt] at this ⊢
                exact ⟨fun c h => by simp at h, fun _ => this⟩
              · rw [if_neg hlt] at this ⊢
                exact ⟨fun c h => by injection h with h; rw [← h]; exact this, fun h => by simp at h⟩

def acV (l : List At) : Cf × Bool := if atsOk l = true then (match cfV l with | some c => (c, true) | none => (zC, false)) else (zC, false)

theorem q_AttrsConfig {d : Nat} {l : List At} : g16 (d + 7) l = some (acV l) := by
  rw [e16, q_AreAttrs, ob_s]
  unfold acV
  cases h : atsOk l with
  | false => rfl
  | true =>
    have hl := at_len h
    rw [Bool.not_true, oif_f]
    obtain ⟨r, h1, h2, h3⟩ := i_config (d := d) hl
    rw [h1, ob_s]
    simp only [if_true]
    cases hc : cfV l with
    | none =>
      rw [show (r.2.2.2 != 0) = true by rw [bne_iff_ne]; exact h3 hc, oif_t]; rfl
    | some c =>
      obtain ⟨e1, e2⟩ := h2 c hc
      rw [show (r.2.2.2 != 0) = false by rw [bne_eq_false_iff_eq]; exact e2, oif_f, e1]

/-- The other package: what it does with an attribute. -/
abbrev RS := Cf × Int × Int × List Int

theorem fits_j {d : Nat} {st : RS} {x : At} {dp t : Int} {b : Bool} : j77_0 d st x dp t b = some (decide (okA x dp t b), st) := by
  unfold j77_0
  by_cases h1 : x.1 = dp
  case neg => rw [show (x.1 == dp) = false by rw [beq_eq_false_iff_ne]; exact h1, oif_f, decide_eq_false (show ¬ okA x dp t b from fun h => h1 h.1)]
  rw [show (x.1 == dp) = true by rw [beq_iff_eq]; exact h1, oif_t]
  by_cases h2 : x.2.1 = t
  case neg => rw [show (x.2.1 == t) = false by rw [beq_eq_false_iff_ne]; exact h2, oif_f, decide_eq_false (show ¬ okA x dp t b from fun h => h2 h.2.1)]
  rw [show (x.2.1 == t) = true by rw [beq_iff_eq]; exact h2, oif_t]
  by_cases h3 : x.2.2.1 = b
  · rw [show (x.2.2.1 == b) = true by rw [beq_iff_eq]; exact h3, decide_eq_true (show okA x dp t b from ⟨h1, h2, h3⟩)]
  · rw [show (x.2.2.1 == b) = false by rw [beq_eq_false_iff_ne]; exact h3, decide_eq_false (show ¬ okA x dp t b from fun h => h3 h.2.2)]

theorem take_no {d : Nat} {st : RS} {x : At} (h : g77 (d + 4) st x = some (false, st)) : g65 (d + 5) st x = some (2, st) := by
  rw [e65, h, ob_s]
  simp only [Bool.not_false, oif_t]

theorem T0 {d : Nat} {c : Cf} {ns : List Int} {x : At} : (okA x 1 1 true → g65 (d + 5) (c, 0, 0, ns) x = some (0, (c, 1, 0, ns))) ∧ (¬ okA x 1 1 true → g65 (d + 5) (c, 0, 0, ns) x = some (2, (c, 0, 0, ns))) := by
  have hf : g77 (d + 4) (c, 0, 0, ns) x = some (decide (okA x 1 1 true), (c, 0, 0, ns)) := by
    rw [e77]
    simp only []
    rw [decide_eq_false (by decide), oif_f, show ((0 : Int) == 0) = true from rfl, oif_t, fits_j]
  refine ⟨fun h => ?_, fun h => take_no (by rw [hf, decide_eq_false h])⟩
  rw [e65, hf, ob_s, decide_eq_true h]
  simp only [Bool.not_true, oif_f]
  rw [e78]
  simp only []
  rw [decide_eq_false (by decide), oif_f, decide_eq_true (by decide)]
  unfold j78_0
  rw [oif_t, ob_s]
  simp only [oif_f]
  rw [show ((0 : Int) == 0) = true from rfl, oif_t, decide_eq_false (by decide)]
  unfold j65_1
  simp only [oif_f]
  rw [show ((0 : Int) == 1) = false from rfl, oif_f, show ((0 : Int) == 0) = true from rfl, oif_t, wr (by decide) (by decide)]
  rfl

theorem T1 {d : Nat} {c : Cf} {ns : List Int} {x : At} (hs : x.2.2.2.size < 4000000) : (okA x 2 2 false → nmB x.2.2.2 = true → g65 (d + 5) (c, 1, 0, ns) x = some (0, ((x.2.2.2, c.2), 2, 0, ns))) ∧ (¬ (okA x 2 2 false ∧ nmB x.2.2.2 = true) → ∃ k st, k > 0 ∧ g65 (d + 5) (c, 1, 0, ns) x = some (k, st)) := by
  have hf : g77 (d + 4) (c, 1, 0, ns) x = some (decide (okA x 2 2 false), (c, 1, 0, ns)) := by
    rw [e77]
    simp only []
    rw [decide_eq_false (by decide), oif_f, show ((1 : Int) == 0) = false from rfl, oif_f, decide_eq_false (by decide), oif_f, fits_j, wr (by decide) (by decide)]
    rfl
  have hg : okA x 2 2 false → g65 (d + 5) (c, 1, 0, ns) x = some (if nmB x.2.2.2 = true then 0 else 7, ((x.2.2.2, c.2), 2, 0, ns)) := by
    intro h
    rw [e65, hf, ob_s, decide_eq_true h]
    simp only [Bool.not_true, oif_f]
    rw [e78]
    simp only []
    rw [decide_eq_false (by decide), oif_f, decide_eq_true (by decide)]
    unfold j78_0
    rw [oif_t, ob_s]
    simp only [oif_f]
    rw [show ((0 : Int) == 0) = true from rfl, oif_t, decide_eq_false (by decide)]
    unfold j65_1
    simp only [oif_f]
    rw [show ((1 : Int) == 1) = true from rfl, oif_t, show d + 4 = (d + 1) + 3 from rfl, q_cfName hs, ob_s, wr (by decide) (by decide)]
    cases nmB x.2.2.2 <;> rfl
  refine ⟨fun h1 h2 => by rw [hg h1, if_pos h2], fun h => ?_⟩
  by_cases h1 : okA x 2 2 false
  · rw [hg h1, if_neg (fun h2 => h ⟨h1, h2⟩)]; exact ⟨7, _, by decide, rfl⟩
  · exact ⟨2, _, by decide, take_no (by rw [hf, decide_eq_false h1])⟩

theorem T2 {d : Nat} {c : Cf} {ns : List Int} {x : At} : (∀ n, okA x 2 3 false → rdO x.2.2.2 = some n → g65 (d + 5) (c, 2, 0, ns) x = some (0, ((c.1, c.2.1, c.2.2.1, n), 3, 0, ns))) ∧ (¬ (okA x 2 3 false ∧ rdO x.2.2.2 ≠ none) → ∃ k st, k > 0 ∧ g65 (d + 5) (c, 2, 0, ns) x = some (k, st)) := by
  have hf : g77 (d + 4) (c, 2, 0, ns) x = some (decide (okA x 2 3 false), (c, 2, 0, ns)) := by
    rw [e77]
    simp only []
    rw [decide_eq_false (by decide), oif_f, show ((2 : Int) == 0) = false from rfl, oif_f, decide_eq_false (by decide), oif_f, fits_j, wr (by decide) (by decide)]
    rfl
  have hg : okA x 2 3 false → g65 (d + 5) (c, 2, 0, ns) x = some (match rdO x.2.2.2 with | none => (3, (c, 2, 0, ns)) | some n => (0, ((c.1, c.2.1, c.2.2.1, n), 3, 0, ns))) := by
    intro h
    rw [e65, hf, ob_s, decide_eq_true h]
    simp only [Bool.not_true, oif_f]
    rw [e78]
    simp only []
    rw [decide_eq_false (by decide), oif_f, decide_eq_true (by decide)]
    unfold j78_0
    rw [oif_t, ob_s]
    simp only [oif_f]
    rw [show ((0 : Int) == 0) = true from rfl, oif_t, decide_eq_false (by decide)]
    unfold j65_1
    simp only [oif_f]
    rw [show ((2 : Int) == 1) = false from rfl, oif_f, show ((2 : Int) == 0) = false from rfl, oif_f]
    unfold j65_0
    rw [show d + 4 = (d + 1) + 3 from rfl, q_enRead, ob_s]
    unfold rdO
    cases hv : vOk (rd4 (bl x.2.2.2)) with
    | false => simp only [Bool.false_eq_true, if_false]; rfl
    | true =>
      have := hv
      simp only [vOk, decide_eq_true_eq] at this
      simp only [if_true]
      rw [decide_eq_false (by omega), oif_f, decide_eq_false (by decide), oif_f, wr (by decide) (by decide)]
      rfl
  refine ⟨fun n h1 h2 => by rw [hg h1, h2], fun h => ?_⟩
  by_cases h1 : okA x 2 3 false
  · cases hr : rdO x.2.2.2 with
    | none => rw [hg h1, hr]; exact ⟨3, _, by decide, rfl⟩
    | some n => exact absurd ⟨h1, by rw [hr]; simp⟩ h
  · exact ⟨2, _, by decide, take_no (by rw [hf, decide_eq_false h1])⟩

theorem T3 {d : Nat} {c : Cf} {ns : List Int} {x : At} :
    (okA x 2 5 true → c.2.2.1.length ≠ 16 → g65 (d + 5) (c, 3, 0, ns) x = some (0, (c, 3, 5, []))) ∧
    (okA x 2 4 true → c.2.2.1 = [] → c.2.1.length ≠ 24 → g65 (d + 5) (c, 3, 0, ns) x = some (0, (c, 3, 4, []))) ∧
    (¬ (okA x 2 5 true ∧ c.2.2.1.length ≠ 16) → ¬ (okA x 2 4 true ∧ c.2.2.1 = [] ∧ c.2.1.length ≠ 24) → ∃ k st, k > 0 ∧ g65 (d + 5) (c, 3, 0, ns) x = some (k, st)) := by
  have hf : g77 (d + 4) (c, 3, 0, ns) x = some (decide (okA x 2 5 true ∨ (okA x 2 4 true ∧ c.2.2.1 = [])), (c, 3, 0, ns)) := by
    rw [e77]
    simp only []
    rw [decide_eq_false (by decide), oif_f, show ((3 : Int) == 0) = false from rfl, oif_f, decide_eq_true (by decide), oif_t]
    by_cases h5 : x.2.1 = 5
    · rw [show (x.2.1 != 5) = false by rw [bne_eq_false_iff_eq]; exact h5, oif_f, fits_j]
      congr 2
      refine decide_eq_decide.2 ⟨fun h => Or.inl ⟨h.1, h5, h.2.2⟩, fun h => ?_⟩
      rcases h with h | ⟨h, _⟩
      · exact ⟨h.1, rfl, h.2.2⟩
      · exact ⟨h.1, rfl, h.2.2⟩
    · rw [show (x.2.1 != 5) = true by rw [bne_iff_ne]; exact h5, oif_t]
      by_cases h4 : x.2.1 = 4
      · rw [show (x.2.1 != 4) = false by rw [bne_eq_false_iff_eq]; exact h4, oif_f]
        by_cases hz : c.2.2.1 = []
        · rw [decide_eq_false (by rw [hz]; simp), oif_f, fits_j]
          congr 2
          refine decide_eq_decide.2 ⟨fun h => Or.inr ⟨⟨h.1, h4, h.2.2⟩, hz⟩, fun h => ?_⟩
          rcases h with h | ⟨h, _⟩
          · exact absurd h.2.1 h5
          · exact ⟨h.1, rfl, h.2.2⟩
        · have := List.length_pos_iff.2 hz
          rw [decide_eq_true (by omega), oif_t, decide_eq_false (fun h => ?_)]
          rcases h with h | ⟨_, h⟩
          · exact h5 h.2.1
          · exact hz h
      · rw [show (x.2.1 != 4) = true by rw [bne_iff_ne]; exact h4, oif_t, decide_eq_false (fun h => ?_)]
        rcases h with h | ⟨h, _⟩
        · exact h5 h.2.1
        · exact h4 h.2.1
  have hg : okA x 2 5 true ∨ (okA x 2 4 true ∧ c.2.2.1 = []) → g65 (d + 5) (c, 3, 0, ns) x = some (if (x.2.1 = 4 ∧ c.2.1.length = 24) ∨ (x.2.1 = 5 ∧ c.2.2.1.length = 16) then (5, (c, 3, 0, ns)) else (0, (c, 3, x.2.1, []))) := by
    intro h
    rw [e65, hf, ob_s, decide_eq_true h]
    simp only [Bool.not_true, oif_f]
    rw [e78]
    simp only []
    rw [decide_eq_false (by decide), oif_f, decide_eq_false (by decide)]
    unfold j78_0
    simp only [oif_f]
    have tail : obind (some ((false, (c, 3, 0, ns)) : Bool × RS)) (fun r4 => oif r4.1 (some ((5 : Int), r4.2)) (oif ((r4.2.2.2.1 : Int) == 0) (j65_1 (d + 4) x r4 (decide ((r4.2.2.1 : Int) > 2))) (j65_1 (d + 4) x r4 false))) = some (0, (c, 3, x.2.1, [])) := by
      rw [ob_s]
      simp only [oif_f]
      rw [show ((0 : Int) == 0) = true from rfl, oif_t, decide_eq_true (by decide)]
      unfold j65_1
      simp only [oif_t]
    rcases h with h | ⟨h, hz⟩
    · have h5 := h.2.1
      rw [h5, show ((5 : Int) == 4) = false from rfl, oif_f, show ((5 : Int) == 5) = true from rfl, oif_t]
      by_cases h16 : c.2.2.1.length = 16
      · rw [show (((c.2.2.1.length : Nat) : Int) == 16) = true by rw [beq_iff_eq]; omega, ob_s, if_pos (Or.inr ⟨rfl, h16⟩)]
        simp only [oif_t]
      · rw [show (((c.2.2.1.length : Nat) : Int) == 16) = false by rw [beq_eq_false_iff_ne]; omega, tail, if_neg (by rintro (⟨h, _⟩ | ⟨_, h⟩) <;> omega), h5]
    · have h4 := h.2.1
      rw [h4, show ((4 : Int) == 4) = true from rfl, oif_t]
      by_cases h24 : c.2.1.length = 24
      · rw [show (((c.2.1.length : Nat) : Int) == 24) = true by rw [beq_iff_eq]; omega, oif_t, ob_s, if_pos (Or.inl ⟨rfl, h24⟩)]
        simp only [oif_t]
      · rw [show (((c.2.1.length : Nat) : Int) == 24) = false by rw [beq_eq_false_iff_ne]; omega, oif_f, show ((4 : Int) == 5) = false from rfl, oif_f, tail, if_neg (by rintro (⟨_, h⟩ | ⟨h, _⟩) <;> omega), h4]
  refine ⟨fun h1 h2 => ?_, fun h1 h2 h3 => ?_, fun h1 h2 => ?_⟩
  · rw [hg (Or.inl h1), if_neg (by have := h1.2.1; rintro (⟨h, _⟩ | ⟨_, h⟩) <;> omega), h1.2.1]
  · rw [hg (Or.inr ⟨h1, h2⟩), if_neg (by have := h1.2.1; rintro (⟨_, h⟩ | ⟨h, _⟩) <;> omega), h1.2.1]
  · by_cases h : okA x 2 5 true ∨ (okA x 2 4 true ∧ c.2.2.1 = [])
    · have hfull : (x.2.1 = 4 ∧ c.2.1.length = 24) ∨ (x.2.1 = 5 ∧ c.2.2.1.length = 16) := by
        rcases h with h | ⟨h, hz⟩
        · refine Or.inr ⟨h.2.1, ?_⟩
          rcases Nat.decEq c.2.2.1.length 16 with hne | he
          · exact absurd ⟨h, hne⟩ h1
          · exact he
        · refine Or.inl ⟨h.2.1, ?_⟩
          rcases Nat.decEq c.2.1.length 24 with hne | he
          · exact absurd ⟨h, hz, hne⟩ h2
          · exact he
      rw [hg h, if_pos hfull]
      exact ⟨5, _, by decide, rfl⟩
    · exact ⟨2, _, by decide, take_no (by rw [hf, decide_eq_false h])⟩

def up4 (c : Cf) (it : Int) (ns : List Int) : RS :=
  if it = 4 ∧ ns.length = 8 then ((c.1, c.2.1 ++ [mkC ns], c.2.2.1, c.2.2.2), 3, 0, ns) else if it = 5 ∧ ns.length = 5 then ((c.1, c.2.1, c.2.2.1 ++ [mkF ns], c.2.2.2), 3, 0, ns) else (c, 3, it, ns)

theorem q_enum {d : Nat} {c : Cf} {it n : Int} {ns : List Int} (hl : ns.length ≤ 100) (hc : c.2.1.length ≤ 100) (hf : c.2.2.1.length ≤ 100) : g81 (d + 1) (c, 3, it, ns) n = some (up4 c it (ns ++ [n])) := by
  rw [e81]
  simp only []
  rw [show Nat.ble ((ns.length + [n].length) * 8) roomMax = true from ble_t (by simp [roomMax]; omega), oif_t]
  unfold up4 j81_1 j81_0
  simp only []
  generalize hm : ns ++ [n] = m
  have hml : m.length ≤ 101 := by rw [← hm]; simp; omega
  by_cases h4 : it = 4
  · rw [show (it == 4) = true by rw [beq_iff_eq]; exact h4, oif_t]
    by_cases h8 : m.length = 8
    · rw [show (((m.length : Nat) : Int) == 8) = true by rw [beq_iff_eq]; omega, oif_t, if_pos ⟨h4, h8⟩]
      match m, h8 with
      | [a, b, e, f, g, i, j, k], _ =>
        simp only [List.length_cons, List.length_nil, List.getElem?_cons_zero, List.getElem?_cons_succ, ob_s]
        rw [show Nat.blt 0 _ = true from rfl, oif_t, show Nat.blt 1 _ = true from rfl, oif_t, show Nat.blt 2 _ = true from rfl, oif_t, show Nat.blt 3 _ = true from rfl, oif_t, show Nat.blt 4 _ = true from rfl, oif_t, show Nat.blt 5 _ = true from rfl, oif_t, show Nat.blt 6 _ = true from rfl, oif_t, show Nat.blt 7 _ = true from rfl, oif_t, room (by omega), oif_t]
        rfl
    · rw [show (((m.length : Nat) : Int) == 8) = false by rw [beq_eq_false_iff_ne]; omega, oif_f, h4, show ((4 : Int) == 5) = false from rfl, oif_f, oif_f, if_neg (fun h => h8 h.2), if_neg (by omega)]
  · rw [show (it == 4) = false by rw [beq_eq_false_iff_ne]; exact h4, oif_f, oif_f, if_neg (fun h => h4 h.1)]
    by_cases h5 : it = 5
    · rw [show (it == 5) = true by rw [beq_iff_eq]; exact h5, oif_t]
      by_cases h8 : m.length = 5
      · rw [show (((m.length : Nat) : Int) == 5) = true by rw [beq_iff_eq]; omega, oif_t, if_pos ⟨h5, h8⟩]
        match m, h8 with
        | [a, b, e, f, g], _ =>
          simp only [List.length_cons, List.length_nil, List.getElem?_cons_zero, List.getElem?_cons_succ, ob_s]
          rw [show Nat.blt 0 _ = true from rfl, oif_t, show Nat.blt 1 _ = true from rfl, oif_t, show Nat.blt 2 _ = true from rfl, oif_t, show Nat.blt 3 _ = true from rfl, oif_t, show Nat.blt 4 _ = true from rfl, oif_t, room (by omega), oif_t]
          rfl
      · rw [show (((m.length : Nat) : Int) == 5) = false by rw [beq_eq_false_iff_ne]; omega, oif_f, if_neg (fun h => h8 h.2)]
    · rw [show (it == 5) = false by rw [beq_eq_false_iff_ne]; exact h5, oif_f, oif_f, if_neg (fun h => h5 h.1)]

theorem T4 {d : Nat} {c : Cf} {it : Int} {ns : List Int} {x : At} (hit : it = 4 ∨ it = 5) (hl : ns.length ≤ 100) (hc : c.2.1.length ≤ 100) (hf0 : c.2.2.1.length ≤ 100) :
    (∀ n, okA x 3 ((ns.length + 1 : Nat) : Int) false → rdO x.2.2.2 = some n → g65 (d + 5) (c, 3, it, ns) x = some (0, up4 c it (ns ++ [n]))) ∧
    (¬ (okA x 3 ((ns.length + 1 : Nat) : Int) false ∧ rdO x.2.2.2 ≠ none) → ∃ k st, k > 0 ∧ g65 (d + 5) (c, 3, it, ns) x = some (k, st)) := by
  have hf : g77 (d + 4) (c, 3, it, ns) x = some (decide (okA x 3 ((ns.length + 1 : Nat) : Int) false), (c, 3, it, ns)) := by
    rw [e77]
    simp only []
    rw [decide_eq_true (by omega), oif_t, wr1 (by omega), fits_j]
  have hg : okA x 3 ((ns.length + 1 : Nat) : Int) false → g65 (d + 5) (c, 3, it, ns) x = some (match rdO x.2.2.2 with | none => (3, (c, 3, it, ns)) | some n => (0, up4 c it (ns ++ [n]))) := by
    intro h
    rw [e65, hf, ob_s, decide_eq_true h]
    simp only [Bool.not_true, oif_f]
    rw [e78]
    simp only []
    rw [decide_eq_true (by omega), oif_t]
    unfold j78_0
    rw [oif_t, ob_s]
    simp only [oif_f]
    rw [show (it == 0) = false by rw [beq_eq_false_iff_ne]; omega, oif_f]
    unfold j65_1
    simp only [oif_f]
    rw [show ((3 : Int) == 1) = false from rfl, oif_f, show ((3 : Int) == 0) = false from rfl, oif_f]
    unfold j65_0
    rw [show d + 4 = (d + 1) + 3 from rfl, q_enRead, ob_s]
    unfold rdO
    cases hv : vOk (rd4 (bl x.2.2.2)) with
    | false => simp only [Bool.false_eq_true, if_false]; rfl
    | true =>
      have := hv
      simp only [vOk, decide_eq_true_eq] at this
      simp only [if_true]
      rw [decide_eq_false (by omega), oif_f, decide_eq_true (by omega), oif_t]
      change obind (g81 (d + 3 + 1) (c, 3, it, ns) _) _ = _
      rw [q_enum hl hc hf0, ob_s]
  refine ⟨fun n h1 h2 => by rw [hg h1, h2], fun h => ?_⟩
  by_cases h1 : okA x 3 ((ns.length + 1 : Nat) : Int) false
  · cases hr : rdO x.2.2.2 with
    | none => rw [hg h1, hr]; exact ⟨3, _, by decide, rfl⟩
    | some n => exact absurd ⟨h1, by rw [hr]; simp⟩ h
  · exact ⟨2, _, by decide, take_no (by rw [hf, decide_eq_false h1])⟩

/-- The other package: all attributes, one after the other. -/
noncomputable def RN (d : Nat) (l : List At) (f i : Nat) (st : RS) : Option (Cf × Int × Int) := iterP (l38_0 (d + 5) l (j38_0 (d + 5) l)) f (0, 0, (i : Int), st)

theorem rn_bad {d : Nat} {l : List At} {f i : Nat} {st st' : RS} {x : At} {k : Int} (hx : l[i]? = some x) (h : g65 (d + 5) st x = some (k, st')) (hk : k > 0) : RN d l (f + 1) i st = some (zC, (i : Int), k) := by
  have hlt := (List.getElem?_eq_some_iff.1 hx).1
  unfold RN
  simp only [iterP, l38_0, l38_0_b]
  rw [decide_eq_true (show (i : Int) < ((l.length : Nat) : Int) by omega), oif_t, nn, oif_t, ofNat_toNat, hx, ob_s, h, ob_s]
  simp only []
  rw [decide_eq_true hk, oif_t]; rfl

theorem rn_ok {d : Nat} {l : List At} {f i : Nat} {st st' : RS} {x : At} (hl : l.length ≤ 400) (hx : l[i]? = some x) (h : g65 (d + 5) st x = some (0, st')) : RN d l (f + 1) i st = RN d l f (i + 1) st' := by
  have hlt := (List.getElem?_eq_some_iff.1 hx).1
  unfold RN
  simp only [iterP, l38_0, l38_0_b]
  rw [decide_eq_true (show (i : Int) < ((l.length : Nat) : Int) by omega), oif_t, nn, oif_t, ofNat_toNat, hx, ob_s, h, ob_s]
  simp only []
  rw [decide_eq_false (by decide), oif_f, wr1 (by omega)]

theorem rn_fin {d : Nat} {l : List At} {f : Nat} {c : Cf} {a it : Int} {ns : List Int} : RN d l (f + 1) l.length (c, a, it, ns) = some (if a < 3 ∨ it > 0 then (zC, ((l.length : Nat) : Int), 6) else (c, 0, 0)) := by
  unfold RN
  simp only [iterP, l38_0, l38_0_b]
  rw [ltn, oif_f]
  unfold j38_0
  by_cases h1 : a < 3
  · rw [decide_eq_true h1, oif_t, if_pos (Or.inl h1)]; rfl
  rw [decide_eq_false h1, oif_f]
  by_cases h2 : it > 0
  · rw [decide_eq_true h2, oif_t, if_pos (Or.inr h2)]; rfl
  · rw [decide_eq_false h2, oif_f, if_neg (fun h => h.elim h1 h2)]

theorem wtA_some {l : List At} {dp t : Int} {b : Bool} {a : Nat} {x : At} (hx : l[a]? = some x) (h : okA x dp t b) : wtA l dp t b a = some x.2.2.2 := by unfold wtA; rw [hx]; simp only []; rw [if_pos h]

theorem wtA_none {l : List At} {dp t : Int} {b : Bool} {a : Nat} {x : At} (hx : l[a]? = some x) (h : ¬ okA x dp t b) : wtA l dp t b a = none := by unfold wtA; rw [hx]; simp only []; rw [if_neg h]

theorem wtA_get {l : List At} {dp t : Int} {b : Bool} {a : Nat} {s : ByteArray} (h : wtA l dp t b a = some s) : ∃ x, l[a]? = some x ∧ okA x dp t b ∧ s = x.2.2.2 := by
  unfold wtA at h
  cases hx : l[a]? with
  | none => rw [hx] at h; simp at h
  | some x =>
    rw [hx] at h
    simp only at h
    split at h
    · rename_i ho; injection h with h; exact ⟨x, rfl, ho, h.symm⟩
    · simp at h

theorem nb_none {l : List At} {dp t : Int} {a : Nat} {x : At} (hx : l[a]? = some x) (h : ¬ (okA x dp t false ∧ rdO x.2.2.2 ≠ none)) : nbA l dp t a = none := by
  unfold nbA
  by_cases ho : okA x dp t false
  · rw [wtA_some hx ho]
    simp only [Option.bind_some]
    cases hr : rdO x.2.2.2 with
    | none => rfl
    | some n => exact absurd ⟨ho, by rw [hr]; simp⟩ h
  · rw [wtA_none hx ho]; rfl

theorem nb_some {l : List At} {dp t n : Int} {a : Nat} {x : At} (hx : l[a]? = some x) (h : okA x dp t false) (hr : rdO x.2.2.2 = some n) : nbA l dp t a = some n := by
  unfold nbA
  rw [wtA_some hx h]
  simp only [Option.bind_some]; exact hr

theorem s_nums {d : Nat} {l : List At} (hl : l.length ≤ 400) {c : Cf} {it : Int} {T : Nat} (hT : (it = 4 ∧ T = 8) ∨ (it = 5 ∧ T = 5)) (hc : c.2.1.length ≤ 100) (hf0 : c.2.2.1.length ≤ 100) {Q : Cf × Int × Int → Prop} : ∀ (m : Nat) {f i : Nat} {ns : List Int}, ns.length + (m + 1) = T → i ≤ l.length → l.length - i < f →
    (numsV l (m + 1) i ns.length = none → ∀ (j k : Int), k ≠ 0 → Q (zC, j, k)) →
    (∀ ms f', numsV l (m + 1) i ns.length = some ms → l.length - (i + (m + 1)) < f' → i + (m + 1) ≤ l.length → Ok (RN d l f' (i + (m + 1)) (up4 c it (ns ++ ms))) Q) → Ok (RN d l f i (c, 3, it, ns)) Q
  | m, 0, i, ns, _, _, h, _, _ => by omega
  | m, f + 1, i, ns, hm, hi, hf, hFL, hK => by
    have hit : it = 4 ∨ it = 5 := by omega
    cases hx : l[i]? with
    | none =>
      have := List.getElem?_eq_none_iff.1 hx
      obtain rfl : i = l.length := by omega
      rw [rn_fin, if_pos (Or.inr (by omega))]
      refine Ok.some (hFL ?_ _ _ (by decide))
      simp only [numsV]
      unfold nbA wtA
      rw [hx]; rfl
    | some x =>
      have hlt := (List.getElem?_eq_some_iff.1 hx).1
      obtain ⟨t1, t2⟩ := T4 (d := d) (c := c) (it := it) (ns := ns) (x := x) hit (by omega) hc hf0
      by_cases hok : okA x 3 ((ns.length + 1 : Nat) : Int) false ∧ rdO x.2.2.2 ≠ none
      · obtain ⟨n, hn⟩ : ∃ n, rdO x.2.2.2 = some n := Option.ne_none_iff_exists'.1 hok.2
        have hnb := nb_some hx hok.1 hn
        rw [rn_ok hl hx (t1 n hok.1 hn)]
        cases m with
        | zero =>
          have := hK [n] f (by simp only [numsV]; rw [hnb]; rfl) (by omega) (by omega)
          exact this
        | succ m =>
          have hup : up4 c it (ns ++ [n]) = (c, 3, it, ns ++ [n]) := by
            unfold up4
            rw [if_neg (by simp; omega), if_neg (by simp; omega)]
          rw [hup]
          refine s_nums hl hT hc hf0 m (by simp; omega) (by omega) (by omega) (fun h => hFL ?_) (fun ms f' h1 h2 h3 => ?_)
          · rw [numsV, hnb]
            simp only [Option.bind_some]
            rw [show (ns ++ [n]).length = ns.length + 1 by simp] at h
            rw [h]; rfl
          · have := hK (n :: ms) f' (by
              rw [numsV, hnb]
              simp only [Option.bind_some]
              rw [show (ns ++ [n]).length = ns.length + 1 by simp] at h1
              rw [h1]; rfl) (by omega) (by omega)
            rw [List.append_assoc, show i + 1 + (m + 1) = i + (m + 1 + 1) by omega]
            exact this
      · obtain ⟨k, st', hk, h⟩ := t2 hok
        rw [rn_bad hx h hk]
        refine Ok.some (hFL ?_ _ _ (by omega))
        rw [numsV, nb_none hx hok]; rfl

theorem s_fls {d : Nat} {l : List At} (hl : l.length ≤ 400) {nm : ByteArray} {cs : List Cl8} {df : Int} (hcs : cs.length ≤ 100) {Q : Cf × Int × Int → Prop} : ∀ (mf f i : Nat) {fs : List Fl5} {ns : List Int}, l.length - i < mf → l.length - i < f → i ≤ l.length → fs.length ≤ 16 → (fs = [] → wtA l 2 4 true i = none) →
    (ftV l mf i fs = none → ∀ (j k : Int), k ≠ 0 → Q (zC, j, k)) → (∀ q, ftV l mf i fs = some q → if q.2 < l.length then ∀ (j k : Int), k ≠ 0 → Q (zC, j, k) else Q ((nm, cs, q.1, df), 0, 0)) →
    Ok (RN d l f i ((nm, cs, fs, df), 3, 0, ns)) Q
  | 0, _, _, _, _, h, _, _, _, _, _, _ => by omega
  | mf + 1, 0, _, _, _, _, h, _, _, _, _, _ => by omega
  | mf + 1, f + 1, i, fs, ns, hmf, hf, hi, hfs, h4, hFL, hK => by
    obtain ⟨t1, t2, t3⟩ := T3 (d := d) (c := (nm, cs, fs, df)) (ns := ns) (x := (l[i]?).getD (0, 0, false, ⟨#[]⟩))
    cases hx : l[i]? with
    | none =>
      have := List.getElem?_eq_none_iff.1 hx
      obtain rfl : i = l.length := by omega
      rw [rn_fin, if_neg (by omega)]
      have := hK (fs, l.length) (by
        simp only [ftV]
        have : wtA l 2 5 true l.length = none := by unfold wtA; rw [hx]
        rw [this])
      rw [if_neg (by simp)] at this
      exact Ok.some this
    | some x =>
      have hlt := (List.getElem?_eq_some_iff.1 hx).1
      rw [hx] at t1 t2 t3
      simp only [Option.getD_some] at t1 t2 t3
      by_cases h5 : okA x 2 5 true
      · have hw := wtA_some hx h5
        have h4n : ¬ okA x 2 4 true := fun h => by have := h.2.1; have := h5.2.1; omega
        by_cases h16 : fs.length = 16
        · obtain ⟨k, st', hk, h⟩ := t3 (fun h => h.2 h16) (fun h => h4n h.1)
          rw [rn_bad hx h hk]
          refine Ok.some (hFL ?_ _ _ (by omega))
          simp only [ftV]
          rw [hw]
          simp only []
          rw [if_pos h16]
        · rw [rn_ok hl hx (t1 h5 h16)]
          have hft : ftV l (mf + 1) i fs = (numsV l 5 (i + 1) 0).bind fun ns => ftV l mf (i + 6) (fs ++ [mkF ns]) := by
            conv => lhs; simp only [ftV]
            rw [hw]
            simp only []
            rw [if_neg h16]
          refine s_nums hl (it := 5) (T := 5) (Or.inr ⟨rfl, rfl⟩) (c := (nm, cs, fs, df)) hcs (show fs.length ≤ 100 by omega) 4 (ns := []) rfl (by omega) (by omega) (fun h => hFL ?_) (fun ms f' hm h2 h3 => ?_)
          · rw [hft]
            have : numsV l 5 (i + 1) 0 = none := h
            rw [this]; rfl
          · have hm' : numsV l 5 (i + 1) 0 = some ms := hm
            obtain ⟨hml, _⟩ := numsV_in hm'
            have hup : up4 (nm, cs, fs, df) 5 ([] ++ ms) = ((nm, cs, fs ++ [mkF ms], df), 3, 0, ms) := by
              unfold up4
              rw [List.nil_append, if_neg (by omega), if_pos ⟨rfl, hml⟩]
            rw [hup, show i + 1 + (4 + 1) = i + 6 by omega]
            rw [hm'] at hft
            simp only [Option.bind_some] at hft
            refine s_fls hl hcs mf f' (i + 6) (by omega) (by omega) (by omega) (by simp; omega) (fun h => by simp at h) (fun h => hFL (by rw [hft]; exact h)) (fun q hq => hK q (by rw [hft]; exact hq))
      · obtain ⟨k, st', hk, h⟩ := t3 (fun h => h5 h.1) (fun h => by
          have := h4 h.2.1
          rw [wtA_some hx h.1] at this
          simp at this)
        rw [rn_bad hx h hk]
        have := hK (fs, i) (by simp only [ftV]; rw [wtA_none hx h5])
        rw [if_pos hlt] at this
        exact Ok.some (this _ _ (by omega))

theorem s_cls {d : Nat} {l : List At} (hl : l.length ≤ 400) {nm : ByteArray} {df : Int} {Q : Cf × Int × Int → Prop} : ∀ (mf f i : Nat) {cs : List Cl8} {ns : List Int}, l.length - i < mf → l.length - i < f → i ≤ l.length → cs.length ≤ 24 →
    (clV l mf i cs = none → ∀ (j k : Int), k ≠ 0 → Q (zC, j, k)) → (∀ p, clV l mf i cs = some p → ftV l (l.length + 1) p.2 [] = none → ∀ (j k : Int), k ≠ 0 → Q (zC, j, k)) →
    (∀ p q, clV l mf i cs = some p → ftV l (l.length + 1) p.2 [] = some q → if q.2 < l.length then ∀ (j k : Int), k ≠ 0 → Q (zC, j, k) else Q ((nm, p.1, q.1, df), 0, 0)) →
    Ok (RN d l f i ((nm, cs, [], df), 3, 0, ns)) Q
  | 0, _, _, _, _, h, _, _, _, _, _, _ => by omega
  | mf + 1, 0, _, _, _, _, h, _, _, _, _, _ => by omega
  | mf + 1, f + 1, i, cs, ns, hmf, hf, hi, hcs, hFL, hF2, hK => by
    cases hw : wtA l 2 4 true i with
    | none =>
      have hcl : clV l (mf + 1) i cs = some (cs, i) := by simp only [clV]; rw [hw]
      exact s_fls hl (by omega) (l.length + 1) (f + 1) i (by omega) hf hi (by simp) (fun _ => hw) (hF2 (cs, i) hcl) (fun q hq => hK (cs, i) q hcl hq)
    | some s =>
      obtain ⟨x, hx, ho, rfl⟩ := wtA_get hw
      have hlt := (List.getElem?_eq_some_iff.1 hx).1
      obtain ⟨t1, t2, t3⟩ := T3 (d := d) (c := (nm, cs, [], df)) (ns := ns) (x := x)
      have h5n : ¬ okA x 2 5 true := fun h => by have := h.2.1; have := ho.2.1; omega
      by_cases h24 : cs.length = 24
      · obtain ⟨k, st', hk, h⟩ := t3 (fun h => h5n h.1) (fun h => h.2.2 h24)
        rw [rn_bad hx h hk]
        refine Ok.some (hFL ?_ _ _ (by omega))
        simp only [clV]
        rw [hw]
        simp only []
        rw [if_pos h24]
      · rw [rn_ok hl hx (t2 ho rfl h24)]
        have hft : clV l (mf + 1) i cs = (numsV l 8 (i + 1) 0).bind fun ns => clV l mf (i + 9) (cs ++ [mkC ns]) := by
          conv => lhs; simp only [clV]
          rw [hw]
          simp only []
          rw [if_neg h24]
        refine s_nums hl (it := 4) (T := 8) (Or.inl ⟨rfl, rfl⟩) (c := (nm, cs, [], df)) (show cs.length ≤ 100 by omega) (by simp) 7 (ns := []) rfl (by omega) (by omega) (fun h => hFL ?_) (fun ms f' hm h2 h3 => ?_)
        · rw [hft]
          have : numsV l 8 (i + 1) 0 = none := h
          rw [this]; rfl
        · have hm' : numsV l 8 (i + 1) 0 = some ms := hm
          obtain ⟨hml, _⟩ := numsV_in hm'
          have hup : up4 (nm, cs, [], df) 4 ([] ++ ms) = ((nm, cs ++ [mkC ms], [], df), 3, 0, ms) := by
            unfold up4
            rw [List.nil_append, if_pos ⟨rfl, hml⟩]
          rw [hup, show i + 1 + (7 + 1) = i + 9 by omega]
          rw [hm'] at hft
          simp only [Option.bind_some] at hft
          refine s_cls hl mf f' (i + 9) (by omega) (by omega) (by omega) (by simp; omega) (fun h => hFL (by rw [hft]; exact h)) (fun p hp => hF2 p (by rw [hft]; exact hp)) (fun p q hp => hK p q (by rw [hft]; exact hp))

theorem s_parse {d : Nat} {l : List At} (hl : l.length ≤ 400) (hsz : ∀ x ∈ l, x.2.2.2.size < 4000000) : Ok (g38 (d + 6) l) fun r => (∀ c, cfV l = some c → r = (c, 0, 0)) ∧ (cfV l = none → r.1 = zC ∧ r.2.2 ≠ 0) := by
  rw [e38]
  change Ok (RN d l fuelN 0 (zC, 0, 0, [])) _
  have fl : cfV l = none → ∀ (j k : Int), k ≠ 0 → (∀ c, cfV l = some c → (zC, j, k) = (c, 0, 0)) ∧ (cfV l = none → (zC, j, k).1 = zC ∧ (zC, j, k).2.2 ≠ 0) := fun h j k hk => ⟨fun c hc => by rw [h] at hc; simp at hc, fun _ => ⟨rfl, hk⟩⟩
  obtain ⟨n, hn⟩ : ∃ n, fuelN = n + 3 := ⟨4194301, fuelN_eq⟩
  have hn2 := fuelN_eq
  rw [hn] at hn2 ⊢
  have finl : ∀ (f i : Nat) (c : Cf) (a it : Int) (ns : List Int), cfV l = none → l[i]? = none → i ≤ l.length → (a < 3 ∨ it > 0) → Ok (RN d l (f + 1) i (c, a, it, ns)) fun r => (∀ c, cfV l = some c → r = (c, 0, 0)) ∧ (cfV l = none → r.1 = zC ∧ r.2.2 ≠ 0) := by
    intro f i c a it ns h hx hi ha
    have := List.getElem?_eq_none_iff.1 hx
    obtain rfl : i = l.length := by omega
    rw [rn_fin, if_pos ha]
    exact Ok.some (fl h _ _ (by decide))
  cases h0 : l[0]? with
  | none =>
    have hw : wtA l 1 1 true 0 = none := by unfold wtA; rw [h0]
    exact finl (n + 2) 0 _ _ _ _ (by unfold cfV; rw [hw]; rfl) h0 (Nat.zero_le _) (Or.inl (by decide))
  | some x0 =>
    have l0 := (List.getElem?_eq_some_iff.1 h0).1
    obtain ⟨a1, a2⟩ := T0 (d := d) (c := zC) (ns := []) (x := x0)
    by_cases ho : okA x0 1 1 true
    case neg =>
      rw [rn_bad h0 (a2 ho) (by decide)]
      exact Ok.some (fl (by unfold cfV; rw [wtA_none h0 ho]; rfl) _ _ (by decide))
    have w0 := wtA_some h0 ho
    rw [rn_ok hl h0 (a1 ho)]
    cases h1 : l[1]? with
    | none =>
      have hw : wtA l 2 2 false 1 = none := by unfold wtA; rw [h1]
      exact finl (n + 1) 1 _ _ _ _ (by unfold cfV; rw [w0]; simp only [Option.bind_some]; rw [hw]; rfl) h1 (by omega) (Or.inl (by decide))
    | some x1 =>
      have l1 := (List.getElem?_eq_some_iff.1 h1).1
      obtain ⟨b1, b2⟩ := T1 (d := d) (c := zC) (ns := []) (x := x1) (hsz x1 (List.mem_iff_getElem?.2 ⟨1, h1⟩))
      by_cases ho1 : okA x1 2 2 false ∧ nmB x1.2.2.2 = true
      case neg =>
        obtain ⟨k, st', hk, h⟩ := b2 ho1
        rw [rn_bad h1 h hk]
        refine Ok.some (fl ?_ _ _ (by omega))
        unfold cfV; rw [w0]; simp only [Option.bind_some]
        by_cases hoo : okA x1 2 2 false
        · rw [wtA_some h1 hoo]; simp only [Option.bind_some]; rw [if_neg (fun h => ho1 ⟨hoo, h⟩)]
        · rw [wtA_none h1 hoo]; rfl
      have w1 := wtA_some h1 ho1.1
      rw [rn_ok hl h1 (b1 ho1.1 ho1.2)]
      cases h2 : l[2]? with
      | none =>
        have hw : nbA l 2 3 2 = none := by unfold nbA wtA; rw [h2]; rfl
        exact finl n 2 _ _ _ _ (by unfold cfV; rw [w0]; simp only [Option.bind_some]; rw [w1]; simp only [Option.bind_some]; rw [if_pos ho1.2, hw]; rfl) h2 (by omega) (Or.inl (by decide))
      | some x2 =>
        have l2 := (List.getElem?_eq_some_iff.1 h2).1
        obtain ⟨c1, c2⟩ := T2 (d := d) (c := (x1.2.2.2, zC.2)) (ns := []) (x := x2)
        by_cases ho2 : okA x2 2 3 false ∧ rdO x2.2.2.2 ≠ none
        case neg =>
          obtain ⟨k, st', hk, h⟩ := c2 ho2
          rw [rn_bad h2 h hk]
          refine Ok.some (fl ?_ _ _ (by omega))
          unfold cfV; rw [w0]; simp only [Option.bind_some]; rw [w1]; simp only [Option.bind_some]; rw [if_pos ho1.2, nb_none h2 ho2]; rfl
        obtain ⟨df, hdf⟩ : ∃ n, rdO x2.2.2.2 = some n := Option.ne_none_iff_exists'.1 ho2.2
        rw [rn_ok hl h2 (c1 df ho2.1 hdf)]
        have ec : cfV l = (clV l (l.length + 1) 3 []).bind fun p => (ftV l (l.length + 1) p.2 []).bind fun q => if q.2 < l.length then none else some (x1.2.2.2, p.1, q.1, df) := by
          unfold cfV; rw [w0]; simp only [Option.bind_some]; rw [w1]; simp only [Option.bind_some]; rw [if_pos ho1.2, nb_some h2 ho2.1 hdf]; rfl
        change Ok (RN d l n 3 ((x1.2.2.2, [], [], df), 3, 0, [])) _
        refine s_cls hl (l.length + 1) n 3 (by omega) (by omega) (by omega) (by simp) (fun h => fl (by rw [ec, h]; rfl)) (fun p hp hq => fl (by rw [ec, hp]; simp only [Option.bind_some]; rw [hq]; rfl)) (fun p q hp hq => ?_)
        have ec2 : cfV l = if q.2 < l.length then none else some (x1.2.2.2, p.1, q.1, df) := by rw [ec, hp]; simp only [Option.bind_some]; rw [hq]; rfl
        by_cases hlt : q.2 < l.length
        · rw [if_pos hlt] at ec2 ⊢
          exact fl ec2
        · rw [if_neg hlt] at ec2 ⊢
          exact ⟨fun c hc => by rw [ec2] at hc; injection hc with hc; rw [hc], fun h => by rw [ec2] at h; simp at h⟩

theorem q_sAttrsConfig {d : Nat} {l : List At} (hl : l.length < 4194304) : g14 (d + 7) l = some (acV l) := by
  rw [e14, q_tvGood hl, ob_s]
  unfold acV
  cases h : atsOk l with
  | false => rfl
  | true =>
    have hl4 := at_len h
    have hsz : ∀ x ∈ l, x.2.2.2.size < 4000000 := fun x hx => by
      obtain ⟨j, hj⟩ := List.mem_iff_getElem?.1 hx
      have hg := h
      unfold atsOk at hg
      simp only [Bool.and_eq_true] at hg
      have := goodL_all hg.1 hj
      unfold atOk1 at this
      simp only [Bool.and_eq_true, decide_eq_true_eq] at this
      omega
    rw [Bool.not_true, oif_f]
    obtain ⟨r, h1, h2, h3⟩ := s_parse (d := d) hl4 hsz
    rw [h1, ob_s]
    simp only [if_true]
    cases hc : cfV l with
    | none =>
      obtain ⟨e1, e2⟩ := h3 hc
      rw [e1, show (r.2.2 == 0) = false by rw [beq_eq_false_iff_ne]; exact e2]
    | some c =>
      rw [h2 c hc]; rfl

/-- How many classes and filters there can be. -/
theorem clV_len {l : List At} : ∀ (f a : Nat) {acc : List Cl8} {p : List Cl8 × Nat}, clV l f a acc = some p → acc.length ≤ 24 → p.1.length ≤ 24
  | 0, a, acc, p, h, ha => by simp [clV] at h; rw [← h]; exact ha
  | f + 1, a, acc, p, h, ha => by
    simp only [clV] at h
    cases hw : wtA l 2 4 true a with
    | none => rw [hw] at h; simp only [Option.some.injEq] at h; rw [← h]; exact ha
    | some s =>
      rw [hw] at h
      simp only at h
      split at h
      · simp at h
      · cases hn : numsV l 8 (a + 1) 0 with
        | none => rw [hn] at h; simp at h
        | some ns =>
          rw [hn] at h
          simp only [Option.bind_some] at h
          exact clV_len f _ h (by simp; omega)

theorem ftV_len {l : List At} : ∀ (f a : Nat) {acc : List Fl5} {p : List Fl5 × Nat}, ftV l f a acc = some p → acc.length ≤ 16 → p.1.length ≤ 16
  | 0, a, acc, p, h, ha => by simp [ftV] at h; rw [← h]; exact ha
  | f + 1, a, acc, p, h, ha => by
    simp only [ftV] at h
    cases hw : wtA l 2 5 true a with
    | none => rw [hw] at h; simp only [Option.some.injEq] at h; rw [← h]; exact ha
    | some s =>
      rw [hw] at h
      simp only at h
      split at h
      · simp at h
      · cases hn : numsV l 5 (a + 1) 0 with
        | none => rw [hn] at h; simp at h
        | some ns =>
          rw [hn] at h
          simp only [Option.bind_some] at h
          exact ftV_len f _ h (by simp; omega)

theorem acV_len {l : List At} : (acV l).1.2.1.length ≤ 24 ∧ (acV l).1.2.2.1.length ≤ 16 := by
  unfold acV
  split
  · cases hc : cfV l with
    | none => simp [zC]
    | some c =>
      simp only
      unfold cfV at hc
      cases h0 : wtA l 1 1 true 0 with
      | none => rw [h0] at hc; simp at hc
      | some s0 =>
      rw [h0] at hc
      simp only [Option.bind_some] at hc
      cases h1 : wtA l 2 2 false 1 with
      | none => rw [h1] at hc; simp at hc
      | some nm =>
      rw [h1] at hc
      simp only [Option.bind_some] at hc
      split at hc
      · cases h2 : nbA l 2 3 2 with
        | none => rw [h2] at hc; simp at hc
        | some n =>
        rw [h2] at hc
        simp only [Option.bind_some] at hc
        cases h3 : clV l (l.length + 1) 3 [] with
        | none => rw [h3] at hc; simp at hc
        | some p =>
        rw [h3] at hc
        simp only [Option.bind_some] at hc
        cases h4 : ftV l (l.length + 1) p.2 [] with
        | none => rw [h4] at hc; simp at hc
        | some q =>
        rw [h4] at hc
        simp only [Option.bind_some] at hc
        split at hc
        · simp at hc
        · injection hc with hc
          rw [← hc]
          exact ⟨clV_len _ _ h3 (by simp), ftV_len _ _ h4 (by simp)⟩
      · simp at hc
  · simp [zC]

/-- Sizes, copies, comparisons, marks. -/
theorem p_szAttrS {d : Nat} {l : List At} (hl : l.length ≤ 9223372036854775807) : Ok (g13 (d + 2) l 1048576) fun r => r < 0 ∨ l.length ≤ 1048576 := by
  rw [e13, wr (n := (1048576 : Int) - ((l.length : Nat) : Int)) (by omega) (by omega)]
  by_cases h : (1048576 : Int) - ((l.length : Nat) : Int) < 0
  · rw [decide_eq_true h, oif_t]; exact Ok.some (Or.inl (by decide))
  rw [decide_eq_false h, oif_f]
  refine iter_ok (fun k (st : Int × Int × Int) => ∃ i : Nat, i + k = l.length ∧ st.2.2 = (i : Int)) ?_ _ l.length _ (by rw [fuelN_eq]; omega) ⟨0, by omega, rfl⟩
  rintro k ⟨a, b, i'⟩ ag ⟨i, h1, h2⟩ hag
  simp only at h2
  subst h2
  simp only [l13_0, l13_0_b]
  by_cases hi : i < l.length
  · have hx := List.getElem?_eq_getElem hi
    rw [decide_eq_true (show (i : Int) < ((l.length : Nat) : Int) by omega), oif_t, nn, oif_t, ofNat_toNat, hx, ob_s, e36, wr1 (by omega)]
    by_cases hs : IntKind.i64.wrap (a - (((l[i]).2.2.2.size : Nat) : Int)) < 0
    · rw [decide_eq_true hs, oif_t, ob_s, decide_eq_true (by decide), oif_t]; exact Ok.some (Or.inl (by decide))
    · rw [decide_eq_false hs, oif_f, ob_s, decide_eq_false hs, oif_f]
      exact hag (k - 1) _ (by omega) ⟨i + 1, by omega, rfl⟩
  · rw [decide_eq_false (show ¬ (i : Int) < ((l.length : Nat) : Int) by omega), oif_f]
    exact Ok.some (Or.inr (by omega))

theorem set_next {α : Type} {l : List α} {z x : α} {k : Nat} (hx : l[k]? = some x) : (l.take k ++ List.replicate (l.length - k) z).set k x = l.take (k + 1) ++ List.replicate (l.length - (k + 1)) z := by
  have hk := (List.getElem?_eq_some_iff.1 hx).1
  have e := (List.getElem?_eq_some_iff.1 hx).2
  have hl : (l.take k).length = k := by rw [List.length_take]; omega
  rw [List.set_append_right _ _ (by omega), hl, Nat.sub_self, show l.length - k = (l.length - (k + 1)) + 1 by omega, List.replicate_succ, List.set_cons_zero, List.take_succ_eq_append_getElem hk, e]
  simp

theorem q_toAttrS {d : Nat} {l : List At} (hl : l.length ≤ 1048576) : g15 (d + 2) l = some l := by
  rw [e15, nn, oif_t, oif_t, ofNat_toNat, show (Nat.ble l.length l.length && Nat.ble (l.length * 40) roomMax) = true by rw [Bool.and_eq_true, Nat.ble_eq, Nat.ble_eq]; unfold roomMax; omega, oif_t]
  refine Ok.val (iter_ok (fun j (s : Int × List At) => ∃ k : Nat, k + j = l.length ∧ s.1 = (k : Int) ∧ s.2 = l.take k ++ List.replicate (l.length - k) ((0, 0, false, (⟨#[]⟩ : ByteArray)) : At)) ?_ _ l.length _ (by rw [fuelN_eq]; omega) ⟨0, by omega, rfl, by simp⟩)
  rintro j ⟨n, r⟩ ag ⟨k, hk, h1, h2⟩ hag
  simp only at h1 h2
  subst h1
  have hrl : r.length = l.length := by rw [h2]; simp; omega
  simp only [l15_0, l15_0_b]
  rcases Nat.lt_or_ge k l.length with hlt | hge
  · have hx := List.getElem?_eq_getElem hlt
    rw [ltl hx, oif_t, nn, oif_t, ofNat_toNat, hx, ob_s, e39, ob_s, oif_t, blt_of (by omega), oif_t, List.getElem?_eq_getElem (by omega), ob_s, wr1 (by omega)]
    exact hag (j - 1) _ (by omega) ⟨k + 1, by omega, rfl, by rw [h2]; exact set_next hx⟩
  · have : k = l.length := by omega
    subst this
    rw [ltn, oif_f]
    unfold j15_0
    exact Ok.some (by rw [h2]; simp)

theorem q_eqAttrS {d : Nat} {l : List At} (hl : l.length ≤ 1048576) : g18 (d + 2) l l = some true := by
  rw [e18, bne_self_eq_false, oif_f]
  refine (range_eq (fun (t : Bool) (i : Int) => (t, i)) l (fun x i t k => k t) (j18_0 (d + 1)) ?_ ?_ (by rw [fuelN_eq]; omega) false).trans ?_
  · intro ag t i x hx
    have hi := (List.getElem?_eq_some_iff.1 hx).1
    simp only [l18_0, l18_0_b, ltl hx, nn, ofNat_toNat, hx, ob_s, oif_t]
    rw [e44]
    simp only [bne_self_eq_false, oif_f, beq_self_eq_true, Bool.not_true, ob_s]
    rw [wr1 (by omega)]
  · intro ag t; simp only [l18_0, l18_0_b, ltn, oif_f]
  · rw [rangeR_fold (f := fun _ _ t => t)]; rfl

theorem q_eqClassS {d : Nat} {l : List Cl8} (hl : l.length ≤ 1000) : g42 (d + 2) l l = some true := by
  rw [e42, bne_self_eq_false, oif_f]
  refine (range_eq (fun (t : Bool) (i : Int) => (t, i)) l (fun x i t k => k t) (j42_0 (d + 1)) ?_ ?_ (by rw [fuelN_eq]; omega) false).trans ?_
  · intro ag t i x hx
    have hi := (List.getElem?_eq_some_iff.1 hx).1
    simp only [l42_0, l42_0_b, ltl hx, nn, ofNat_toNat, hx, ob_s, oif_t]
    rw [e12]
    simp only [bne_self_eq_false, oif_f, Bool.not_true, ob_s]
    rw [wr1 (by omega)]
  · intro ag t; simp only [l42_0, l42_0_b, ltn, oif_f]
  · rw [rangeR_fold (f := fun _ _ t => t)]; rfl

theorem q_eqFilterS {d : Nat} {l : List Fl5} (hl : l.length ≤ 1000) : g43 (d + 2) l l = some true := by
  rw [e43, bne_self_eq_false, oif_f]
  refine (range_eq (fun (t : Bool) (i : Int) => (t, i)) l (fun x i t k => k t) (j43_0 (d + 1)) ?_ ?_ (by rw [fuelN_eq]; omega) false).trans ?_
  · intro ag t i x hx
    have hi := (List.getElem?_eq_some_iff.1 hx).1
    simp only [l43_0, l43_0_b, ltl hx, nn, ofNat_toNat, hx, ob_s, oif_t]
    rw [e8]
    simp only [bne_self_eq_false, oif_f, Bool.not_true, ob_s]
    rw [wr1 (by omega)]
  · intro ag t; simp only [l43_0, l43_0_b, ltn, oif_f]
  · rw [rangeR_fold (f := fun _ _ t => t)]; rfl

theorem q_eqConfig {d : Nat} {c : Cf} (h1 : c.2.1.length ≤ 1000) (h2 : c.2.2.1.length ≤ 1000) : g17 (d + 3) c c = some true := by
  rw [e17, beq_self_eq_true, Bool.not_true, oif_f, q_eqClassS h1, ob_s, Bool.not_true, oif_f, q_eqFilterS h2, ob_s, Bool.not_true, oif_f, bne_self_eq_false, oif_f]

theorem p_markText {d : Nat} {n : Int} (h1 : n ≤ 100000000) : Ok (g45 (d + 1) n) fun _ => True := by
  rw [e45]
  refine Ok.oif (fun _ => Ok.some trivial) (fun h => ?_)
  simp only [decide_eq_false_iff_not] at h
  refine iter_ok (fun k (st : Int × ByteArray) => st.1 < 10 ^ k ∧ 0 ≤ st.1 ∧ st.2.size + k ≤ 20 ∧ st.1 ≤ 100000000) ?_ _ 9 _ (by rw [fuelN_eq]; omega) ⟨by simp only; omega, by simp only; omega, by show (⟨#[]⟩ : ByteArray).size + 9 ≤ 20; decide, h1⟩
  rintro k ⟨n, s⟩ ag ⟨h1, h2, h3, hb⟩ hag
  simp only at h1 h2 h3 hb
  simp only [l45_0, l45_0_b]
  refine Ok.oif (fun h => ?_) (fun _ => ?_)
  · simp only [decide_eq_true_eq] at h
    have hst : ∀ z : Int, (strL [z]).size = 1 := fun z => by rw [strL_len]; rfl
    cases k with
    | zero => simp at h1; omega
    | succ k =>
      rw [room2 (by rw [hst]; omega), Int.tdiv_eq_ediv_of_nonneg h2]
      have h10 : n < 10 ^ k * 10 := by rw [← Int.pow_succ]; exact h1
      have hq : n / 10 < 10 ^ k := by omega
      rw [wr (by omega) (by omega)]
      exact hag k _ (by omega) ⟨hq, by simp only; omega, by rw [ByteArray.size_append, hst]; omega, by simp only; omega⟩
  · unfold j45_0
    rw [room2 (by show 1 + s.size ≤ _; omega)]
    exact Ok.some trivial

theorem p_markAttrS {d : Nat} {l : List At} (hl : l.length ≤ 1048576) : Ok (g19 (d + 2) l 1) fun r => 0 ≤ r.1 := by
  rw [e19]
  refine iter_ok (fun k (st : Int × Int × List At) => ∃ i : Nat, i + k = l.length ∧ st.2.1 = (i : Int) ∧ st.2.2.length = l.length ∧ st.1 = ((1 + 4 * i : Nat) : Int)) ?_ _ l.length _ (by rw [fuelN_eq]; omega) ⟨0, by omega, rfl, rfl, rfl⟩
  rintro k ⟨a, i', r⟩ ag ⟨i, h1, h2, h3, h4⟩ hag
  simp only at h2 h3 h4
  subst h2 h4
  simp only [l19_0, l19_0_b, ofNat_toNat, nn, oif_t]
  by_cases hi : i < l.length
  · have hir : i < r.length := by omega
    rw [decide_eq_true (show (i : Int) < ((r.length : Nat) : Int) by omega), oif_t, blt_of hir, oif_t, List.getElem?_eq_getElem hir, ob_s]
    simp only [List.length_set, List.set_set, List.getElem?_set_self hir, ob_s, blt_of hir, oif_t]
    rw [wr1 (by omega), wr1 (by omega), wr1 (by omega), wr1 (by omega), wr1 (by omega)]
    refine Ok.bind (p_markText (d := d) (by omega)) fun q _ => ?_
    exact hag (k - 1) _ (by omega) ⟨i + 1, by omega, rfl, by simp; exact h3, by simp only; omega⟩
  · rw [decide_eq_false (show ¬ (i : Int) < ((r.length : Nat) : Int) by omega), oif_f]
    exact Ok.some (by simp only; omega)

def mC (k : Nat) : Cl8 := ((k : Int), ((k + 1 : Nat) : Int), ((k + 1 + 1 : Nat) : Int), ((k + 1 + 1 + 1 : Nat) : Int), ((k + 1 + 1 + 1 + 1 : Nat) : Int), ((k + 1 + 1 + 1 + 1 + 1 : Nat) : Int), ((k + 1 + 1 + 1 + 1 + 1 + 1 : Nat) : Int), ((k + 1 + 1 + 1 + 1 + 1 + 1 + 1 : Nat) : Int))

def mF (k : Nat) : Fl5 := ((k : Int), ((k + 1 : Nat) : Int), ((k + 1 + 1 : Nat) : Int), ((k + 1 + 1 + 1 : Nat) : Int), ((k + 1 + 1 + 1 + 1 : Nat) : Int))

def mCs : Nat → Nat → List Cl8
  | _, 0 => []
  | k, n + 1 => mC k :: mCs (k + 1 + 1 + 1 + 1 + 1 + 1 + 1 + 1) n

def mFs : Nat → Nat → List Fl5
  | _, 0 => []
  | k, n + 1 => mF k :: mFs (k + 1 + 1 + 1 + 1 + 1) n

theorem set_mid {α : Type} {p r : List α} {x y : α} : (p ++ x :: r).set p.length y = p ++ y :: r := by
  rw [List.set_append_right _ _ (Nat.le_refl _), Nat.sub_self, List.set_cons_zero]

theorem mark_c {d : Nat} : ∀ (r : List Cl8) {p : List Cl8} {k fuel : Nat}, r.length < fuel → p.length + r.length ≤ 1000 → k + 8 * r.length ≤ 100000 →
    iterP (l46_0 d (j46_0 d)) fuel ((k : Int), ((p.length : Nat) : Int), p ++ r) = some (((k + 8 * r.length : Nat) : Int), p ++ mCs k r.length)
  | _, p, k, 0, h, _, _ => by omega
  | [], p, k, fuel + 1, h, h2, h3 => by
    simp only [iterP, l46_0, l46_0_b]
    rw [List.append_nil, ltn, oif_f]
    unfold j46_0
    simp [mCs]
  | x :: r, p, k, fuel + 1, h, h2, h3 => by
    simp only [List.length_cons] at h h2 h3
    have hlt : p.length < (p ++ x :: r).length := by simp
    have hg : (p ++ x :: r)[p.length]? = some x := by simp
    simp only [iterP, l46_0, l46_0_b, ofNat_toNat, nn, oif_t]
    rw [decide_eq_true (show ((p.length : Nat) : Int) < (((p ++ x :: r).length : Nat) : Int) by omega), oif_t, blt_of hlt, oif_t, hg, ob_s]
    simp only [List.length_set, List.set_set, List.getElem?_set_self hlt, ob_s, blt_of hlt, oif_t]
    rw [set_mid, wr1 (by omega), wr1 (by omega), wr1 (by omega), wr1 (by omega), wr1 (by omega), wr1 (by omega), wr1 (by omega), wr1 (by omega), wr1 (by omega)]
    have := mark_c (d := d) r (p := p ++ [mC k]) (k := k + 1 + 1 + 1 + 1 + 1 + 1 + 1 + 1) (fuel := fuel) (by omega) (by simp; omega) (by omega)
    rw [List.length_append, show (p ++ [mC k]) ++ r = p ++ mC k :: r by simp] at this
    simp only [List.length_cons, List.length_nil, mCs]
    rw [show k + 8 * (r.length + 1) = k + 1 + 1 + 1 + 1 + 1 + 1 + 1 + 1 + 8 * r.length by omega, show p ++ mC k :: mCs (k + 1 + 1 + 1 + 1 + 1 + 1 + 1 + 1) r.length = (p ++ [mC k]) ++ mCs (k + 1 + 1 + 1 + 1 + 1 + 1 + 1 + 1) r.length by simp]
    exact this

theorem held_c {d : Nat} {l : List Cl8} : ∀ (n : Nat) {p : List Cl8} {k fuel : Nat}, l = p ++ mCs k n → n < fuel → p.length + n ≤ 1000 → k + 8 * n ≤ 100000 →
    iterP (l48_0 d l (j48_0 d)) fuel ((k : Int), 0, ((p.length : Nat) : Int)) = some ((k + 8 * n : Nat) : Int)
  | n, p, k, 0, _, h, _, _ => by omega
  | 0, p, k, fuel + 1, e, h, h2, h3 => by
    simp only [mCs, List.append_nil] at e
    subst e
    simp only [iterP, l48_0, l48_0_b]
    rw [ltn, oif_f]
    unfold j48_0
    simp
  | n + 1, p, k, fuel + 1, e, h, h2, h3 => by
    have hg : l[p.length]? = some (mC k) := by rw [e]; simp [mCs]
    have hlt := (List.getElem?_eq_some_iff.1 hg).1
    simp only [iterP, l48_0, l48_0_b, ofNat_toNat, nn, oif_t]
    rw [decide_eq_true (show ((p.length : Nat) : Int) < ((l.length : Nat) : Int) by omega), oif_t, hg]
    simp only [ob_s]
    rw [wr1 (by omega), wr1 (by omega), wr1 (by omega), wr1 (by omega), wr1 (by omega), wr1 (by omega), wr1 (by omega), wr1 (by omega), wr1 (by omega)]
    unfold mC
    simp only [bne_self_eq_false, oif_f]
    have := held_c (d := d) (l := l) n (p := p ++ [mC k]) (k := k + 1 + 1 + 1 + 1 + 1 + 1 + 1 + 1) (fuel := fuel) (by rw [e]; simp [mCs]) (by omega) (by simp; omega) (by omega)
    rw [List.length_append] at this
    simp only [List.length_cons, List.length_nil] at this
    rw [show k + 8 * (n + 1) = k + 1 + 1 + 1 + 1 + 1 + 1 + 1 + 1 + 8 * n by omega]
    exact this

theorem mark_f {d : Nat} : ∀ (r : List Fl5) {p : List Fl5} {k fuel : Nat}, r.length < fuel → p.length + r.length ≤ 1000 → k + 5 * r.length ≤ 100000 →
    iterP (l47_0 d (j47_0 d)) fuel ((k : Int), ((p.length : Nat) : Int), p ++ r) = some (((k + 5 * r.length : Nat) : Int), p ++ mFs k r.length)
  | _, p, k, 0, h, _, _ => by omega
  | [], p, k, fuel + 1, h, h2, h3 => by
    simp only [iterP, l47_0, l47_0_b]
    rw [List.append_nil, ltn, oif_f]
    unfold j47_0
    simp [mFs]
  | x :: r, p, k, fuel + 1, h, h2, h3 => by
    simp only [List.length_cons] at h h2 h3
    have hlt : p.length < (p ++ x :: r).length := by simp
    have hg : (p ++ x :: r)[p.length]? = some x := by simp
    simp only [iterP, l47_0, l47_0_b, ofNat_toNat, nn, oif_t]
    rw [decide_eq_true (show ((p.length : Nat) : Int) < (((p ++ x :: r).length : Nat) : Int) by omega), oif_t, blt_of hlt, oif_t, hg, ob_s]
    simp only [List.length_set, List.set_set, List.getElem?_set_self hlt, ob_s, blt_of hlt, oif_t]
    rw [set_mid, wr1 (by omega), wr1 (by omega), wr1 (by omega), wr1 (by omega), wr1 (by omega), wr1 (by omega)]
    have := mark_f (d := d) r (p := p ++ [mF k]) (k := k + 1 + 1 + 1 + 1 + 1) (fuel := fuel) (by omega) (by simp; omega) (by omega)
    rw [List.length_append, show (p ++ [mF k]) ++ r = p ++ mF k :: r by simp] at this
    simp only [List.length_cons, List.length_nil, mFs]
    rw [show k + 5 * (r.length + 1) = k + 1 + 1 + 1 + 1 + 1 + 5 * r.length by omega, show p ++ mF k :: mFs (k + 1 + 1 + 1 + 1 + 1) r.length = (p ++ [mF k]) ++ mFs (k + 1 + 1 + 1 + 1 + 1) r.length by simp]
    exact this

theorem held_f {d : Nat} {l : List Fl5} : ∀ (n : Nat) {p : List Fl5} {k fuel : Nat}, l = p ++ mFs k n → n < fuel → p.length + n ≤ 1000 → k + 5 * n ≤ 100000 →
    iterP (l49_0 d l (j49_0 d)) fuel ((k : Int), 0, ((p.length : Nat) : Int)) = some ((k + 5 * n : Nat) : Int)
  | n, p, k, 0, _, h, _, _ => by omega
  | 0, p, k, fuel + 1, e, h, h2, h3 => by
    simp only [mFs, List.append_nil] at e
    subst e
    simp only [iterP, l49_0, l49_0_b]
    rw [ltn, oif_f]
    unfold j49_0
    simp
  | n + 1, p, k, fuel + 1, e, h, h2, h3 => by
    have hg : l[p.length]? = some (mF k) := by rw [e]; simp [mFs]
    have hlt := (List.getElem?_eq_some_iff.1 hg).1
    simp only [iterP, l49_0, l49_0_b, ofNat_toNat, nn, oif_t]
    rw [decide_eq_true (show ((p.length : Nat) : Int) < ((l.length : Nat) : Int) by omega), oif_t, hg]
    simp only [ob_s]
    rw [wr1 (by omega), wr1 (by omega), wr1 (by omega), wr1 (by omega), wr1 (by omega), wr1 (by omega)]
    unfold mF
    simp only [bne_self_eq_false, oif_f]
    have := held_f (d := d) (l := l) n (p := p ++ [mF k]) (k := k + 1 + 1 + 1 + 1 + 1) (fuel := fuel) (by rw [e]; simp [mFs]) (by omega) (by simp; omega) (by omega)
    rw [List.length_append] at this
    simp only [List.length_cons, List.length_nil] at this
    rw [show k + 5 * (n + 1) = k + 1 + 1 + 1 + 1 + 1 + 5 * n by omega]
    exact this

theorem q_mark {d : Nat} {cs : List Cl8} {fs : List Fl5} {nm : ByteArray} {df : Int} (h1 : cs.length ≤ 24) (h2 : fs.length ≤ 16) : ∃ k : Nat, g46 (d + 1) cs 1 = some (((1 + 8 * cs.length : Nat) : Int), mCs 1 cs.length) ∧ g47 (d + 1) fs ((1 + 8 * cs.length : Nat) : Int) = some ((k : Int), mFs (1 + 8 * cs.length) fs.length) ∧ g21 (d + 2) (nm, mCs 1 cs.length, mFs (1 + 8 * cs.length) fs.length, df) 1 = some (k : Int) := by
  refine ⟨1 + 8 * cs.length + 5 * fs.length, ?_, ?_, ?_⟩
  · rw [e46]
    exact mark_c cs (p := []) (k := 1) (by rw [fuelN_eq]; omega) (by simp; omega) (by omega)
  · rw [e47]
    exact mark_f fs (p := []) (k := 1 + 8 * cs.length) (by rw [fuelN_eq]; omega) (by simp; omega) (by omega)
  · rw [e21, e48]
    simp only []
    rw [show iterP (l48_0 d (mCs 1 cs.length) (j48_0 d)) fuelN (1, 0, 0) = some ((1 + 8 * cs.length : Nat) : Int) from held_c cs.length (p := []) (k := 1) rfl (by rw [fuelN_eq]; omega) (by simp; omega) (by omega), ob_s, decide_eq_false (by omega), oif_f, e49]
    rw [show iterP (l49_0 d (mFs (1 + 8 * cs.length) fs.length) (j49_0 d)) fuelN (((1 + 8 * cs.length : Nat) : Int), 0, 0) = some ((1 + 8 * cs.length + 5 * fs.length : Nat) : Int) from held_f fs.length (p := []) (k := 1 + 8 * cs.length) rfl (by rw [fuelN_eq]; omega) (by simp; omega) (by omega), ob_s, decide_eq_false (by omega), oif_f]

theorem law_main {d : Nat} {l : List At} (h0 : l.length ≤ 9223372036854775807) : g5 (d + 9) l = some true := by
  rw [show d + 9 = (d + 7) + 2 from rfl, e5]
  obtain ⟨r, hr, hB⟩ := p_szAttrS (d := d + 6) h0
  rw [show d + 7 + 1 = d + 6 + 2 from rfl, hr, ob_s]
  by_cases h : r < 0
  · rw [decide_eq_true h, oif_t]
  have hl : l.length ≤ 1048576 := by rcases hB with hB | hB; exact absurd hB h; exact hB
  obtain ⟨e1, e2⟩ := acV_len (l := l)
  obtain ⟨m, hm, hm0⟩ := p_markAttrS (d := d + 6) hl
  obtain ⟨k, k1, k2, k3⟩ := q_mark (d := d + 6) (cs := (acV l).1.2.1) (fs := (acV l).1.2.2.1) (nm := (acV l).1.1) (df := (acV l).1.2.2.2) e1 e2
  have hA : g16 (d + 6 + 2) l = some (acV l) := by rw [show d + 6 + 2 = (d + 1) + 7 by omega]; exact q_AttrsConfig
  have hS : g14 (d + 6 + 2) l = some (acV l) := by rw [show d + 6 + 2 = (d + 1) + 7 by omega]; exact q_sAttrsConfig (by omega)
  have hC : g17 (d + 6 + 2) (acV l).1 (acV l).1 = some true := by rw [show d + 6 + 2 = (d + 5) + 3 by omega]; exact q_eqConfig (by omega) (by omega)
  rw [decide_eq_false h, oif_f, q_toAttrS hl, ob_s, hS, ob_s, ob_s, hA, ob_s, hC, ob_s, beq_self_eq_true]
  simp only [Bool.not_true, oif_f]
  unfold j5_2
  rw [oif_f, show d + 7 + 1 = d + 6 + 2 from rfl, q_toAttrS hl, ob_s, q_eqAttrS hl, ob_s, Bool.not_true, oif_f, hm, ob_s, decide_eq_false (by omega), oif_f, hC, ob_s, beq_self_eq_true]
  simp only [Bool.not_true, oif_f]
  unfold j5_1
  rw [oif_f, show d + 7 = d + 6 + 1 from rfl, k1, ob_s]
  simp only []
  rw [k2, ob_s]
  simp only []
  rw [show d + 6 + 1 + 1 = d + 6 + 2 from rfl, k3, ob_s, decide_eq_false (by omega), oif_f, bne_self_eq_false, oif_f, q_toAttrS hl, ob_s, hA, ob_s, hC, ob_s, beq_self_eq_true]
  simp only [Bool.not_true, oif_f]
  unfold j5_0
  rw [oif_f, show d + 6 + 1 + 1 = d + 6 + 2 from rfl]
  simp only []
  rw [k3, ob_s, decide_eq_false (by omega), oif_f, bne_self_eq_false, oif_f]

def tysLaw : List Ty := [.sl (.pair (.int .i64) (.pair (.int .i64) (.pair .bool .str)))]

theorem lawAny : LawAny Tryd.prog pvAnn (9) 5 tysLaw :=
  ⟨rfl, rfl, rfl, fun a h => by
    have hf := h ⟨.sl (.pair (.int .i64) (.pair (.int .i64) (.pair .bool .str))), a⟩ (List.Mem.head _)
    exact ⟨true, law_main (d := 0) hf.1, rfl⟩⟩

end Go.Proofs.YtpjlbjkeekobnaaDoor
