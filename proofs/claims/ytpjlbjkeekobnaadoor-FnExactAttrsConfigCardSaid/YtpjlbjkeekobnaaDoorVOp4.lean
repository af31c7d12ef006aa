/-
  Parts of slices, slices put together, built-in functions.
  Conditions: the state is a good one.
-/
import Derived.Test.YtpjlbjkeekobnaaDoorVOp3
set_option linter.all false
namespace Go.Pv
open Go.Ev

theorem All2.one {α β : Type} {R : α → β → Prop} {a : α} {l : List β} (h : All2 R [a] l) : ∃ v, l = [v] ∧ R a v := by
  match l, h with
  | [v], h => exact ⟨v, rfl, h.1⟩
theorem All2.two {α β : Type} {R : α → β → Prop} {a b : α} {l : List β} (h : All2 R [a, b] l) : ∃ v w, l = [v, w] ∧ R a v ∧ R b w := by
  match l, h with
  | [v, w], h => exact ⟨v, w, rfl, h.1, h.2.1⟩

theorem ble_of {a b : Nat} (h : a ≤ b) : Nat.ble a b = true := Nat.ble_eq_true_of_le h
theorem of_ble {a b : Nat} (h : Nat.ble a b = true) : a ≤ b := Nat.le_of_ble_eq_true h

theorem Rep.part {N : Nat → Prop} {H : Heap} {t : Ty} {x : List t.T} {v : Value} (r : Rep N H (.sl t) x [v]) {a : Option Addr} {n c : Nat} (hv : v = .slice a n c) {l h : Nat} (h1 : l ≤ h) (h2 : h ≤ n) {size : Nat} (hsz : t.size = size) :
    ∃ a' c', sliceV a n c l h size = some (.slice a' (h - l) c') ∧ Rep N H (.sl t) ((x.take h).drop l) [.slice a' (h - l) c'] := by
  subst hsz
  unfold Rep at r
  rcases r with ⟨rfl, e1⟩ | ⟨rfl, z, oo, e1⟩ | ⟨z, oo, k, e1, hn, hk, hle, hi⟩
  · simp at e1; rw [e1] at hv; injection hv with a1 a2 a3; subst a1 a2 a3
    obtain rfl : h = 0 := by omega
    obtain rfl : l = 0 := by omega
    exact ⟨none, 0, by simp [sliceV, oif], by unfold Rep; exact .inl ⟨by simp, rfl⟩⟩
  · simp at e1; rw [e1] at hv; injection hv with a1 a2 a3; subst a1 a2 a3
    obtain rfl : h = 0 := by omega
    obtain rfl : l = 0 := by omega
    refine ⟨some ⟨z, oo + 0 * t.size, none⟩, t.size, ?_, ?_⟩
    · unfold sliceV; simp only [ble_of (Nat.le_refl 0), Nat.beq_refl, Bool.and_self, oif]
    · unfold Rep; exact .inr (.inl ⟨by simp, _, _, rfl⟩)
  · simp at e1; rw [e1] at hv; injection hv with a1 a2 a3; subst a1 a2 a3
    refine ⟨some ⟨z, oo + l * t.size, none⟩, t.size, ?_, ?_⟩
    · unfold sliceV; simp only [ble_of h1, ble_of h2, Nat.beq_refl, Bool.and_self, oif]
    · have hlen : ((x.take h).drop l).length = h - l := by simp; omega
      unfold Rep
      refine .inr (.inr ⟨z, oo + l * t.size, k, by rw [hlen], hn, hk, ?_, fun i hi' => ?_⟩)
      · have := Nat.mul_le_mul_right t.size (show l + ((x.take h).drop l).length ≤ x.length by rw [hlen]; omega)
        rw [Nat.add_mul] at this; omega
      · have := hi (l + i) (by rw [hlen] at hi'; omega)
        rw [Nat.add_mul, ← Nat.add_assoc] at this
        simpa using this

theorem RowC.part {K : Nat → Prop} {H : Heap} {lim : Nat} {t : Ty} {x : List t.T} {v : Value} (r : RowC K H lim t x v) {l h : Nat} (h1 : l ≤ h) (h2 : h ≤ x.length) {v' : Value}
    (hv : (v = .slice none 0 0 ∧ v' = .slice none 0 0) ∨ ∃ z oo, v = .slice (some ⟨z, oo, none⟩) x.length t.size ∧ v' = .slice (some ⟨z, oo + l * t.size, none⟩) (h - l) t.size) : RowC K H lim t ((x.take h).drop l) v' := by
  rcases r with ⟨rfl, rfl⟩ | ⟨z, o, k, rfl, g1, g2, g3, g4, g5, g6⟩
  · rcases hv with ⟨_, rfl⟩ | ⟨z, oo, e, _⟩
    · exact .inl ⟨by simp, rfl⟩
    · simp at e
  · rcases hv with ⟨e, _⟩ | ⟨z', oo, e, rfl⟩
    · simp at e
    · injection e with e _ _; injection e with e; injection e with e1 e2 _; subst e1 e2
      have hlen : ((x.take h).drop l).length = h - l := by simp; omega
      have hm := Nat.mul_le_mul_right t.size (show l + ((x.take h).drop l).length ≤ x.length by rw [hlen]; omega)
      rw [Nat.add_mul] at hm
      refine .inr ⟨z, o + l * t.size, k, by rw [hlen], g1, g2, g3, g4, g5.sub hm, fun i hi => ?_⟩
      have := g6 (l + i) (by rw [hlen] at hi; omega)
      rw [Nat.add_mul, ← Nat.add_assoc] at this
      simpa using this

section
variable {A : AnnV} {β γ : Type} {s : S} {env : PEnv} {e : Env} {X : CxV A β} {XE : Cx} {o : Oper} {KV : PV → LS → Option β} {KE : Value → Heap → Option γ} {r : β} {Q : γ → Prop}

theorem pbound_sim {δ ε : Type} (he : EnvR s env e) {x : Option Operand} {d : Nat} {K : Option Nat → Option δ} {K' : Nat → Option ε} {q : δ} {Q' : ε → Prop} (h : pboundOr env x K = some q) (hk : ∀ n, K n = some q → ∃ y, K' (n.getD d) = some y ∧ Q' y) : ∃ y, boundOr e x d K' = some y ∧ Q' y := by
  unfold pboundOr at h; unfold boundOr
  split at h
  · exact hk none h
  · replace h := ob h; obtain ⟨p, h1, h⟩ := h
    obtain ⟨v, e1, r1⟩ := pev_rel he h1
    simp only [e1, obind]
    exact pNat_sim r1 h (fun n h => hk (some n) h)

/-- What is between the bounds of a part. -/
theorem psl_bounds {δ : Type} {b : Bool} {x : Option δ} {q : δ} (h : oif b x none = some q) : b = true ∧ x = some q := by
  unfold oif at h; split at h
  · exact ⟨rfl, h⟩
  · simp at h

theorem psl_sim (hs : StR s) {p : PV} {v : Value} (hr : ER s p v) {lo hi : Option Nat} (hK : KOk s r KV KE Q) (h : (psl s.L p lo hi fun u => KV u s.L) = some r) {size : Nat} (hsz : ∀ n, vop.esz s.L p = some n → n = size) :
    ∃ a n c, v = .slice a n c ∧ ∃ y, (obind (sliceV a n c (lo.getD 0) (hi.getD n) size) fun u => vSl u fun a n c => KE (.slice a n c) s.H) = some y ∧ Q y := by
  unfold psl at h
  split at h
  · obtain rfl : v = _ := hr
    refine ⟨none, 0, 0, rfl, ?_⟩
    have key : ∀ l h', l ≤ h' → h' ≤ 0 → KV .nil s.L = some r → ∃ y, (obind (sliceV none 0 0 l h' size) fun u => vSl u fun a n c => KE (.slice a n c) s.H) = some y ∧ Q y := by
      intro l h' h1 h2 h
      obtain rfl : h' = 0 := by omega
      obtain rfl : l = 0 := by omega
      have : sliceV none 0 0 0 0 size = some (.slice none 0 0) := by simp [sliceV, oif]
      rw [this]; exact hK.here hs (p := .nil) rfl h
    split at h
    · exact key 0 0 (Nat.le_refl _) (Nat.le_refl _) h
    · obtain ⟨a1, a2⟩ := psl_bounds h; exact key _ 0 (of_ble a1) (Nat.le_refl _) a2
    · obtain ⟨a1, a2⟩ := psl_bounds h; exact key 0 _ (Nat.zero_le _) (of_ble a1) a2
    · obtain ⟨a1, a2⟩ := psl_bounds h; simp only [Bool.and_eq_true] at a1; exact key _ _ (of_ble a1.1) (of_ble a1.2) a2
  · rename_i st t x
    have hr : Rep (s.NN st) s.H (.sl t) x [v] := hr
    obtain ⟨a, c, rfl⟩ : ∃ a c, v = .slice a x.length c := by
      have hr' := hr
      unfold Rep at hr'
      rcases hr' with ⟨rfl, e1⟩ | ⟨rfl, _, _, e1⟩ | ⟨_, _, _, e1, _⟩ <;> (simp at e1; subst e1; exact ⟨_, _, rfl⟩)
    refine ⟨a, x.length, c, rfl, ?_⟩
    have hsz' : t.size = size := hsz _ rfl
    have key : ∀ l h', l ≤ h' → h' ≤ x.length → KV (.ro st t ((x.take h').drop l)) s.L = some r → ∃ y, (obind (sliceV a x.length c l h' size) fun u => vSl u fun a n c => KE (.slice a n c) s.H) = some y ∧ Q y := by
      intro l h' h1 h2 h
      obtain ⟨a', c', g1, g2⟩ := Rep.part hr rfl h1 h2 hsz'
      rw [g1]; exact hK.here hs (p := .ro st t _) g2 h
    split at h
    · exact key 0 x.length (Nat.zero_le _) (Nat.le_refl _) (by simpa using h)
    · obtain ⟨a1, a2⟩ := psl_bounds h; exact key _ _ (of_ble a1) (Nat.le_refl _) (by simpa using a2)
    · obtain ⟨a1, a2⟩ := psl_bounds h; exact key 0 _ (Nat.zero_le _) (of_ble a1) (by simpa using a2)
    · obtain ⟨a1, a2⟩ := psl_bounds h; simp only [Bool.and_eq_true] at a1; exact key _ _ (of_ble a1.1) (of_ble a1.2) a2
  · rename_i b i ver t x
    obtain ⟨hlb, hsl, hval⟩ : LR0 s (.rw b i ver t x) v := hr
    have hsz' : t.size = size := hsz _ rfl
    subst hsz'
    rcases hsl with ⟨e0, rfl⟩ | ⟨z, oo, rfl⟩
    · have hx : x = [] := List.length_eq_zero_iff.1 e0
      subst hx
      refine ⟨none, 0, 0, rfl, ?_⟩
      have key : ∀ l h', l ≤ h' → h' ≤ 0 → KV (.rw b i ver t (([] : List t.T).take h' |>.drop l)) s.L = some r → ∃ y, (obind (sliceV none 0 0 l h' t.size) fun u => vSl u fun a n c => KE (.slice a n c) s.H) = some y ∧ Q y := by
        intro l h' h1 h2 h
        obtain rfl : h' = 0 := by omega
        obtain rfl : l = 0 := by omega
        have : sliceV none 0 0 0 0 t.size = some (.slice none 0 0) := by simp [sliceV, oif]
        rw [this]
        refine hK.here hs (p := .rw b i ver t _) (ER.of0 (p := .rw b i ver t _) ⟨hlb, .inl ⟨by simp, rfl⟩, fun B hB => ⟨(hval B hB).1, fun e => ⟨((hval B hB).2 e).1, .inl ⟨by simp, rfl⟩, by simpa using ((hval B hB).2 e).2.2⟩⟩⟩) h
      split at h
      · exact key 0 0 (Nat.le_refl _) (Nat.le_refl _) h
      · obtain ⟨a1, a2⟩ := psl_bounds h; exact key _ 0 (of_ble a1) (Nat.le_refl _) (by simpa using a2)
      · obtain ⟨a1, a2⟩ := psl_bounds h; exact key 0 _ (Nat.zero_le _) (of_ble a1) (by simpa using a2)
      · obtain ⟨a1, a2⟩ := psl_bounds h; simp only [Bool.and_eq_true] at a1; exact key _ _ (of_ble a1.1) (of_ble a1.2) a2
    · refine ⟨_, x.length, t.size, rfl, ?_⟩
      have key : ∀ l h', l ≤ h' → h' ≤ x.length → KV (.rw b i ver t ((x.take h').drop l)) s.L = some r → ∃ y, (obind (sliceV (some ⟨z, oo, none⟩) x.length t.size l h' t.size) fun u => vSl u fun a n c => KE (.slice a n c) s.H) = some y ∧ Q y := by
        intro l h' h1 h2 h
        have hv : sliceV (some ⟨z, oo, none⟩) x.length t.size l h' t.size = some (.slice (some ⟨z, oo + l * t.size, none⟩) (h' - l) t.size) := by
          unfold sliceV; simp only [ble_of h1, ble_of h2, Nat.beq_refl, Bool.and_self, oif]
        rw [hv]
        have hlen : ((x.take h').drop l).length = h' - l := by simp; omega
        refine hK.here hs (p := .rw b i ver t _) (ER.of0 (p := .rw b i ver t _) ⟨hlb, .inr ⟨z, oo + l * t.size, by rw [hlen]⟩, fun B hB => ⟨(hval B hB).1, fun e => ⟨((hval B hB).2 e).1, ((hval B hB).2 e).2.1.part h1 h2 (.inr ⟨z, oo, rfl, rfl⟩), fun B2 e2 xs2 hh2 m2 k2 g1 g2 g3 g4 y gy => (by
          obtain ⟨w1, w2⟩ := ((hval B hB).2 e).2.2 B2 e2 xs2 hh2 m2 k2 g1 g2 g3 g4 y gy
          refine ⟨by rw [hlen]; omega, fun e3 => ?_⟩
          rw [hlen] at e3
          obtain rfl : l = 0 := by omega
          have : h' = x.length := by omega
          subst this
          rw [w2 (by omega), Nat.zero_mul, Nat.add_zero, Nat.sub_zero])⟩⟩⟩) h
      split at h
      · exact key 0 x.length (Nat.zero_le _) (Nat.le_refl _) (by simpa using h)
      · obtain ⟨a1, a2⟩ := psl_bounds h; exact key _ _ (of_ble a1) (Nat.le_refl _) (by simpa using a2)
      · obtain ⟨a1, a2⟩ := psl_bounds h; exact key 0 _ (Nat.zero_le _) (of_ble a1) (by simpa using a2)
      · obtain ⟨a1, a2⟩ := psl_bounds h; simp only [Bool.and_eq_true] at a1; exact key _ _ (of_ble a1.1) (of_ble a1.2) a2
  · rename_i b off n
    split at h
    rotate_left
    · simp at h
    rename_i ver rw u xs hb
    replace h := ob h; obtain ⟨m, h1, h⟩ := h
    have hr : LR0 s (.osl b off n) v := hr
    have hr0 := hr
    obtain ⟨a, c, rfl⟩ := plen_rel hs (ER.of0 hr) h1
    refine ⟨a, m, c, rfl, ?_⟩
    obtain ⟨hlb, hr⟩ := hr
    cases hm : s.μ b with
    | none =>
      rw [hm] at hr; obtain ⟨rfl, h5, e5⟩ := hr
      injection e5 with e5 e6 e7; subst e5 e6 e7
      have key : ∀ l h' q, l ≤ h' → h' ≤ 0 → (q = PV.osl b (0 + l) none ∨ ∃ w, q = .osl b (0 + l) (some w) ∧ w = 0) → KV q s.L = some r → ∃ y, (obind (sliceV none 0 0 l h' size) fun u => vSl u fun a n c => KE (.slice a n c) s.H) = some y ∧ Q y := by
        intro l h' q h1 h2 hq h
        obtain rfl : h' = 0 := by omega
        obtain rfl : l = 0 := by omega
        have : sliceV none 0 0 0 0 size = some (.slice none 0 0) := by simp [sliceV, oif]
        rw [this]
        refine hK.here hs (p := q) ?_ h
        rcases hq with rfl | ⟨w, rfl, rfl⟩
        · exact ⟨hlb, by rw [hm]; simp⟩
        · exact ⟨hlb, by rw [hm]; simp⟩
      split at h
      · refine key 0 0 (.osl b 0 n) (Nat.le_refl _) (Nat.le_refl _) ?_ h
        cases n with
        | none => left; rfl
        | some w => right; exact ⟨w, rfl, by simpa using h5⟩
      · obtain ⟨a1, a2⟩ := psl_bounds h
        refine key _ 0 _ (of_ble a1) (Nat.le_refl _) ?_ a2
        cases n with
        | none => left; rfl
        | some w => right; exact ⟨_, rfl, by simp at h5; omega⟩
      · obtain ⟨a1, a2⟩ := psl_bounds h
        exact key 0 _ _ (Nat.zero_le _) (of_ble a1) (.inr ⟨_, rfl, by have := of_ble a1; omega⟩) a2
      · obtain ⟨a1, a2⟩ := psl_bounds h; simp only [Bool.and_eq_true] at a1
        exact key _ _ _ (of_ble a1.1) (of_ble a1.2) (.inr ⟨_, rfl, by have := of_ble a1.2; omega⟩) a2
    | some mb =>
      rw [hm] at hr; obtain ⟨g1, e5⟩ := hr
      injection e5 with e5 e6 e7; subst e5 e6 e7
      have hes : mb.es = size := by
        obtain ⟨a1, _⟩ := arr_info hs hb hm
        rw [a1]; exact hsz _ (by simp only [vop.esz, hb])
      have key : ∀ l h' q, l ≤ h' → h' ≤ n.getD (mb.n - off) → (q = PV.osl b (off + l) (some (h' - l)) ∨ (q = .osl b (off + l) none ∧ n = none ∧ h' = mb.n - off)) → KV q s.L = some r → ∃ y, (obind (sliceV (some ⟨mb.z, mb.sh + off * mb.es, none⟩) (n.getD (mb.n - off)) mb.es l h' size) fun u => vSl u fun a n c => KE (.slice a n c) s.H) = some y ∧ Q y := by
        intro l h' q h1 h2 hq h
        have : sliceV (some ⟨mb.z, mb.sh + off * mb.es, none⟩) (n.getD (mb.n - off)) mb.es l h' size = some (.slice (some ⟨mb.z, mb.sh + off * mb.es + l * size, none⟩) (h' - l) mb.es) := by
          unfold sliceV; rw [hes]; simp only [ble_of h1, ble_of h2, Nat.beq_refl, Bool.and_self, oif]
        rw [this]
        refine hK.here hs (p := q) ?_ h
        rcases hq with rfl | ⟨rfl, rfl, rfl⟩
        · refine ⟨hlb, ?_⟩
          rw [hm]
          refine ⟨by simp; omega, ?_⟩
          rw [Nat.add_mul, ← hes, Nat.add_assoc]; rfl
        · refine ⟨hlb, ?_⟩
          rw [hm]
          refine ⟨by simp at g1 ⊢; omega, ?_⟩
          rw [Nat.add_mul, ← hes, Nat.add_assoc]
          simp; omega
      split at h
      · refine key 0 (n.getD (mb.n - off)) (.osl b off n) (Nat.zero_le _) (Nat.le_refl _) ?_ h
        cases n with
        | none => right; exact ⟨rfl, rfl, rfl⟩
        | some w => left; rfl
      · obtain ⟨a1, a2⟩ := psl_bounds h
        refine key _ (n.getD (mb.n - off)) _ (of_ble a1) (Nat.le_refl _) ?_ a2
        cases n with
        | none => right; exact ⟨rfl, rfl, rfl⟩
        | some w => left; rfl
      · obtain ⟨a1, a2⟩ := psl_bounds h
        exact key 0 _ _ (Nat.zero_le _) (of_ble a1) (.inl rfl) a2
      · obtain ⟨a1, a2⟩ := psl_bounds h; simp only [Bool.and_eq_true] at a1
        exact key _ _ _ (of_ble a1.1) (of_ble a1.2) (.inl rfl) a2
  · simp at h

theorem psl_notstr {δ : Type} {s' : ByteArray} {L : LS} {lo hi : Option Nat} {K : PV → Option δ} : psl L (.str s') lo hi K = none := rfl

theorem sim_slice {t : TypeId} {x : Operand} {lo hi : Option Operand} (hP : X.P = XE.P) (ho : o.op = .slice t x lo hi none) (hs : StR s) (he : EnvR s env e) (hK : KOk s r KV KE Q) (h : vop X o env s.L KV = some r) : ∃ y, evOp XE o e s.H KE = some y ∧ Q y := by
  simp only [vop, ho] at h; simp only [evOp, ho]
  replace h := ob h; obtain ⟨p, h1, h⟩ := h
  obtain ⟨v, ev1, r1⟩ := pev_rel he h1
  rw [ev1]; simp only [obind]
  rw [← hP]
  split at h
  · rename_i sx
    obtain rfl : v = .string sx := r1
    simp only
    split at h
    · rename_i hu
      simp only [hu]
      refine pbound_sim he h (fun hh h => pbound_sim he h (fun ll h => ?_))
      obtain ⟨a1, a2⟩ := psl_bounds h
      rw [a1]; simp only [oif]
      exact hK.here hs (p := .str _) rfl a2
    · simp at h
  · rename_i hns
    split at h
    · rename_i el hu
      replace h := ob h; obtain ⟨i, h2, h⟩ := h
      have key : (∀ n, vop.esz s.L p = some n → n = i.size) → (pboundOr env hi fun h => pboundOr env lo fun l => psl s.L p l h fun u => KV u s.L) = some r →
          ∃ y, (match v with
            | .slice a n c => match X.P.underlying t with
              | some (.slice e_1) => obind (X.P.info? e_1) fun i => boundOr e hi n fun h => boundOr e lo 0 fun l => obind (sliceV a n c l h i.size) fun u => vSl u fun a n c => KE (.slice a n c) s.H
              | _ => none
            | .string s_1 => match X.P.underlying t with
              | some .string => boundOr e hi s_1.size fun h => boundOr e lo 0 fun l => oif (Nat.ble l h && Nat.ble h s_1.size) (KE (.string (s_1.extract l h)) s.H) none
              | _ => none
            | _ => none) = some y ∧ Q y := by
        intro hsz h
        obtain ⟨a, n, c, rfl⟩ : ∃ a n c, v = .slice a n c := by
          have : ∃ lo hi, (psl s.L p lo hi fun u => KV u s.L) = some r := by
            unfold pboundOr at h
            split at h
            · split at h
              · exact ⟨_, _, h⟩
              · replace h := ob h; obtain ⟨q, _, h⟩ := h
                unfold pNat at h; split at h
                · obtain ⟨_, h⟩ := psl_bounds h; exact ⟨_, _, h⟩
                · simp at h
            · replace h := ob h; obtain ⟨q, _, h⟩ := h
              unfold pNat at h; split at h
              · obtain ⟨_, h⟩ := psl_bounds h
                split at h
                · exact ⟨_, _, h⟩
                · replace h := ob h; obtain ⟨q, _, h⟩ := h
                  split at h
                  · obtain ⟨_, h⟩ := psl_bounds h; exact ⟨_, _, h⟩
                  · simp at h
              · simp at h
          obtain ⟨lo', hi', h'⟩ := this
          obtain ⟨a, n, c, e1, _⟩ := psl_sim hs r1 hK h' hsz
          exact ⟨a, n, c, e1⟩
        simp only [hu, h2, obind]
        refine pbound_sim he h (fun hh h => pbound_sim he h (fun ll h => ?_))
        obtain ⟨a', n', c', e1, hy⟩ := psl_sim hs r1 hK h hsz
        injection e1 with e1 e2 e3; subst e1 e2 e3
        exact hy
      split at h
      · rename_i n hn
        split at h
        · rename_i hb
          exact key (fun n' h' => by rw [hn] at h'; injection h' with h'; rw [← h']; exact Nat.eq_of_beq_eq_true hb) h
        · simp at h
      · rename_i hn
        exact key (fun n' h' => by rw [hn] at h'; simp at h') h
    · simp at h

/-- The parts of a slice that is put together. -/
theorem parts_sim {u : Ty} : ∀ {ps : List (Nat × PV)} {qs : List (Nat × Value)} {s : S} {xs ys : List u.T} {B : Array Value} {L' : LS}, StR s → All2 (PartR s) ps qs → RL s.N s.H u xs B.toList → partsT u xs ps s.L = some (ys, L') →
    ∃ s' C, s'.L = L' ∧ s'.H = s.H ∧ Keep s s' ∧ StR s' ∧ Instr.fill (fun i => some (i * u.size, u.size)) B qs = some C ∧ RL s'.N s'.H u ys C.toList
  | [], [], s, xs, ys, B, L', hs, _, hr, h => by
    simp [partsT] at h; obtain ⟨rfl, rfl⟩ := h
    exact ⟨s, B, rfl, rfl, Keep.refl s, hs, rfl, hr⟩
  | (i, p) :: ps, (j, v) :: qs, s, xs, ys, B, L', hs, ⟨⟨e1, hv⟩, hp⟩, hr, h => by
    simp only at e1 hv; subst e1
    simp only [partsT] at h
    split at h
    · rename_i hok
      replace h := ob h; obtain ⟨⟨x, L1⟩, h1, h⟩ := h
      replace h := ob h; obtain ⟨zs, h2, h⟩ := h
      have hc := hv.cells hok
      obtain ⟨s1, l1, g1, u1, k1, t1, rr1, o1, _⟩ := refl_fz u hs hc h1
      unfold setAt at h2
      split at h2
      · rename_i hlt
        have hlt := blt_lt hlt
        simp at h2; subst h2
        have hlx := Rep.len _ rr1
        have hm := mul_lt (k := u.size) hlt
        have hsize : B.size = xs.length * u.size := by have := hr.1; simpa using this
        have hvs : v.cells.size = u.size := by simpa using hlx
        have hfold : (Array.foldl (fun cs (x : Value × Nat) => cs.setIfInBounds (i * u.size + x.2) x.1) B v.cells.zipIdx).toList = lay B.toList (i * u.size) v.cells.toList := by
          have := fold_lay (i * u.size) v.cells.toList 0 B (by simp; omega)
          rw [Nat.add_zero] at this
          rw [← Array.foldl_toList]; simpa using this
        have hr1 : RL s1.N s1.H u (xs.set i x) (Array.foldl (fun cs (x : Value × Nat) => cs.setIfInBounds (i * u.size + x.2) x.1) B v.cells.zipIdx).toList := by
          rw [hfold]
          exact (hr.frame (fun z hz hl => ⟨k1.N hl hz, k1.fr z hl hz.1⟩)).set hlt rr1
        simp only at h
        rw [← l1] at h
        have hp1 : All2 (PartR s1) ps qs := All2.mono (fun a b hab => ⟨hab.1, k1.ER hab.2⟩) hp
        obtain ⟨s2, C, l2, g2, k2, t2, f2, rr2⟩ := parts_sim t1 hp1 hr1 h
        refine ⟨s2, C, l2, g2.trans g1, k1.trans k2, t2, ?_, rr2⟩
        simp only [Instr.fill]
        have hcond : ¬ ((decide (v.cells.size ≠ u.size) || decide (i * u.size + v.cells.size > B.size)) = true) := by
          simp only [Bool.or_eq_true, decide_eq_true_eq]; omega
        simp only [hcond, if_false, Bool.false_eq_true]
        exact f2
      · simp at h2
    · simp at h

/-- The rows of a slice that is put together. -/
theorem parts_simR {t : Ty} (hf : t.flat = true) : ∀ {ps : List (Nat × PV)} {qs : List (Nat × Value)} {s : S} {xs ys : List (List t.T)} {B : Array Value} {L' : LS} {Kf : Nat → Option Nat}, StR s → All2 (PartR s) ps qs → (∀ z i, Kf z = some i → s.Lim z ∧ ∃ k, hget s.H z = some k) → B.size = xs.length →
    (∀ i (hi : i < xs.length), ∃ v, B.toList[i]? = some v ∧ RowC (fun z => Kf z = some i) s.H s.lim t xs[i] v) → (∀ v ∈ B.toList, sameLeaf v v = true ∧ isCell v = true) → partsR t xs ps s.L = some (ys, L') →
    ∃ (s' : S) (C : Array Value) (Kf' : Nat → Option Nat), s'.L = L' ∧ s'.H = s.H ∧ Keep s s' ∧ StR s' ∧ Instr.fill (fun i => some (i * 1, 1)) B qs = some C ∧ (∀ z i, Kf' z = some i → s'.Lim z ∧ ∃ k, hget s'.H z = some k) ∧ C.size = xs.length ∧ ys.length = xs.length ∧
      (∀ i (hi : i < ys.length), ∃ v, C.toList[i]? = some v ∧ RowC (fun z => Kf' z = some i) s.H s.lim t ys[i] v) ∧ (∀ v ∈ C.toList, sameLeaf v v = true ∧ isCell v = true)
  | [], [], s, xs, ys, B, L', Kf, hs, _, hK, hB, hr, hp, h => by
    simp [partsR] at h; obtain ⟨rfl, rfl⟩ := h
    exact ⟨s, B, Kf, rfl, rfl, Keep.refl s, hs, rfl, hK, hB, rfl, hr, hp⟩
  | (i, p) :: ps, (j, v) :: qs, s, xs, ys, B, L', Kf, hs, ⟨⟨e1, hv⟩, hpp⟩, hK, hB, hr, hp, h => by
    simp only at e1 hv; subst e1
    simp only [partsR] at h
    replace h := ob h; obtain ⟨⟨x, L1⟩, h1, h⟩ := h
    replace h := ob h; obtain ⟨zs, h2, h⟩ := h
    have hr2 : LR0 s p v := by
      have h4' := h1
      unfold takeO at h4'
      split at h4'
      · exact hv
      · exact hv
      · exact hv
      · simp at h4'
    obtain ⟨s1, l1, g1, u1, k1, t1, q2, lm1, _, al1⟩ := takeO_row hs hf hr2 h1
    unfold setAt at h2
    split at h2
    · rename_i hlt
      have hlt := blt_lt hlt
      simp at h2; subst h2
      have hcell : v.cells.toList = [v] ∧ sameLeaf v v = true ∧ isCell v = true := by
        rcases q2 with ⟨_, rfl⟩ | ⟨_, _, _, rfl, _⟩ <;> exact ⟨rfl, by simp [sameLeaf], rfl⟩
      have hvs : v.cells.size = 1 := by have := congrArg List.length hcell.1; simpa using this
      have hfold : (Array.foldl (fun cs (x : Value × Nat) => cs.setIfInBounds (i * 1 + x.2) x.1) B v.cells.zipIdx).toList = lay B.toList i [v] := by
        have := fold_lay (i * 1) v.cells.toList 0 B (by simp; omega)
        rw [Nat.add_zero, hcell.1, Nat.mul_one] at this
        rw [← Array.foldl_toList]
        have hz : v.cells.zipIdx.toList = [v].zipIdx 0 := by rw [Array.toList_zipIdx, hcell.1]
        rw [hz, Nat.mul_one]; exact this
      let Kf1 : Nat → Option Nat := fun z => @ite _ (s1.Lim z ∧ ¬ s.Lim z) (Classical.propDecidable _) (some i) (Kf z)
      have kf1 : ∀ z, (s1.Lim z ∧ ¬ s.Lim z) → Kf1 z = some i := fun z hz => if_pos hz
      have kf0 : ∀ z, ¬ (s1.Lim z ∧ ¬ s.Lim z) → Kf1 z = Kf z := fun z hz => if_neg hz
      have hlen1 : (Array.foldl (fun cs (x : Value × Nat) => cs.setIfInBounds (i * 1 + x.2) x.1) B v.cells.zipIdx).size = (xs.set i x).length := by
        have := congrArg List.length hfold
        rw [lay_len _ _ _ (by simp; omega)] at this
        simp only [Array.length_toList, List.length_set] at this ⊢; omega
      simp only at h
      rw [← l1] at h
      have hp1 : All2 (PartR s1) ps qs := All2.mono (fun a b hab => ⟨hab.1, k1.ER hab.2⟩) hpp
      obtain ⟨s2, C, Kf2, l2, g2, k2, t2, f2, kk2, hC, hy, rr2, hp2⟩ := parts_simR hf (Kf := Kf1) t1 hp1 (fun z q hq => by
        by_cases hz : s1.Lim z ∧ ¬ s.Lim z
        · rw [g1]; exact ⟨hz.1, al1 z hz.1 hz.2⟩
        · rw [kf0 z hz] at hq; rw [g1]; exact ⟨lm1 z (hK z q hq).1, (hK z q hq).2⟩) hlen1 (fun q hq => by
          rw [hfold, lay1_get _ _ _ (by simp; omega)]
          simp only [List.length_set] at hq
          by_cases hqi : q = i
          · subst hqi
            refine ⟨v, if_pos rfl, ?_⟩
            simp only [List.getElem_set_self]
            rw [k1.lim]; exact q2.mono hf (fun z hz => ⟨kf1 z hz, by rw [g1]⟩)
          · obtain ⟨w, w1, w2⟩ := hr q hq
            refine ⟨w, by rw [if_neg hqi]; exact w1, ?_⟩
            rw [List.getElem_set_ne (by omega), k1.lim]
            exact w2.mono hf (fun z hz => ⟨by rw [kf0 z (fun hc => hc.2 (hK z q hz).1)]; exact hz, by rw [g1]⟩)) (fun w hw => by
          rw [hfold] at hw
          rcases lay_mem hw with hw | hw
          · exact hp w hw
          · simp at hw; subst hw; exact hcell.2) h
      refine ⟨s2, C, Kf2, l2, g2.trans g1, k1.trans k2, t2, ?_, kk2, by rw [hC]; simp, by rw [hy]; simp, fun q hq => ?_, hp2⟩
      · simp only [Instr.fill]
        have hcond : ¬ ((decide (v.cells.size ≠ 1) || decide (i * 1 + v.cells.size > B.size)) = true) := by
          simp only [Bool.or_eq_true, decide_eq_true_eq]; omega
        simp only [hcond, if_false, Bool.false_eq_true]
        exact f2
      · obtain ⟨w, w1, w2⟩ := rr2 q hq
        exact ⟨w, w1, by rw [g1, k1.lim] at w2; exact w2⟩
    · simp at h2

theorem sim_buildSlice {t : TypeId} {len : Nat} {parts : Array (Nat × Operand)} (hP : X.P = XE.P) (ho : o.op = .buildSlice t len parts) (hs : StR s) (he : EnvR s env e) (hK : KOk s r KV KE Q) (h : vop X o env s.L KV = some r) : ∃ y, evOp XE o e s.H KE = some y ∧ Q y := by
  simp only [vop, ho] at h; simp only [evOp, ho]
  replace h := ob h; obtain ⟨ps, h1, h⟩ := h
  replace h := ob h; obtain ⟨⟨el, size, bytes, z⟩, h2, h⟩ := h
  replace h := ob h; obtain ⟨u, h3, h⟩ := h
  obtain ⟨qs, ev1, r1⟩ := pevParts_rel he h1
  rw [ev1, ← hP, h2]; simp only [obind]
  split at h
  · rename_i hle hz hsz
    have hsz := Nat.eq_of_beq_eq_true hsz
    split at h
    · rename_i hown t'
      split at h
      · rename_i hfl
        replace h := ob h; obtain ⟨⟨ys, L1⟩, h4, h⟩ := h
        rw [hle]; simp only
        have hs1 : (1 : Nat) = size := hsz
        subst hs1
        have hz2 := zeroOk_sl hz
        have hcells : (List.replicate len z.cells.toList).flatten = List.replicate len (.slice none 0 0) := by
          rw [hz2]; clear h4
          induction len with
          | zero => rfl
          | succ n ih => rw [List.replicate_succ, List.flatten_cons, List.replicate_succ]; simp
        rw [hcells]
        obtain ⟨s1, C, Kf, l1, g1, k1, t1, f1, kk, hC, hy, rr, hpl⟩ := parts_simR hfl (Kf := fun _ => none) hs r1 (fun z i e => by simp at e) (B := (List.replicate len (Value.slice none 0 0)).toArray) (by simp) (fun i hi => by
          simp only [List.length_replicate] at hi
          exact ⟨.slice none 0 0, by simp [hi], .inl ⟨by simp, rfl⟩⟩) (fun v hv => by
          simp at hv; rw [hv.2]; exact ⟨by simp [sameLeaf], rfl⟩) h4
        rw [f1]; simp only
        have hlys : ys.length = len := by rw [hy]; simp
        have hcl : C.size = len * 1 := by rw [hC]; simp
        have hall : C.toList.all isCell = true := List.all_eq_true.2 (fun v hv => (hpl v hv).2)
        rw [hall, hcl, Nat.beq_refl]
        simp only
        obtain ⟨s2, e1, e2, k2, t2, hr2, _⟩ := t1.pushRows hfl (ys := ys) (vs := C.toList) Kf kk (by simp only [Array.length_toList]; omega) (fun i hi => by
          obtain ⟨v, w1, w2⟩ := rr i hi
          exact ⟨v, w1, by rw [g1, k1.lim]; exact w2⟩) (fun v hv => (hpl v hv).1)
        simp only at h
        have hh : hpush s.H C.toList = s2.H := by rw [e2, g1]
        have hH : s.H.length = s1.H.length := by rw [g1]
        rw [hh, hH]
        rw [← l1, ← e1] at h
        refine hK _ _ s2 (k1.trans k2) t2 (ER.of0 ?_) h
        rw [hlys] at hr2; exact hr2
      · simp at h
    · rename_i u _ _ hne _
      replace h := ob h; obtain ⟨⟨ys, L1⟩, h4, h⟩ := h
      rw [hle]; simp only
      have hr0 : RL s.N s.H u (List.replicate len (zeroT u)) ((List.replicate len z.cells.toList).flatten.toArray).toList := by
        simpa using RL.rep len (zeroOk_rep s hz)
      obtain ⟨s1, C, l1, g1, k1, t1, f1, rr⟩ := parts_sim hs r1 hr0 h4
      rw [hsz] at f1
      rw [f1]; simp only
      have hlys : ys.length = len := by
        have : ∀ {ps : List (Nat × PV)} {xs ys : List u.T} {L L' : LS}, partsT u xs ps L = some (ys, L') → ys.length = xs.length := by
          intro ps
          induction ps with
          | nil => intro xs ys L L' h; simp [partsT] at h; rw [h.1]
          | cons p ps ih =>
            intro xs ys L L' h
            obtain ⟨i, pv⟩ := p
            simp only [partsT] at h
            split at h
            · replace h := ob h; obtain ⟨x, _, h⟩ := h
              replace h := ob h; obtain ⟨zs, hz, h⟩ := h
              unfold setAt at hz; split at hz
              · simp at hz; subst hz; rw [ih h]; simp
              · simp at hz
            · simp at h
        have := this h4; simpa using this
      have hcl : C.size = len * size := by have := rr.1; rw [hlys, hsz] at this; simpa using this
      have hall : C.toList.all isCell = true := by
        refine List.all_eq_true.2 (fun v hv => ?_)
        obtain ⟨i, hi, ei⟩ := List.getElem_of_mem hv
        have hpos := Ty.size_pos u
        have hq : i / u.size < ys.length := by
          rw [Nat.div_lt_iff_lt_mul hpos, ← rr.1]; exact hi
        have := Rep.cell _ (rr.2 _ hq) v
        refine this ?_
        have hmod := Nat.mod_lt i hpos
        have hdm := Nat.div_add_mod i u.size
        refine List.mem_iff_getElem?.2 ⟨i % u.size, ?_⟩
        rw [seg_get, if_pos hmod, show i / u.size * u.size + i % u.size = i by rw [Nat.mul_comm]; exact hdm, List.getElem?_eq_getElem hi, ei]
      rw [hall, hcl, Nat.beq_refl]
      simp only
      obtain ⟨s2, e1, e2, k2, t2, hr2⟩ := push_arr t1 rr
      simp only at h
      have hh : hpush s.H C.toList = s2.H := by rw [e2, g1]
      have hH : s.H.length = s1.H.length := by rw [g1]
      rw [hh, hH]
      rw [← l1, ← e1] at h
      refine hK _ _ s2 (k1.trans k2) t2 (ER.of0 ?_) h
      rw [hlys, hsz] at hr2; exact hr2
  · simp at h

/-- Elements appended. -/
theorem append_sim (hs : StR s) {p : PV} {v : Value} (hr : ER s p v) {u : Ty} {bytes : Nat} {ys : List u.T} {news : List Value} (hn : RL s.N s.H u ys news) (hK : KOk s r KV KE Q) (h : pappend u bytes p ys s.L KV = some r) :
    ∃ y, appendA u.size bytes v news ys.length s.H KE = some y ∧ Q y := by
  unfold pappend at h
  unfold appendA
  split at h
  · obtain rfl : v = _ := hr
    obtain ⟨hroom, h⟩ := psl_bounds h
    cases hl : ys.length with
    | zero =>
      have : ys = [] := List.length_eq_zero_iff.1 hl
      subst this
      simp only [appendV, obind, vSl]
      obtain ⟨s', e1, e2, e3, hk, hs', _⟩ := hs.push0 u
      rw [← e1] at h; rw [← e2]
      refine hK (.osl s.L.bl.length 0 none) _ s' hk hs' (ER.of0 (p := .osl s.L.bl.length 0 none) ⟨by rw [e1, lpush_len]; omega, ?_⟩) h
      rw [e3]; simp
    | succ q =>
      rw [hl] at hroom
      simp only [appendV, hroom, oif, obind, vSl]
      obtain ⟨s', e1, e2, hk, hs', hr'⟩ := push_arr hs hn
      rw [← e1] at h; rw [← e2]
      rw [hl] at hr'
      exact hK _ _ s' hk hs' (ER.of0 hr') h
  · rename_i b off no
    split at h
    · rename_i ver w xs hb
      replace h := ob h; obtain ⟨x, h1, h⟩ := h
      obtain ⟨hroom, h⟩ := psl_bounds h
      have e0 := tcast_eq h1
      injection e0 with e0; subst e0
      have := tcast_self h1; subst this
      have hr : LR0 s (.osl b off no) v := hr
      obtain ⟨hlb, hr⟩ := hr
      cases hm : s.μ b with
      | none =>
        rw [hm] at hr; obtain ⟨rfl, _, rfl⟩ := hr
        have hx := arr_nil hs hb hm; subst hx
        have hcut : cut ([] : List w.T) 0 no = [] := by cases no <;> simp [cut]
        rw [hcut] at h hroom
        obtain ⟨s1, l1, g1, u1, k1, t1, _, _⟩ := hs.kill hb rfl false
        have g1' : s1.H = s.H := g1
        have hn1 : RL s1.N s1.H w ys news := hn.frame (fun z hz hl => ⟨k1.N hl hz, k1.fr z hl hz.1⟩)
        simp only [List.length_nil, Nat.zero_add, List.nil_append] at h hroom
        cases hl : ys.length with
        | zero =>
          have : ys = [] := List.length_eq_zero_iff.1 hl
          subst this
          simp only [appendV, obind, vSl]
          obtain ⟨s', e1, e2, e3, hk, hs', _⟩ := t1.push0 w
          have hlen : s1.L.bl.length = s.L.bl.length := by rw [l1, lkill_len]
          rw [← l1, ← e1] at h; rw [← g1', ← e2]
          refine hK (.osl s.L.bl.length 0 none) _ s' (k1.trans hk) hs' (ER.of0 (p := .osl s.L.bl.length 0 none) ⟨by rw [e1, lpush_len]; omega, ?_⟩) h
          rw [← hlen, e3]; simp
        | succ q =>
          rw [hl] at hroom
          simp only [appendV, hroom, oif, obind, vSl]
          obtain ⟨s', e1, e2, hk, hs', hr'⟩ := push_arr t1 hn1
          have hlen : s1.L.bl.length = s.L.bl.length := by rw [l1, lkill_len]
          rw [← l1, ← e1] at h; rw [← g1', ← e2]
          rw [hl] at hr'
          rw [hlen] at hr'
          exact hK _ _ s' (k1.trans hk) hs' (ER.of0 hr') h
      | some m =>
        rw [hm] at hr; obtain ⟨g0, rfl⟩ := hr
        obtain ⟨a1, a2, k, a3, a4, a5, a6, a7⟩ := arr_info hs hb hm
        obtain ⟨s1, l1, g1, u1, k1, t1, _, _⟩ := hs.kill hb rfl true
        have g1' : s1.H = s.H.set m.z none := by rw [g1, hm]
        have hn1 : RL s1.N s1.H w ys news := hn.frame (fun z hz hl => ⟨k1.N hl hz, k1.fr z hl hz.1⟩)
        have hoff : off ≤ xs.length := by omega
        have hln : no.getD (m.n - off) = (cut xs off no).length := by
          cases no with
          | none => simp [cut]; omega
          | some l => simp [cut] at g0 ⊢; omega
        have hle : no.getD (m.n - off) ≤ (xs.drop off).length := by simp; omega
        have h2 := RL.sub a4 a5 (show off + no.getD (m.n - off) ≤ xs.length by simp at hle; omega)
        have hcutE : (xs.drop off).take (no.getD (m.n - off)) = cut xs off no := by
          cases no with
          | none => simp only [cut, Option.getD_none]; rw [List.take_of_length_le (by simp; omega)]
          | some l => rfl
        rw [hcutE] at h2
        have hcell : (k.cells.drop (m.sh + off * w.size)).take (no.getD (m.n - off) * w.size) = (k.cells.take (m.sh + off * m.es + no.getD (m.n - off) * w.size)).drop (m.sh + off * m.es) := by
          rw [a1, List.drop_take]; congr 1; omega
        rw [hcell] at h2
        have h1' : RL s1.N s1.H w (cut xs off no) ((k.cells.take (m.sh + off * m.es + no.getD (m.n - off) * w.size)).drop (m.sh + off * m.es)) := h2.frame (fun z hz hl => ⟨k1.N hl hz, k1.fr z hl hz.1⟩)
        have hroom' : Nat.ble ((no.getD (m.n - off) + ys.length) * bytes) roomMax = true := by rw [hln]; exact hroom
        have hfull : Nat.ble (m.sh + off * m.es + no.getD (m.n - off) * w.size) k.cells.length = true := by
          refine ble_of ?_
          rw [a1]
          have : (off + no.getD (m.n - off)) * w.size ≤ xs.length * w.size := Nat.mul_le_mul_right _ (by omega)
          rw [Nat.add_mul] at this; omega
        have hes : Nat.beq m.es w.size = true := by rw [a1]; exact Nat.beq_refl _
        simp only [appendV, a3, obind, (a6 rfl).1, hes, hfull, hroom', Bool.not_false, Bool.and_self, oif, vSl]
        obtain ⟨s', e1, e2, hk, hs', hr'⟩ := push_arr t1 (h1'.append hn1)
        have hlen : s1.L.bl.length = s.L.bl.length := by rw [l1, lkill_len]
        have hHl : s1.H.length = s.H.length := by rw [g1']; simp
        rw [← l1, ← e1] at h
        have hfin : (Value.slice (some ⟨s.H.length, 0, none⟩) (no.getD (m.n - off) + ys.length) w.size) = .slice (some ⟨s1.H.length, 0, none⟩) ((cut xs off no) ++ ys).length w.size := by rw [hHl, List.length_append, hln]
        rw [← g1', ← e2]
        refine hK _ _ s' (k1.trans hk) hs' (ER.of0 ?_) h
        rw [hfin, ← hlen]; exact hr'
    · simp at h
  · rename_i b i ver w x0
    split at h
    · rename_i v' t xs hb
      split at h
      · rename_i hv
        have hv := Nat.eq_of_beq_eq_true hv
        replace h := ob h; obtain ⟨x, h1, h⟩ := h
        obtain ⟨hroom, h⟩ := psl_bounds h
        have e0 := tcast_eq h1
        injection e0 with e0; subst e0
        have := tcast_self h1; subst this
        obtain ⟨hlb, _, hval⟩ : LR0 s (.rw b i ver w x0) v := hr
        obtain ⟨hfl, hrow, _⟩ := (hval _ hb).2 hv
        rcases hrow with ⟨rfl, rfl⟩ | ⟨z, oo, k, rfl, q1, q2, q3, q4, q5, q6⟩
        · obtain ⟨s1, l1, g1, u1, k1, t1, lm1, _⟩ := hs.detach (i := i) hb none (fun z h => by simp at h)
          have hn1 : RL s1.N s1.H w ys news := hn.frame (fun z hz hl => ⟨k1.N hl hz, k1.fr z hl hz.1⟩)
          have hlen : s1.L.bl.length = s.L.bl.length := by rw [l1, lset_len]
          simp only [List.length_nil, Nat.zero_add, List.nil_append] at h hroom
          cases hl : ys.length with
          | zero =>
            have : ys = [] := List.length_eq_zero_iff.1 hl
            subst this
            simp only [appendV, obind, vSl]
            obtain ⟨s', e1, e2, e3, hk, hs', _⟩ := t1.push0 w
            rw [← l1, ← e1] at h; rw [← g1, ← e2]
            refine hK (.osl s.L.bl.length 0 none) _ s' (k1.trans hk) hs' (ER.of0 (p := .osl s.L.bl.length 0 none) ⟨by rw [e1, lpush_len]; omega, ?_⟩) h
            rw [← hlen, e3]; simp
          | succ q =>
            rw [hl] at hroom
            simp only [appendV, hroom, oif, obind, vSl]
            obtain ⟨s', e1, e2, hk, hs', hr'⟩ := push_arr t1 hn1
            rw [← l1, ← e1] at h; rw [← g1, ← e2]
            rw [hl] at hr'
            rw [hlen] at hr'
            exact hK _ _ s' (k1.trans hk) hs' (ER.of0 hr') h
        · obtain ⟨s1, l1, g1, u1, k1, t1, lm1, _⟩ := hs.detach (i := i) hb (some z) (fun y h => by injection h with h; subst h; exact q1)
          have hn1 : RL s1.N s1.H w ys news := hn.frame (fun z hz hl => ⟨k1.N hl hz, k1.fr z hl hz.1⟩)
          have hlen : s1.L.bl.length = s.L.bl.length := by rw [l1, lset_len]
          have hz : s1.Lim z := (lm1 z).2 (.inr rfl)
          obtain ⟨s2, l2, g2, u2, k2, t2, _, _⟩ := t1.dropLim hz
          have hn2 : RL s2.N s2.H w ys news := hn1.frame (fun z hz hl => ⟨k2.N hl hz, k2.fr z hl hz.1⟩)
          have h2 : RL s2.N s2.H w x0 ((k.cells.take (oo + x0.length * w.size)).drop oo) := by
            refine ⟨by rw [List.length_drop, List.length_take]; have := q5.1; omega, fun j hj => ?_⟩
            have hm := mul_lt (k := w.size) hj
            have := Rep.flat (M := s2.N) (G := s2.H) w hfl (q6 j hj)
            have e2 : seg ((k.cells.take (oo + x0.length * w.size)).drop oo) (j * w.size) w.size = (k.cells.drop (oo + j * w.size)).take w.size := by
              unfold seg; rw [List.drop_drop, List.drop_take, List.take_take, Nat.min_eq_left (by omega)]
            rw [e2]; exact this
          have hfull : Nat.ble (oo + x0.length * w.size) k.cells.length = true := ble_of q5.1
          simp only [appendV, q2, obind, q3, Nat.beq_refl, hfull, hroom, Bool.not_false, Bool.and_self, oif, vSl]
          obtain ⟨s', e1, e2, hk, hs', hr'⟩ := push_arr t2 (h2.append hn2)
          have hHl : s2.H.length = s.H.length := by rw [g2, g1]; simp
          have hHe : s2.H = s.H.set z none := by rw [g2, g1]
          have hbl : s2.L = lset s.L b ⟨v' + 1, true, .rows t xs (some i)⟩ := by rw [l2, l1]
          rw [← hbl, ← e1] at h
          rw [← hHe, ← e2]
          refine hK _ _ s' ((k1.trans k2).trans hk) hs' (ER.of0 ?_) h
          rw [hHl, List.length_append, l2, hlen] at hr'; exact hr'
      · simp at h
    · simp at h
  · simp at h

/-- Rows taken out of the store. -/
theorem rowsOf_sim (hs : StR s) {t : Ty} {p : PV} {v : Value} (hr : ER s p v) {xs : List (List t.T)} {L' : LS} (h : rowsOf s.L t p = some (xs, L')) :
    t.flat = true ∧ ∃ (s' : S) (cells : List Value) (Kf : Nat → Option Nat), s'.L = L' ∧ s'.H = s.H ∧ Keep s s' ∧ StR s' ∧ (∀ z, s.Lim z → s'.Lim z) ∧ (∀ z i, Kf z = some i → s'.Lim z ∧ ¬ s.Lim z ∧ ∃ k, hget s.H z = some k) ∧ cells.length = xs.length ∧ (∀ w ∈ cells, sameLeaf w w = true) ∧
      (∀ i (hi : i < xs.length), ∃ w, cells[i]? = some w ∧ RowC (fun z => Kf z = some i) s.H s.lim t xs[i] w) ∧
      ((v = .slice none 0 0 ∧ xs = []) ∨ ∃ z o k, v = .slice (some ⟨z, o, none⟩) xs.length 1 ∧ hget s.H z = some k ∧ k.ro = false ∧ o + xs.length ≤ k.cells.length ∧ cells = (k.cells.take (o + xs.length)).drop o ∧ s'.Lim z ∧ Kf z = none ∧ ¬ s.Lim z) := by
  unfold rowsOf at h
  split at h
  · rename_i b
    split at h
    · rename_i ver u xs0 hb
      obtain ⟨x, h1, h⟩ := ob h
      simp at h; obtain ⟨rfl, rfl⟩ := h
      have e0 := tcast_eq h1
      injection e0 with e0; injection e0 with e0; subst e0
      have := tcast_self h1; subst this
      have hr : LR0 s (.osl b 0 none) v := hr
      obtain ⟨hlb, hr⟩ := hr
      obtain ⟨_, hfl, hrow⟩ := rows_info hs hb
      obtain ⟨s', e1, e2, e3, hk, hs', hl, ho, _⟩ := hs.killR hb rfl false
      let Kf : Nat → Option Nat := fun z => match s.Kid z with | some p => if p.1 = b then some p.2 else none | none => none
      have kf1 : ∀ z i, s.Kid z = some (b, i) → Kf z = some i := by intro z i e; simp only [Kf]; rw [e]; simp
      have kf2 : ∀ z i, Kf z = some i → s.Kid z = some (b, i) := by
        intro z i e
        simp only [Kf] at e
        split at e
        · rename_i q hq
          split at e
          · rename_i e1
            injection e with e2
            rw [hq]; congr 1; ext <;> simp_all
          · simp at e
        · simp at e
      have kL : ∀ z i, Kf z = some i → s'.Lim z ∧ ¬ s.Lim z ∧ ∃ k, hget s.H z = some k := fun z i e => ⟨(hl z).2 (.inr (.inr ⟨i, kf2 z i e⟩)), (hs.kl z _ (kf2 z i e)).2.2.1, hs.ka z _ (kf2 z i e)⟩
      refine ⟨hfl, ?_⟩
      rcases hrow with ⟨hm, rfl⟩ | ⟨m, k, hm, a1, a2, a3, a4, a5, a6, a7⟩
      · rw [hm] at hr; obtain ⟨_, _, rfl⟩ := hr
        exact ⟨s', [], Kf, e1, e2, hk, hs', fun z hz => (hl z).2 (.inl hz), kL, rfl, by simp, fun i hi => absurd hi (by simp), .inl ⟨rfl, rfl⟩⟩
      · rw [hm] at hr; obtain ⟨_, rfl⟩ := hr
        have hlc : ((k.cells.take (m.sh + xs0.length)).drop m.sh).length = xs0.length := by rw [List.length_drop, List.length_take]; have := a4.1; omega
        refine ⟨s', (k.cells.take (m.sh + xs0.length)).drop m.sh, Kf, e1, e2, hk, hs', fun z hz => (hl z).2 (.inl hz), kL, hlc, fun w hw => ?_, fun i hi => ?_, .inr ⟨m.z, m.sh, k, by simp [a2, a1], a3, a5, a4.1, rfl, (hl _).2 (.inr (.inl ⟨m, hm, rfl⟩)), ?_, hs.lm b _ m hb hm⟩⟩
        · refine a4.2 w ?_
          rw [List.drop_take] at hw
          exact List.mem_of_mem_take hw
        · obtain ⟨w, w1, w2⟩ := a7 i hi (by simp)
          refine ⟨w, ?_, w2.mono hfl (fun z hz => ⟨kf1 z i hz, rfl⟩)⟩
          rw [List.getElem?_drop, List.getElem?_take_of_lt (by omega)]; exact w1
        · cases e : Kf m.z with
          | none => rfl
          | some i => exact absurd rfl (hs.kid_ne (kf2 _ i e) hb hm)
    · simp at h
  · simp at h

/-- Rows behind rows. -/
theorem appendR_sim (hs : StR s) {p : PV} {v : Value} (hr : ER s p v) {t : Ty} (hf : t.flat = true) {bytes : Nat} {ys : List (List t.T)} {news : List Value} {Kf : Nat → Option Nat} (hK2' : ∀ z i, Kf z = some i → s.Lim z ∧ ∃ k, hget s.H z = some k) (hl : news.length = ys.length) (hp : ∀ w ∈ news, sameLeaf w w = true)
    (hn : ∀ i (hi : i < ys.length), ∃ w, news[i]? = some w ∧ RowC (fun z => Kf z = some i) s.H s.lim t ys[i] w) (hK : KOk s r KV KE Q) (h : pappendR t bytes p ys s.L KV = some r) :
    ∃ y, appendA 1 bytes v news ys.length s.H KE = some y ∧ Q y := by
  have hK2 : ∀ z i, Kf z = some i → s.Lim z := fun z i e => (hK2' z i e).1
  unfold pappendR at h
  unfold appendA
  have nilCase : ∀ (s1 : S), StR s1 → Keep s s1 → s1.H = s.H → s1.L.bl.length = s.L.bl.length → (∀ z, s.Lim z → s1.Lim z) → Nat.ble (ys.length * bytes) roomMax = true → KV (.osl s.L.bl.length 0 none) (lpush s1.L (.rows t ys none)) = some r →
      ∃ y, (obind (appendV 1 bytes (.slice none 0 0) news ys.length s.H) fun r => vSl r.1 fun a n c => KE (.slice a n c) r.2) = some y ∧ Q y := by
    intro s1 t1 k1 g1 hlen hlm hroom h
    cases hl0 : ys.length with
    | zero =>
      have : ys = [] := List.length_eq_zero_iff.1 hl0
      subst this
      simp only [appendV, obind, vSl]
      obtain ⟨s', e1, e2, e3, hk, hs', _⟩ := t1.push0R t hf
      rw [← e1] at h; rw [← g1, ← e2]
      refine hK (.osl s.L.bl.length 0 none) _ s' (k1.trans hk) hs' (ER.of0 (p := .osl s.L.bl.length 0 none) ⟨by rw [e1, lpush_len]; omega, ?_⟩) h
      rw [← hlen, e3]; simp
    | succ q =>
      rw [hl0] at hroom
      simp only [appendV, hroom, oif, obind, vSl]
      obtain ⟨s', e1, e2, hk, hs', hr', _⟩ := t1.pushRows hf Kf (fun z i e => ⟨hlm z (hK2 z i e), by rw [g1]; exact (hK2' z i e).2⟩) hl (fun i hi => by rw [g1, k1.lim]; exact hn i hi) hp
      rw [← e1] at h; rw [← g1, ← e2]
      rw [hl0, hlen] at hr'
      exact hK _ _ s' (k1.trans hk) hs' (ER.of0 hr') h
  split at h
  · obtain rfl : v = _ := hr
    obtain ⟨hroom, h⟩ := psl_bounds h
    exact nilCase s hs (Keep.refl s) rfl rfl (fun _ h => h) hroom h
  · replace h := ob h; obtain ⟨⟨xs, L1⟩, h1, h⟩ := h
    obtain ⟨hroom, h⟩ := psl_bounds h
    obtain ⟨_, s1, cells, Kf1, l1, g1, k1, t1, lm1, kk1, hcl, hcp, hc, hv⟩ := rowsOf_sim hs hr h1
    simp only at h hroom
    have hlen : s1.L.bl.length = s.L.bl.length := by
      rw [l1]
      unfold rowsOf at h1
      split at h1
      · split at h1
        · obtain ⟨x, _, h1⟩ := ob h1
          simp at h1; rw [← h1.2, lkill_len]
        · simp at h1
      · simp at h1
    rw [← l1] at h
    rcases hv with ⟨rfl, rfl⟩ | ⟨z, o, k, rfl, q1, q2, q3, q4, q5, q6, hzn⟩
    · simp only [List.length_nil, Nat.zero_add, List.nil_append] at h hroom
      rw [hlen] at h
      exact nilCase s1 t1 k1 g1 hlen lm1 hroom h
    · obtain ⟨s2, l2, g2, u2, k2, t2, lm2, kd2⟩ := t1.dropLim q5
      have hfull : Nat.ble (o + xs.length * 1) k.cells.length = true := ble_of (by omega)
      simp only [appendV, q1, obind, q2, Nat.beq_refl, hfull, hroom, Bool.not_false, Bool.and_self, oif, vSl]
      let Kf3 : Nat → Option Nat := fun w => match Kf1 w with | some i => some i | none => match Kf w with | some i => if w = z then none else some (xs.length + i) | none => none
      have kz : ∀ w i, Kf w = some i → Kf1 w = none := by
        intro w i e
        cases e1 : Kf1 w with
        | none => rfl
        | some j => exact absurd (hK2 w i e) (kk1 w j e1).2.1
      obtain ⟨s', e1, e2, hk, hs', hr', _⟩ := t2.pushRows hf (ys := xs ++ ys) (vs := cells ++ news) Kf3 (fun w i e => by
        rw [lm2]
        simp only [Kf3] at e
        split at e
        · rename_i j e1
          refine ⟨(kk1 w j e1).1, ?_⟩
          rw [g2, g1, hget_set_ne' (fun e => by rw [← e, q6] at e1; simp at e1)]; exact (kk1 w j e1).2.2
        · split at e
          · rename_i j e1
            refine ⟨lm1 w (hK2 w j e1), ?_⟩
            rw [g2, g1, hget_set_ne' (fun e : z = w => hzn (by rw [e]; exact hK2 w j e1))]; exact (hK2' w j e1).2
          · simp at e) (by simp [hcl, hl]) (fun i hi => by
        rw [g2, g1, k2.lim, k1.lim]
        by_cases hix : i < xs.length
        · obtain ⟨w, w1, w2⟩ := hc i hix
          refine ⟨w, by rw [List.getElem?_append_left (by omega)]; exact w1, ?_⟩
          rw [List.getElem_append_left hix]
          refine w2.mono hf (fun z' hz' => ⟨by simp only [Kf3]; rw [hz'], hget_set_ne' (fun e => ?_)⟩)
          rw [← e, q6] at hz'; simp at hz'
        · simp only [List.length_append] at hi
          obtain ⟨w, w1, w2⟩ := hn (i - xs.length) (by omega)
          refine ⟨w, by rw [List.getElem?_append_right (by omega), hcl]; exact w1, ?_⟩
          rw [List.getElem_append_right (by omega)]
          have hzl : ∀ z', Kf z' = some (i - xs.length) → z' ≠ z := fun z' hz' e => by
            subst e
            exact hzn (hK2 _ _ hz')
          refine w2.mono hf (fun z' hz' => ⟨by simp only [Kf3]; rw [kz z' _ hz', hz']; simp only; rw [if_neg (hzl z' hz')]; congr 1; omega, hget_set_ne' (fun e => hzl z' hz' e.symm)⟩)) (fun w hw => by
        rcases List.mem_append.1 hw with hw | hw
        · exact hcp w hw
        · exact hp w hw)
      have hHl : s2.H.length = s.H.length := by rw [g2, g1]; simp
      have hHe : s2.H = s.H.set z none := by rw [g2, g1]
      rw [← l2, ← e1] at h
      rw [Nat.mul_one, ← q4, ← hHe, ← e2]
      refine hK _ _ s' ((k1.trans k2).trans hk) hs' (ER.of0 ?_) h
      rw [hHl, List.length_append] at hr'; exact hr'

/-- What is copied, as the first interpreter has it. -/
theorem copySrc_rel (hs : StR s) {p : PV} {v : Value} (hr : ER s p v) {w : Ty} {ys : List w.T} (h : copySrc s.L p w = some ys) :
    ((∃ a n c, v = .slice a n c) ∨ ∃ q, v = .string q) ∧ ∃ cells, RL s.N s.H w ys cells ∧ ∀ lim n (a : Addr), copyV lim w.size a n v s.H = obind (hstoreN s.H lim a (cells.take (min ys.length n * w.size))) fun H' => some (min ys.length n, H') := by
  have key : ∀ hnr : (∀ u, w = Ty.sl u → isRows s.L p = false), content s.L p w = some ys → ((∃ a n c, v = .slice a n c) ∨ ∃ q, v = .string q) ∧ ∃ cells, RL s.N s.H w ys cells ∧ ∀ lim n (a : Addr), copyV lim w.size a n v s.H = obind (hstoreN s.H lim a (cells.take (min ys.length n * w.size))) fun H' => some (min ys.length n, H') := by
    intro hnr h
    obtain ⟨cells, a, c, rfl, hsc, hrl⟩ := content_cells hs hr h hnr
    refine ⟨.inl ⟨_, _, _, rfl⟩, cells, hrl, fun lim n b => ?_⟩
    unfold sliceCells at hsc
    split at hsc
    · rename_i e
      simp only [Value.slice.injEq] at e
      obtain ⟨rfl, e2, rfl⟩ := e
      simp at hsc; subst hsc
      rw [e2]; simp [copyV]
    · rename_i a' n' c' e
      simp only [Value.slice.injEq] at e
      obtain ⟨rfl, rfl, rfl⟩ := e
      simp only [copyV]
      have : hload0 s.H a' (min ys.length n * w.size) = some (cells.take (min ys.length n * w.size)) := by
        have hle : min ys.length n * w.size ≤ ys.length * w.size := Nat.mul_le_mul_right _ (Nat.min_le_left _ _)
        cases hm : ys.length * w.size with
        | zero =>
          have h0 : min ys.length n * w.size = 0 := by omega
          rw [h0]; simp [hload0]
        | succ q =>
          rw [hm] at hsc
          simp only [hload0, hloadN] at hsc
          obtain ⟨k, hk, hx⟩ := obind_some hsc
          split at hx
          · rename_i hb
            have hb := Nat.le_of_ble_eq_true hb
            simp at hx; subst hx
            cases hq : min ys.length n * w.size with
            | zero => simp [hload0]
            | succ q' =>
              simp only [hload0, hloadN, hk, obind]
              have : Nat.ble (a'.off + (q' + 1)) k.cells.length = true := Nat.ble_eq_true_of_le (by omega)
              rw [this]
              simp only [List.take_take]
              rw [Nat.min_eq_left (by omega)]
          · simp at hx
      rw [this]; rfl
    · simp at hsc
  unfold copySrc at h
  split at h
  · rename_i q
    obtain rfl : v = .string q := hr
    split at h
    · simp at h; subst h
      refine ⟨.inr ⟨_, rfl⟩, _, RL.bytes q.data.toList, fun lim n a => ?_⟩
      have hl : (bytesL q).length = q.size := by simp [bytesL]
      have hc : ((q.data.toList.map fun b => Value.int .u8 (b.toNat : Int))).length = q.size := by simp
      simp only [copyV, Ty.size, Nat.mul_one, hl]
      congr 1
      have : (List.map (fun b => Value.int IntKind.u8 ↑b.toNat) q.data.toList).take n = (List.map (fun b => Value.int IntKind.u8 ↑b.toNat) q.data.toList).take (min q.size n) := by
        rw [← hc, Nat.min_comm, ← List.take_take, List.take_length]
      rw [this]
    · simp at h
  · split at h
    · simp at h
    · rename_i hnr
      exact key (fun _ _ => hnr) h

/-- Elements copied over others. -/
theorem RL.cpy {N : Nat → Prop} {H : Heap} {t : Ty} {xs ys : List t.T} {c d : List Value} (h : RL N H t xs c) (g : RL N H t ys d) {off m : Nat} (hm : off + m ≤ xs.length) :
    RL N H t (Pv.cpy xs off m ys) (lay c (off * t.size) (d.take (min ys.length m * t.size))) := by
  have e1 := (h.take off (by omega))
  have e2 := g.take (min ys.length m) (Nat.min_le_left _ _)
  have e3 := h.drop (off + min ys.length m) (by omega)
  have := (e1.append e2).append e3
  have ex : Pv.cpy xs off m ys = xs.take off ++ ys.take (min ys.length m) ++ xs.drop (off + min ys.length m) := by
    unfold Pv.cpy
    have : ys.take m = ys.take (min ys.length m) := by
      rw [Nat.min_comm, ← List.take_take, List.take_length]
    rw [this]
  have ec : lay c (off * t.size) (d.take (min ys.length m * t.size)) = c.take (off * t.size) ++ d.take (min ys.length m * t.size) ++ c.drop ((off + min ys.length m) * t.size) := by
    unfold lay
    have hl : (d.take (min ys.length m * t.size)).length = min ys.length m * t.size := by
      have : min ys.length m * t.size ≤ ys.length * t.size := Nat.mul_le_mul_right _ (Nat.min_le_left _ _)
      rw [List.length_take, g.1]; omega
    rw [hl, Nat.add_mul]
  rw [ex, ec]; exact this

theorem copy_sim (hlim : XE.lim = s.lim) (hs : StR s) {b off : Nat} {no : Option Nat} {v w' : Value} (hr : ER s (.osl b off no) v) {src : PV} (hr2 : ER s src w') {w : Ty} {ys : List w.T} {m : Nat} {ver : Nat} {u : Ty} {xs : List u.T} {x : List w.T}
    (h1 : copySrc s.L src w = some ys) (h2 : plen s.L (.osl b off no) = some m) (h3 : lget s.L b = some ⟨ver, true, .arr u xs⟩) (h4 : tcast (.sl u) (.sl w) xs = some x)
    (hK : KOk s r KV KE Q) (h : KV (.int .i64 ((min ys.length m : Nat) : Int)) (lset s.L b ⟨ver + 1, true, .arr w (cpy x off m ys)⟩) = some r) {P : Program} {t t2 : TypeId} {e : TypeId × Nat × Nat × Value} (he : elemOf? P t = some e) (hsz : e.2.1 = w.size) :
    ∃ y, callBuiltin P XE.lim .copy [t, t2] [v, w'] s.H KE = some y ∧ Q y := by
  obtain ⟨hsv, cells, hrl, hcv⟩ := copySrc_rel hs hr2 h1
  have hu : u = w := by have := tcast_eq h4; injection this
  subst hu
  obtain rfl := tcast_self h4
  obtain ⟨hlb, hr⟩ := hr
  obtain ⟨e0, size, bytes, z⟩ := e
  simp only at hsz; subst hsz
  cases hm : s.μ b with
  | none =>
    rw [hm] at hr
    obtain ⟨r1, r2, rfl⟩ := hr
    have hB := hs.blk b _ h3
    unfold BR at hB; simp only [hm] at hB
    subst hB
    have hm0 : m = 0 := by
      unfold plen at h2
      cases no with
      | some n => simp at r2 h2; omega
      | none => simp only [h3, r1] at h2; simp at h2; omega
    subst hm0
    have hc : cpy ([] : List u.T) off 0 ys = [] := by simp [cpy]
    rw [hc] at h
    obtain ⟨s', e1, e2, e3, k2, t2'⟩ := hs.set0 h3 rfl hm ⟨ver + 1, true, .arr u []⟩ rfl rfl (by
      intro s' hm'
      unfold BR; simp only [hm'])
    have hy := hK (.int .i64 0) (.int .i64 0) s' k2 t2' rfl (by rw [e1]; simpa using h)
    rw [e2] at hy
    rcases hsv with ⟨a, n, c, rfl⟩ | ⟨q, rfl⟩
    · simpa only [callBuiltin, he, obind] using hy
    · simpa only [callBuiltin, he, obind] using hy
  | some mb =>
    rw [hm] at hr
    obtain ⟨r1, rfl⟩ := hr
    obtain ⟨a1, a2, k, a3, a4, a5, a6, a7⟩ := arr_info hs h3 hm
    have hmm : m = no.getD (mb.n - off) := by
      unfold plen at h2
      cases no with
      | some n => simp at h2 ⊢; exact h2.symm
      | none =>
        simp only [h3] at h2
        simp at h2 ⊢; omega
    have hle : off + m ≤ xs.length := by rw [hmm, ← a2]; exact r1
    have hRL := RL.ofBlk a4 a5
    have hcl : (cells.take (min ys.length m * u.size)).length = min ys.length m * u.size := by
      have : min ys.length m * u.size ≤ ys.length * u.size := Nat.mul_le_mul_right _ (Nat.min_le_left _ _)
      rw [List.length_take, hrl.1]; omega
    have hfit : mb.sh + off * mb.es + (cells.take (min ys.length m * u.size)).length ≤ k.cells.length := by
      rw [hcl, a1]
      have : (off + min ys.length m) * u.size ≤ xs.length * u.size := Nat.mul_le_mul_right _ (by omega)
      rw [Nat.add_mul] at this; omega
    have hcell : ∀ v ∈ cells.take (min ys.length m * u.size), isCell v = true := fun v hv => by
      obtain ⟨i, hi, ei⟩ := List.getElem_of_mem (List.mem_of_mem_take hv)
      have hpos := Ty.size_pos u
      have hq : i / u.size < ys.length := by rw [Nat.div_lt_iff_lt_mul hpos, ← hrl.1]; exact hi
      refine Rep.cell _ (hrl.2 _ hq) v ?_
      have hmod := Nat.mod_lt i hpos
      have hdm := Nat.div_add_mod i u.size
      refine List.mem_iff_getElem?.2 ⟨i % u.size, ?_⟩
      rw [seg_get, if_pos hmod, show i / u.size * u.size + i % u.size = i by rw [Nat.mul_comm]; exact hdm, List.getElem?_eq_getElem hi, ei]
    have hst := hstoreN_ok (lim := XE.lim) (o := mb.sh + off * mb.es) a3 (a6 rfl).1 hcell (by rw [hlim]; exact (a6 rfl).2) hfit
    have hcpl : (cpy xs off m ys).length = xs.length := by unfold cpy; simp; omega
    have hnew : ((lay k.cells (mb.sh + off * mb.es) (cells.take (min ys.length m * u.size))).drop mb.sh).take ((cpy xs off m ys).length * u.size) = lay ((k.cells.drop mb.sh).take (xs.length * u.size)) (off * u.size) (cells.take (min ys.length m * u.size)) := by
      have : (off + min ys.length m) * u.size ≤ xs.length * u.size := Nat.mul_le_mul_right _ (by omega)
      rw [Nat.add_mul] at this
      rw [hcpl, a1, lay_win a4 (by rw [hcl]; omega)]
    obtain ⟨s2, e1, e2, e3, k2, t2'⟩ := set_arr hs (xs' := cpy xs off m ys) h3 hm (cells' := lay k.cells (mb.sh + off * mb.es) (cells.take (min ys.length m * u.size))) a3 (by unfold cpy; simp; omega) (by rw [hcpl]; exact (arr_fit hs h3 hm a3).lay hfit (fun v hv => hrl.plain v (List.mem_of_mem_take hv))) (by rw [hnew]; exact hRL.cpy hrl hle)
    have hy := hK (.int .i64 ((min ys.length m : Nat) : Int)) _ s2 k2 t2' rfl (by rw [e1]; exact h)
    rw [e2] at hy
    have : callBuiltin P XE.lim .copy [t, t2] [Value.slice (some ⟨mb.z, mb.sh + off * mb.es, none⟩) (no.getD (mb.n - off)) mb.es, w'] s.H KE = KE (.int .i64 ((min ys.length m : Nat) : Int)) (s.H.set mb.z (some ⟨lay k.cells (mb.sh + off * mb.es) (cells.take (min ys.length m * u.size)), false⟩)) := by
      simp only [callBuiltin, he, obind, slS]
      rw [hcv, ← hmm, hst]; rfl
    rw [this]; exact hy

theorem sim_builtin {b : Builtin} {ts : List TypeId} {ps : List PV} {vs : List Value} (hP : X.P = XE.P) (hlim : XE.lim = s.lim) (hs : StR s) (hr : All2 (ER s) ps vs) (hK : KOk s r KV KE Q) (h : pbuiltin X.P b ts ps s.L KV = some r) : ∃ y, callBuiltin XE.P XE.lim b ts vs s.H KE = some y ∧ Q y := by
  rw [← hP]
  unfold pbuiltin at h
  split at h
  · rename_i t q
    obtain ⟨v, rfl, hv⟩ := All2.one hr
    clear hr
    obtain rfl : v = .string q := hv
    split at h
    · rename_i hu
      simp only [callBuiltin, hu]
      exact hK.here hs (p := .int .i64 q.size) rfl h
    · simp at h
  · rename_i t p hns
    obtain ⟨v, rfl, hv⟩ := All2.one hr
    clear hr
    split at h
    · rename_i hu
      replace h := ob h; obtain ⟨n, h1, h⟩ := h
      obtain ⟨a, c, rfl⟩ := plen_rel hs hv h1
      simp only [callBuiltin, hu]
      exact hK.here hs (p := .int .i64 n) rfl h
    · simp at h
  · rename_i t
    obtain ⟨v, rfl, hv⟩ := All2.one hr
    clear hr
    obtain rfl : v = .slice none 0 0 := hv
    split at h
    · rename_i hu
      simp only [callBuiltin, hu]
      exact hK.here hs (p := .int .i64 0) rfl h
    · simp at h
  · rename_i k x k' y
    obtain ⟨v, w, rfl, hv, hw⟩ := All2.two hr
    clear hr
    obtain rfl : v = .int k x := hv
    obtain rfl : w = .int k' y := hw
    simp only [callBuiltin]
    split at h
    · rename_i e1; rw [if_pos e1]; exact hK.here hs (p := .int k _) rfl h
    · simp at h
  · rename_i k x k' y
    obtain ⟨v, w, rfl, hv, hw⟩ := All2.two hr
    clear hr
    obtain rfl : v = .int k x := hv
    obtain rfl : w = .int k' y := hw
    simp only [callBuiltin]
    split at h
    · rename_i e1; rw [if_pos e1]; exact hK.here hs (p := .int k _) rfl h
    · simp at h
  · rename_i t u p x
    obtain ⟨v, w, rfl, hv, hw⟩ := All2.two hr
    clear hr
    replace h := ob h; obtain ⟨⟨el, size, bytes, z⟩, h1, h⟩ := h
    replace h := ob h; obtain ⟨ty, h2, h⟩ := h
    simp only [callBuiltin, h1, obind]
    split at h
    · rename_i hsz
      have hsz := Nat.eq_of_beq_eq_true hsz
      split at h
      · rename_i q hu
        obtain rfl : w = .string q := hw
        split at h
        · rw [hu]
          have : size = 1 := by rw [← hsz]; rfl
          subst this
          simp only
          have hb := append_sim hs hv (u := .int .u8) (RL.bytes q.data.toList) hK h
          have hl : (q.data.toList.map fun b => (b.toNat : Int)).length = q.size := by simp
          rw [hl] at hb; exact hb
        · simp at h
      · rename_i el' x' hu
        split at h
        · rename_i tt hrw
          replace h := ob h; obtain ⟨⟨ys, L1⟩, h3, h⟩ := h
          obtain ⟨hfl, s1, cells, Kf, l1, g1, k1, t1, lm1, kk1, hcl, hcp, hc, hvv⟩ := rowsOf_sim hs hw h3
          have hs1 : (1 : Nat) = size := hsz
          subst hs1
          have hsl : ∃ a c, w = .slice a ys.length c ∧ sliceCells s.H 1 w = some cells := by
            rcases hvv with ⟨rfl, rfl⟩ | ⟨z, o, k, rfl, q1, q2, q3, q4, q5, q6⟩
            · have : cells = [] := List.length_eq_zero_iff.1 hcl
              subst this
              exact ⟨_, _, rfl, rfl⟩
            · refine ⟨_, _, rfl, ?_⟩
              simp only [sliceCells, Nat.mul_one]
              cases hz : ys.length with
              | zero =>
                have : cells = [] := List.length_eq_zero_iff.1 (hcl.trans hz)
                rw [this]; simp [hload0]
              | succ q =>
                simp only [hload0, hloadN, q1, obind]
                have : Nat.ble (o + (q + 1)) k.cells.length = true := Nat.ble_eq_true_of_le (by omega)
                rw [this, q4, hz, List.drop_take]
                simp
          obtain ⟨a, c, rfl, hsc⟩ := hsl
          rw [hu]; simp only
          rw [hsc]
          simp only at h
          rw [← l1] at h
          have := appendR_sim t1 (k1.ER hv) hfl (fun z i e => ⟨(kk1 z i e).1, by rw [g1]; exact (kk1 z i e).2.2⟩) hcl hcp (fun i hi => by rw [g1, k1.lim]; exact hc i hi) (KOk.keep k1 hK) h
          rw [g1] at this
          exact this
        · rename_i xp _ ty _ _ hnr _
          replace h := ob h; obtain ⟨ys, h3, h⟩ := h
          obtain ⟨cells, a, c, rfl, hsc, hrl⟩ := content_cells hs hw h3 (fun u e => by
            cases hq : isRows s.L xp with
            | false => rfl
            | true => exact absurd e (fun e => hnr u hq e))
          rw [hu]; simp only
          rw [← hsz, hsc]
          exact append_sim hs hv hrl hK h
      · rename_i l hu
        obtain rfl : w = .int _ l := hw
        split at h
        · rename_i hz
          rw [hu]; simp only
          obtain ⟨a1, a2⟩ := psl_bounds h
          rw [a1]; simp only [oif]
          have := append_sim hs hv (RL.rep l.toNat (zeroOk_rep s hz)) hK a2
          have hl : (List.replicate l.toNat (zeroT ty)).length = l.toNat := by simp
          rw [hl, hsz] at this; exact this
        · simp at h
      · simp at h
    · simp at h
  · rename_i t t2 b off no src
    obtain ⟨v, w, rfl, hv, hw⟩ := All2.two hr
    clear hr
    replace h := ob h; obtain ⟨⟨el, size, bytes, z⟩, h1, h⟩ := h
    replace h := ob h; obtain ⟨ty, h2, h⟩ := h
    split at h
    · rename_i hsz
      have hsz := Nat.eq_of_beq_eq_true hsz
      replace h := ob h; obtain ⟨ys, h3, h⟩ := h
      replace h := ob h; obtain ⟨m, h4, h⟩ := h
      split at h
      · rename_i ver u xs hb
        replace h := ob h; obtain ⟨x, h5, h⟩ := h
        exact copy_sim hlim hs hv hw h3 h4 hb h5 hK h h1 hsz.symm
      · simp at h
    · simp at h
  · simp at h

end
end Go.Pv
