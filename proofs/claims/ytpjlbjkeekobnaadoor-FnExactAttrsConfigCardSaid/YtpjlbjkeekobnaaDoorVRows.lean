/-
  The steps of the store for arrays of owned slices: rows go out and come in.
  Conditions: the state is a good one.
-/
import Derived.Test.YtpjlbjkeekobnaaDoorVSt
set_option linter.all false
namespace Go.Pv
open Go.Ev

theorem StR.kid_ne {s : S} (h : StR s) {z b i : Nat} (hz : s.Kid z = some (b, i)) {c : Nat} {C : VB} {m : MB} (hc : lget s.L c = some C) (hm : s.μ c = some m) : m.z ≠ z := (h.kl z _ hz).2.2.2 c C m hc hm

/-- A block of rows goes out of the store, with its rows; all is still owned. -/
theorem StR.killR {s : S} (h : StR s) {b : Nat} {B : VB} (hb : lget s.L b = some B) (hr : B.rw = true) (gone : Bool) :
    ∃ s', s'.L = lkill s.L b ∧ s'.H = (match gone, s.μ b with | true, some m => s.H.set m.z none | _, _ => s.H) ∧ s'.μ = s.μ ∧ Keep s s' ∧ StR s' ∧
      (∀ z, s'.Lim z ↔ s.Lim z ∨ (∃ m, s.μ b = some m ∧ m.z = z) ∨ ∃ i, s.Kid z = some (b, i)) ∧ (∀ z, Own s' z ↔ Own s z) ∧ (∀ z, (∀ i, s.Kid z ≠ some (b, i)) → s'.Kid z = s.Kid z) := by
  let H' : Heap := match gone, s.μ b with | true, some m => s.H.set m.z none | _, _ => s.H
  let s' : S := { s with L := lkill s.L b, H := H', Lim := fun z => s.Lim z ∨ (∃ m, s.μ b = some m ∧ m.z = z) ∨ ∃ i, s.Kid z = some (b, i), Kid := unKid s b }
  have hlen : H'.length = s.H.length := by simp only [H']; split <;> simp
  have hH : ∀ z, (∀ m, s.μ b = some m → m.z ≠ z) → hget H' z = hget s.H z := by
    intro z hz
    simp only [H']
    split
    · rename_i m hm; exact hget_set_ne' (hz m hm)
    · rfl
  have hown : ∀ z, Own s' z ↔ Own s z := by
    intro z
    constructor
    · rintro (⟨q, Q, m', h1, h2, h3, rfl⟩ | (hl | ⟨m, hm, rfl⟩ | ⟨i, hi⟩) | ⟨p, hp⟩)
      · exact .inl ⟨q, Q, m', (lget_kill_some h1).2, h2, h3, rfl⟩
      · exact .inr (.inl hl)
      · exact .inl ⟨b, B, m, hb, hr, hm, rfl⟩
      · exact .inr (.inr ⟨_, hi⟩)
      · exact .inr (.inr ⟨p, (unKid_some hp).1⟩)
    · rintro (⟨q, Q, m', h1, h2, h3, rfl⟩ | hl | ⟨⟨c, i⟩, hp⟩)
      · by_cases e : b = q
        · subst e; exact .inr (.inl (.inr (.inl ⟨m', h3, rfl⟩)))
        · exact .inl ⟨q, Q, m', by rw [show s'.L = lkill s.L b from rfl, lget_kill_ne e]; exact h1, h2, h3, rfl⟩
      · exact .inr (.inl (.inl hl))
      · by_cases e : c = b
        · subst e; exact .inr (.inl (.inr (.inr ⟨i, hp⟩)))
        · exact .inr (.inr ⟨_, unKid_ne hp e⟩)
  have hk : Keep s s' := by
    refine ⟨rfl, CK.same rfl rfl, rfl, by simp [s', lkill_len], fun b hb => rfl, by rw [show s'.H = H' from rfl, hlen]; exact Nat.le_refl _, fun z hz' hn => ?_, fun z ho => .inl ((hown z).1 ho), fun q Q hq hQ => ?_⟩
    · exact hH z (fun m hm e => hn (e ▸ .inl ⟨b, B, m, hb, hr, hm, rfl⟩))
    · obtain ⟨hne, g⟩ := lget_kill_some hQ
      exact ⟨Q, g, Nat.le_refl _, fun _ => ⟨rfl, fun m' hm' => hH _ (fun m hm => h.own_ne hb hr hm g hm' hne), fun z i hz => ⟨unKid_ne hz (fun e => hne e.symm), hH _ (fun m hm => h.kid_ne hz hb hm)⟩⟩⟩
  refine ⟨s', rfl, rfl, rfl, hk, ⟨fun q Q hQ => ?_, fun q c Q D m1 m2 h1 h2 h3 h4 h5 e => ?_, fun z hz' => ⟨by rw [show s'.H = H' from rfl, hlen]; exact (h.ban z hz').1, fun ho => (h.ban z hz').2 ((hown z).1 ho)⟩, by rw [show s'.H = H' from rfl, hlen]; exact h.limH, fun q Q m' h1 h2 => ?_, fun z hl => ?_, fun z p hp => ?_, fun z p hp => by rw [show s'.H = H' from rfl, hH _ (fun m hm => (h.kl z p (unKid_some hp).1).2.2.2 b B m hb hm)]; exact h.ka z p (unKid_some hp).1⟩, fun z => Iff.rfl, hown, fun z hz => ?_⟩
  · obtain ⟨hne, g⟩ := lget_kill_some hQ
    exact (h.blk q Q g).keep hk (lget_lt g) (fun m' hm' => hH _ (fun m hm => h.own_ne hb hr hm g hm' hne)) (fun z i hz => ⟨unKid_ne hz (fun e => hne e.symm), hH _ (fun m hm => h.kid_ne hz hb hm)⟩)
  · exact h.inj q c Q D m1 m2 (lget_kill_some h1).2 (lget_kill_some h2).2 h3 h4 h5 e
  · obtain ⟨hne, g⟩ := lget_kill_some h1
    rintro (hl | ⟨m, hm, e⟩ | ⟨i, hi⟩)
    · exact h.lm q Q m' g h2 hl
    · exact h.own_ne hb hr hm g h2 hne e
    · exact h.kid_ne hi g h2 rfl
  · rw [show s'.H = H' from rfl, hlen]
    rcases hl with hl | ⟨m, hm, rfl⟩ | ⟨i, hi⟩
    · exact h.lml z hl
    · exact (h.blk b B hb).lt hm
    · exact (h.kl z _ hi).1
  · obtain ⟨hp, hne⟩ := unKid_some hp
    obtain ⟨k1, k2, k3, k4⟩ := h.kl z p hp
    refine ⟨by rw [show s'.H = H' from rfl, hlen]; exact k1, by rw [show s'.L = lkill s.L b from rfl, lkill_len]; exact k2, ?_, fun q Q m' g1 g2 => k4 q Q m' (lget_kill_some g1).2 g2⟩
    rintro (hl | ⟨m, hm, e⟩ | ⟨i, hi⟩)
    · exact k3 hl
    · exact k4 b B m hb hm e
    · rw [hp] at hi; injection hi with hi; subst hi; exact hne rfl
  · show unKid s b z = s.Kid z
    unfold unKid
    split
    · rename_i p hp
      split
      · rename_i e; exact absurd hp (by rw [show p = (b, p.2) from by rw [← e]]; exact hz p.2)
      · rw [hp]
    · rename_i hp; rw [hp]

/-- What is owned by no block comes in as an array of rows. -/
theorem StR.adoptR {s : S} (h : StR s) (B : Body) (m : MB) (hz : s.Lim m.z) (Kf : Nat → Option Nat) (hK : ∀ z i, Kf z = some i → s.Lim z ∧ z ≠ m.z ∧ ∃ k, hget s.H z = some k)
    (hB : ∀ s', Keep s s' → s'.μ s.L.bl.length = some m → s'.H = s.H → (∀ z i, Kf z = some i → s'.Kid z = some (s.L.bl.length, i)) → BR s' s.L.bl.length ⟨0, true, B⟩) :
    ∃ s', s'.L = lpush s.L B ∧ s'.H = s.H ∧ s'.μ s.L.bl.length = some m ∧ Keep s s' ∧ StR s' ∧ (∀ z, s'.Lim z ↔ s.Lim z ∧ z ≠ m.z ∧ Kf z = none) ∧ (∀ z, Own s' z ↔ Own s z) := by
  let s' : S := { s with μ := S.mu1 s.μ s.L.bl.length (some m), L := lpush s.L B, Lim := fun z => s.Lim z ∧ z ≠ m.z ∧ Kf z = none, Kid := fun z => match Kf z with | some i => some (s.L.bl.length, i) | none => s.Kid z }
  have kid1 : ∀ z i, Kf z = some i → s'.Kid z = some (s.L.bl.length, i) := by intro z i e; show (match Kf z with | some i => some (s.L.bl.length, i) | none => s.Kid z) = _; rw [e]
  have kid0 : ∀ z, Kf z = none → s'.Kid z = s.Kid z := by intro z e; show (match Kf z with | some i => some (s.L.bl.length, i) | none => s.Kid z) = _; rw [e]
  have kidL : ∀ z p, s.Kid z = some p → s'.Kid z = some p := by
    intro z p hp
    cases e : Kf z with
    | none => rw [kid0 z e]; exact hp
    | some i => exact absurd (hK z i e).1 (h.kl z p hp).2.2.1
  have cls : ∀ q Q mq, lget s'.L q = some Q → s'.μ q = some mq → (q < s.L.bl.length ∧ lget s.L q = some Q ∧ s.μ q = some mq ∧ mq.z ≠ m.z) ∨ (q = s.L.bl.length ∧ mq = m ∧ Q = ⟨0, true, B⟩) := by
    intro q Q mq g1 g2
    rcases Nat.lt_trichotomy q s.L.bl.length with hq | hq | hq
    · have a1 : lget s.L q = some Q := by rw [← lget_push hq (B := B)]; exact g1
      have a2 : s.μ q = some mq := (S.mu1_ne (Nat.ne_of_lt hq)).symm.trans g2
      exact .inl ⟨hq, a1, a2, fun e => h.lm q Q mq a1 a2 (e ▸ hz)⟩
    · subst hq
      have e3 : some m = some mq := by rw [← g2]; exact (S.mu1_self _ _ _).symm
      have e4 : some (⟨0, true, B⟩ : VB) = some Q := by rw [← g1]; exact (lget_push_new _ _).symm
      injection e3 with e3; injection e4 with e4; exact .inr ⟨rfl, e3.symm, e4.symm⟩
    · rw [show s'.L = lpush s.L B from rfl, lget_push_gt hq] at g1; simp at g1
  have hown : ∀ z, Own s' z ↔ Own s z := by
    intro z
    constructor
    · rintro (⟨q, Q, m', h1, h2, h3, rfl⟩ | hl | ⟨p, hp⟩)
      · rcases cls q Q m' h1 h3 with ⟨_, a, b, _⟩ | ⟨_, rfl, _⟩
        · exact .inl ⟨q, Q, m', a, h2, b, rfl⟩
        · exact .inr (.inl hz)
      · exact .inr (.inl hl.1)
      · cases e : Kf z with
        | none => rw [kid0 z e] at hp; exact .inr (.inr ⟨p, hp⟩)
        | some i => exact .inr (.inl (hK z i e).1)
    · rintro (⟨q, Q, m', h1, h2, h3, rfl⟩ | hl | ⟨p, hp⟩)
      · have hq := lget_lt h1
        exact .inl ⟨q, Q, m', by rw [show s'.L = lpush s.L B from rfl, lget_push hq]; exact h1, h2, (S.mu1_ne (Nat.ne_of_lt hq)).trans h3, rfl⟩
      · by_cases e : z = m.z
        · exact .inl ⟨s.L.bl.length, _, m, lget_push_new _ _, rfl, S.mu1_self _ _ _, e.symm⟩
        · cases e2 : Kf z with
          | none => exact .inr (.inl ⟨hl, e, e2⟩)
          | some i => exact .inr (.inr ⟨_, kid1 z i e2⟩)
      · exact .inr (.inr ⟨p, kidL z p hp⟩)
  have hk : Keep s s' := by
    refine ⟨rfl, CK.same rfl rfl, rfl, ?_, fun b hb => S.mu1_ne (Nat.ne_of_lt hb), Nat.le_refl _, fun z hz' _ => rfl, fun z ho => .inl ((hown z).1 ho), fun b B' hb hB' => ⟨B', ?_, Nat.le_refl _, fun _ => ⟨rfl, fun m' hm' => rfl, fun z i hz => ⟨kidL z _ hz, rfl⟩⟩⟩⟩
    · rw [show s'.L = lpush s.L B from rfl, lpush_len]; omega
    · rw [← lget_push hb (B := B)]; exact hB'
  refine ⟨s', rfl, rfl, S.mu1_self _ _ _, hk, ⟨fun b C hC => ?_, fun b c C D m1 m2 h1 h2 h3 h4 h5 e => ?_, fun z hz' => ⟨(h.ban z hz').1, fun ho => (h.ban z hz').2 ((hown z).1 ho)⟩, h.limH, fun b C m' h1 h2 hl => ?_, fun z hl => h.lml z hl.1, fun z p hp => ?_, fun z p hp => (by
    cases e : Kf z with
    | none => rw [kid0 z e] at hp; exact h.ka z p hp
    | some i => exact (hK z i e).2.2)⟩, fun z => Iff.rfl, hown⟩
  · rcases Nat.lt_trichotomy b s.L.bl.length with hb | hb | hb
    · have hC' : lget s.L b = some C := by rw [← lget_push hb (B := B)]; exact hC
      exact (h.blk b C hC').keep hk hb (fun m' hm' => rfl) (fun z i hz => ⟨kidL z _ hz, rfl⟩)
    · subst hb
      have : some (⟨0, true, B⟩ : VB) = some C := by rw [← hC]; exact (lget_push_new _ _).symm
      injection this with this; subst this
      exact hB s' hk (S.mu1_self _ _ _) rfl kid1
    · rw [show s'.L = lpush s.L B from rfl, lget_push_gt hb] at hC; simp at hC
  · rcases cls b C m1 h1 h4 with ⟨a1, a2, a3, a4⟩ | ⟨a1, rfl, _⟩ <;> rcases cls c D m2 h2 h5 with ⟨b1, b2, b3, b4⟩ | ⟨b1, rfl, _⟩
    · exact h.inj b c C D m1 m2 a2 b2 h3 a3 b3 e
    · exact absurd e a4
    · exact absurd e.symm b4
    · omega
  · rcases cls b C m' h1 h2 with ⟨_, a, b', _⟩ | ⟨_, rfl, _⟩
    · exact h.lm b C m' a b' hl.1
    · exact hl.2.1 rfl
  · cases e : Kf z with
    | none =>
      rw [kid0 z e] at hp
      obtain ⟨k1, k2, k3, k4⟩ := h.kl z p hp
      refine ⟨k1, by rw [show s'.L = lpush s.L B from rfl, lpush_len]; omega, fun hl => k3 hl.1, fun q Q m' g1 g2 => ?_⟩
      rcases cls q Q m' g1 g2 with ⟨_, a, b, _⟩ | ⟨_, rfl, _⟩
      · exact k4 q Q m' a b
      · exact fun e => k3 (e ▸ hz)
    | some i =>
      rw [kid1 z i e] at hp; injection hp with hp; subst hp
      obtain ⟨k1, k2, _⟩ := hK z i e
      refine ⟨h.lml z k1, by rw [show s'.L = lpush s.L B from rfl, lpush_len]; simp, fun hl => by have := hl.2.2; rw [e] at this; simp at this, fun q Q m' g1 g2 => ?_⟩
      rcases cls q Q m' g1 g2 with ⟨_, a, b, _⟩ | ⟨_, rfl, _⟩
      · exact fun e => h.lm q Q m' a b (e ▸ k1)
      · exact fun e => k2 e.symm

/-- A new block of the heap that is owned by no block of the store. -/
theorem StR.pushLim {s : S} (h : StR s) (vs : List Value) :
    ∃ s', s'.L = s.L ∧ s'.H = hpush s.H vs ∧ s'.μ = s.μ ∧ Keep s s' ∧ StR s' ∧ (∀ z, s'.Lim z ↔ s.Lim z ∨ z = s.H.length) ∧ s'.Kid = s.Kid := by
  let s' : S := { s with H := hpush s.H vs, Lim := fun z => s.Lim z ∨ z = s.H.length }
  have hown : ∀ z, Own s' z → Own s z ∨ z = s.H.length := by
    rintro z (hb | (hl | e) | hp)
    · exact .inl (.inl hb)
    · exact .inl (.inr (.inl hl))
    · exact .inr e
    · exact .inl (.inr (.inr hp))
  have hk : Keep s s' := by
    refine ⟨rfl, CK.same rfl rfl, rfl, Nat.le_refl _, fun b hb => rfl, ?_, fun z hz' _ => hget_push hz', fun z ho => ?_, fun b B' hb hB' => ⟨B', hB', Nat.le_refl _, fun _ => ⟨rfl, fun m' hm' => hget_push ((h.blk b B' hB').lt hm'), fun z i hz => ⟨hz, hget_push (h.kl z _ hz).1⟩⟩⟩⟩
    · rw [show s'.H = hpush s.H vs from rfl, hpush_len]; omega
    · rcases hown z ho with h1 | h1
      · exact .inl h1
      · exact .inr (by omega)
  refine ⟨s', rfl, rfl, rfl, hk, ⟨fun b C hC => (h.blk b C hC).keep hk (lget_lt hC) (fun m' hm' => hget_push ((h.blk b C hC).lt hm')) (fun z i hz => ⟨hz, hget_push (h.kl z _ hz).1⟩), fun b c C D m1 m2 => h.inj b c C D m1 m2, fun z hz' => ⟨?_, fun ho => ?_⟩, ?_, fun b C m' h1 h2 => ?_, fun z hl => ?_, fun z p hp => ?_, fun z p hp => by rw [show s'.H = hpush s.H vs from rfl, hget_push (h.kl z p hp).1]; exact h.ka z p hp⟩, fun z => Iff.rfl, rfl⟩
  · have := (h.ban z hz').1
    rw [show s'.H = hpush s.H vs from rfl, hpush_len]; omega
  · rcases hown z ho with h1 | h1
    · exact (h.ban z hz').2 h1
    · have := (h.ban z hz').1; omega
  · rw [show s'.H = hpush s.H vs from rfl, hpush_len]; have := h.limH; show s.lim ≤ _; omega
  · rintro (hl | e)
    · exact h.lm b C m' h1 h2 hl
    · have := (h.blk b C h1).lt h2; omega
  · rw [show s'.H = hpush s.H vs from rfl, hpush_len]
    rcases hl with hl | rfl
    · have := h.lml z hl; omega
    · omega
  · obtain ⟨k1, k2, k3, k4⟩ := h.kl z p hp
    refine ⟨by rw [show s'.H = hpush s.H vs from rfl, hpush_len]; omega, k2, ?_, k4⟩
    rintro (hl | e)
    · exact k3 hl
    · omega

def inKid (s : S) (b : Nat) (inn : Option (Nat × Nat)) (z : Nat) : Option (Nat × Nat) := match inn with
  | some p => if p.1 = z then some (b, p.2) else s.Kid z
  | none => s.Kid z

/-- An owned block of rows changes in place; a block may be taken over as a row, another one left. -/
theorem StR.setR {s : S} (h : StR s) {b : Nat} {B : VB} {m : MB} (hb : lget s.L b = some B) (hr : B.rw = true) (hm : s.μ b = some m) (B' : VB) (hr' : B'.rw = true) (hv : B'.ver = B.ver + 1) (k' : Blk)
    (inn : Option (Nat × Nat)) (hin' : ∀ z i, inn = some (z, i) → s.Lim z ∧ ∃ k, hget s.H z = some k)
    (hB : ∀ s', Keep s s' → s'.μ b = some m → hget s'.H m.z = some k' → (∀ z, z ≠ m.z → hget s'.H z = hget s.H z) → (∀ z i, s.Kid z = some (b, i) → s'.Kid z = some (b, i)) → (∀ z i, inn = some (z, i) → s'.Kid z = some (b, i)) → BR s' b B') :
    ∃ s', s'.L = lset s.L b B' ∧ s'.H = s.H.set m.z (some k') ∧ s'.μ = s.μ ∧ Keep s s' ∧ StR s' ∧ (∀ z, s'.Lim z ↔ s.Lim z ∧ ∀ i, inn ≠ some (z, i)) := by
  have hin : ∀ z i, inn = some (z, i) → s.Lim z := fun z i e => (hin' z i e).1
  let s' : S := { s with L := lset s.L b B', H := s.H.set m.z (some k'), Lim := fun z => s.Lim z ∧ ∀ i, inn ≠ some (z, i), Kid := inKid s b inn }
  have kid1 : ∀ z i, inn = some (z, i) → s'.Kid z = some (b, i) := by intro z i e; show inKid s b inn z = _; unfold inKid; rw [e]; simp
  have kid0 : ∀ z, (∀ i, inn ≠ some (z, i)) → s'.Kid z = s.Kid z := by
    intro z e; show inKid s b inn z = _; unfold inKid
    split
    · rename_i p
      split
      · rename_i e2; subst e2; exact absurd rfl (e p.2)
      · rfl
    · rfl
  have kidc : ∀ z, (∃ i, inn = some (z, i)) ∨ ∀ i, inn ≠ some (z, i) := fun z => by
    by_cases e : ∃ i, inn = some (z, i)
    · exact .inl e
    · exact .inr fun i h => e ⟨i, h⟩
  have kidL : ∀ z p, s.Kid z = some p → s'.Kid z = some p := by
    intro z p hp
    rcases kidc z with ⟨i, e⟩ | e
    · exact absurd (hin z i e) (h.kl z p hp).2.2.1
    · rw [kid0 z e]; exact hp
  have hlb := lget_lt hb
  have hz := (h.blk b B hb).lt hm
  have cls : ∀ q Q, lget s'.L q = some Q → (q = b ∧ Q = B') ∨ (q ≠ b ∧ lget s.L q = some Q) := by
    intro q Q g
    by_cases e : b = q
    · subst e; left; have : some B' = some Q := by rw [← g]; exact (lget_set_self hlb).symm
      injection this with this; exact ⟨rfl, this.symm⟩
    · right; exact ⟨fun x => e x.symm, by rw [← lget_set_ne e (B := B')]; exact g⟩
  have hown : ∀ z, Own s' z → Own s z := by
    rintro z (⟨q, Q, m', h1, h2, h3, rfl⟩ | hl | ⟨p, hp⟩)
    · rcases cls q Q h1 with ⟨rfl, rfl⟩ | ⟨_, g⟩
      · exact .inl ⟨q, B, m', hb, hr, h3, rfl⟩
      · exact .inl ⟨q, Q, m', g, h2, h3, rfl⟩
    · exact .inr (.inl hl.1)
    · rcases kidc z with ⟨i, e⟩ | e
      · exact .inr (.inl (hin z i e))
      · rw [kid0 z e] at hp; exact .inr (.inr ⟨p, hp⟩)
  have hoz : Own s m.z := .inl ⟨b, B, m, hb, hr, hm, rfl⟩
  have hk : Keep s s' := by
    refine ⟨rfl, CK.same rfl rfl, rfl, by simp [s', lset_len], fun b hb => rfl, by simp [s'], fun z hz' hn => ?_, fun z ho => .inl (hown z ho), fun q Q hq hQ => ?_⟩
    · exact hget_set_ne' (fun e => hn (e ▸ hoz))
    · rcases cls q Q hQ with ⟨rfl, rfl⟩ | ⟨hne, g⟩
      · exact ⟨B, hb, by omega, fun e => absurd e (by omega)⟩
      · exact ⟨Q, g, Nat.le_refl _, fun _ => ⟨rfl, fun m' hm' => hget_set_ne' (h.own_ne hb hr hm g hm' (fun e => hne e.symm)), fun z i hz => ⟨kidL z _ hz, hget_set_ne' (h.kid_ne hz hb hm)⟩⟩⟩
  refine ⟨s', rfl, rfl, rfl, hk, ⟨fun q Q hQ => ?_, fun q c Q D m1 m2 h1 h2 h3 h4 h5 e => ?_, fun z hz' => ⟨by simp [s']; exact (h.ban z hz').1, fun ho => (h.ban z hz').2 (hown z ho)⟩, by simp [s']; exact h.limH, fun q Q m' h1 h2 hl => ?_, fun z hl => by simp [s']; exact h.lml z hl.1, fun z p hp => ?_, fun z p hp => (by
    rcases kidc z with ⟨i, e⟩ | e
    · rw [show s'.H = s.H.set m.z (some k') from rfl, hget_set_ne' (fun e2 : m.z = z => h.lm b B m hb hm (by rw [e2]; exact hin z i e))]; exact (hin' z i e).2
    · rw [kid0 z e] at hp
      rw [show s'.H = s.H.set m.z (some k') from rfl, hget_set_ne' ((h.kl z p hp).2.2.2 b B m hb hm)]; exact h.ka z p hp)⟩, fun z => Iff.rfl⟩
  · rcases cls q Q hQ with ⟨rfl, rfl⟩ | ⟨hne, g⟩
    · exact hB s' hk hm (hget_set_self' hz) (fun z hz => hget_set_ne' (fun e => hz e.symm)) (fun z i hz => kidL z _ hz) kid1
    · exact (h.blk q Q g).keep hk (lget_lt g) (fun m' hm' => hget_set_ne' (h.own_ne hb hr hm g hm' (fun e => hne e.symm))) (fun z i hz => ⟨kidL z _ hz, hget_set_ne' (h.kid_ne hz hb hm)⟩)
  · rcases cls q Q h1 with ⟨rfl, rfl⟩ | ⟨_, g⟩ <;> rcases cls c D h2 with ⟨rfl, rfl⟩ | ⟨_, g'⟩
    · rfl
    · exact h.inj q c B D m1 m2 hb g' hr h4 h5 e
    · exact h.inj q c Q B m1 m2 g hb h3 h4 h5 e
    · exact h.inj q c Q D m1 m2 g g' h3 h4 h5 e
  · rcases cls q Q h1 with ⟨rfl, rfl⟩ | ⟨_, g⟩
    · exact h.lm q B m' hb h2 hl.1
    · exact h.lm q Q m' g h2 hl.1
  · have lmq : ∀ q Q m', lget s'.L q = some Q → s'.μ q = some m' → ∃ Q0, lget s.L q = some Q0 := by
      intro q Q m' g1 g2
      rcases cls q Q g1 with ⟨rfl, rfl⟩ | ⟨_, g⟩
      · exact ⟨B, hb⟩
      · exact ⟨Q, g⟩
    rcases kidc z with ⟨i, e⟩ | e
    · rw [kid1 z i e] at hp; injection hp with hp; subst hp
      have hl := hin z i e
      refine ⟨by simp [s']; exact h.lml z hl, by rw [show s'.L = lset s.L b B' from rfl, lset_len]; exact hlb, fun hl2 => hl2.2 i e, fun q Q m' g1 g2 e2 => ?_⟩
      obtain ⟨Q0, g⟩ := lmq q Q m' g1 g2
      exact h.lm q Q0 m' g g2 (e2 ▸ hl)
    · rw [kid0 z e] at hp
      obtain ⟨k1, k2, k3, k4⟩ := h.kl z p hp
      refine ⟨by simp [s']; exact k1, by rw [show s'.L = lset s.L b B' from rfl, lset_len]; exact k2, fun hl => k3 hl.1, fun q Q m' g1 g2 => ?_⟩
      obtain ⟨Q0, g⟩ := lmq q Q m' g1 g2
      exact k4 q Q0 m' g g2

/-- A row goes out: its place is a hole. -/
theorem StR.detach {s : S} (h : StR s) {b i v : Nat} {t : Ty} {xs : List (List t.T)} (hb : lget s.L b = some ⟨v, true, .rows t xs none⟩) (z0 : Option Nat) (hz0 : ∀ z, z0 = some z → s.Kid z = some (b, i)) :
    ∃ s', s'.L = lset s.L b ⟨v + 1, true, .rows t xs (some i)⟩ ∧ s'.H = s.H ∧ s'.μ = s.μ ∧ Keep s s' ∧ StR s' ∧ (∀ z, s'.Lim z ↔ s.Lim z ∨ z0 = some z) ∧ ∀ z, Own s' z ↔ Own s z := by
  let B1 : VB := ⟨v + 1, true, .rows t xs (some i)⟩
  let s' : S := { s with L := lset s.L b B1, Lim := fun z => s.Lim z ∨ z0 = some z, Kid := fun z => if z0 = some z then none else s.Kid z }
  have kid1 : ∀ z, z0 = some z → s'.Kid z = none := fun z e => if_pos e
  have kid0 : ∀ z, z0 ≠ some z → s'.Kid z = s.Kid z := fun z e => if_neg e
  have hlb := lget_lt hb
  have cls : ∀ q Q, lget s'.L q = some Q → (q = b ∧ Q = B1) ∨ (q ≠ b ∧ lget s.L q = some Q) := by
    intro q Q g
    by_cases e : b = q
    · subst e; left; have : some B1 = some Q := by rw [← g]; exact (lget_set_self hlb).symm
      injection this with this; exact ⟨rfl, this.symm⟩
    · right; exact ⟨fun x => e x.symm, by rw [← lget_set_ne e (B := B1)]; exact g⟩
  have hown : ∀ z, Own s' z ↔ Own s z := by
    intro z
    constructor
    · rintro (⟨q, Q, m', h1, h2, h3, rfl⟩ | (hl | hp) | ⟨p, hp⟩)
      · rcases cls q Q h1 with ⟨rfl, rfl⟩ | ⟨_, g⟩
        · exact .inl ⟨q, _, m', hb, rfl, h3, rfl⟩
        · exact .inl ⟨q, Q, m', g, h2, h3, rfl⟩
      · exact .inr (.inl hl)
      · exact .inr (.inr ⟨_, hz0 z hp⟩)
      · by_cases e : z0 = some z
        · rw [kid1 z e] at hp; simp at hp
        · rw [kid0 z e] at hp; exact .inr (.inr ⟨p, hp⟩)
    · rintro (⟨q, Q, m', h1, h2, h3, rfl⟩ | hl | ⟨p, hp⟩)
      · by_cases e : b = q
        · subst e; exact .inl ⟨b, B1, m', lget_set_self hlb, rfl, h3, rfl⟩
        · exact .inl ⟨q, Q, m', by rw [show s'.L = lset s.L b B1 from rfl, lget_set_ne e]; exact h1, h2, h3, rfl⟩
      · exact .inr (.inl (.inl hl))
      · by_cases e : z0 = some z
        · exact .inr (.inl (.inr e))
        · exact .inr (.inr ⟨p, by rw [kid0 z e]; exact hp⟩)
  have kidq : ∀ q z j, q ≠ b → s.Kid z = some (q, j) → s'.Kid z = some (q, j) := by
    intro q z j hne hz
    rw [kid0 z (fun e => by have e := hz0 z e; rw [hz] at e; injection e with e; injection e with e1 e2; exact hne e1)]; exact hz
  have hk : Keep s s' := by
    refine ⟨rfl, CK.same rfl rfl, rfl, by simp [s', lset_len], fun b hb => rfl, Nat.le_refl _, fun z hz' hn => rfl, fun z ho => .inl ((hown z).1 ho), fun q Q hq hQ => ?_⟩
    rcases cls q Q hQ with ⟨rfl, rfl⟩ | ⟨hne, g⟩
    · exact ⟨_, hb, by simp [B1], fun e => absurd e (by simp [B1])⟩
    · exact ⟨Q, g, Nat.le_refl _, fun _ => ⟨rfl, fun m' hm' => rfl, fun z j hz => ⟨kidq q z j hne hz, rfl⟩⟩⟩
  refine ⟨s', rfl, rfl, rfl, hk, ⟨fun q Q hQ => ?_, fun q c Q D m1 m2 h1 h2 h3 h4 h5 e => ?_, fun z hz' => ⟨(h.ban z hz').1, fun ho => (h.ban z hz').2 ((hown z).1 ho)⟩, h.limH, fun q Q m' h1 h2 hl => ?_, fun z hl => ?_, fun z p hp => ?_, fun z p hp => (by
    by_cases e : z0 = some z
    · rw [kid1 z e] at hp; simp at hp
    · rw [kid0 z e] at hp; exact h.ka z p hp)⟩, fun z => Iff.rfl, hown⟩
  · rcases cls q Q hQ with ⟨rfl, rfl⟩ | ⟨hne, g⟩
    · have := h.blk q _ hb
      unfold BR at this ⊢
      simp only [B1] at this ⊢
      obtain ⟨r0, r1, r⟩ := this
      refine ⟨trivial, r1, ?_⟩
      cases e : s.μ q with
      | none => rw [e] at r; exact r
      | some m =>
        rw [e] at r
        obtain ⟨g1, g2, k, g3, g4, g5, g6, g7⟩ := r
        refine ⟨g1, g2, k, g3, g4, g5, g6, fun j hj hn => ?_⟩
        obtain ⟨w, q1, q2⟩ := g7 j hj (by simp)
        exact ⟨w, q1, q2.mono r1 (fun z hz => ⟨by rw [kid0 z (fun e => by have e := hz0 z e; rw [hz] at e; injection e with e; injection e with e1 e2; exact hn (by rw [e2]))]; exact hz, rfl⟩)⟩
    · exact (h.blk q Q g).keep hk (lget_lt g) (fun m' hm' => rfl) (fun z j hz => ⟨kidq q z j hne hz, rfl⟩)
  · rcases cls q Q h1 with ⟨rfl, rfl⟩ | ⟨_, g⟩ <;> rcases cls c D h2 with ⟨rfl, rfl⟩ | ⟨_, g'⟩
    · rfl
    · exact h.inj q c _ D m1 m2 hb g' rfl h4 h5 e
    · exact h.inj q c Q _ m1 m2 g hb h3 h4 h5 e
    · exact h.inj q c Q D m1 m2 g g' h3 h4 h5 e
  · have : ∃ Q0, lget s.L q = some Q0 := by
      rcases cls q Q h1 with ⟨rfl, rfl⟩ | ⟨_, g⟩
      · exact ⟨_, hb⟩
      · exact ⟨Q, g⟩
    obtain ⟨Q0, g⟩ := this
    rcases hl with hl | hl
    · exact h.lm q Q0 m' g h2 hl
    · exact h.kid_ne (hz0 _ hl) g h2 rfl
  · rcases hl with hl | hl
    · exact h.lml z hl
    · exact (h.kl z _ (hz0 z hl)).1
  · by_cases e : z0 = some z
    · rw [kid1 z e] at hp; simp at hp
    · rw [kid0 z e] at hp
      obtain ⟨k1, k2, k3, k4⟩ := h.kl z p hp
      refine ⟨k1, by rw [show s'.L = lset s.L b B1 from rfl, lset_len]; exact k2, ?_, fun q Q m' g1 g2 => ?_⟩
      · rintro (hl | hl)
        · exact k3 hl
        · exact e hl
      · rcases cls q Q g1 with ⟨rfl, rfl⟩ | ⟨_, g⟩
        · exact k4 q _ m' hb g2
        · exact k4 q Q m' g g2

/-- A block that is owned by no block of the store goes. -/
theorem StR.dropLim {s : S} (h : StR s) {z0 : Nat} (hz0 : s.Lim z0) :
    ∃ s', s'.L = s.L ∧ s'.H = s.H.set z0 none ∧ s'.μ = s.μ ∧ Keep s s' ∧ StR s' ∧ s'.Lim = s.Lim ∧ s'.Kid = s.Kid := by
  let s' : S := { s with H := s.H.set z0 none }
  have hne : ∀ b B m, lget s.L b = some B → s.μ b = some m → hget s'.H m.z = hget s.H m.z := fun b B m h1 h2 => hget_set_ne' (fun e => h.lm b B m h1 h2 (e ▸ hz0))
  have hkd : ∀ z p, s.Kid z = some p → hget s'.H z = hget s.H z := fun z p hp => hget_set_ne' (fun e => (h.kl z p hp).2.2.1 (e ▸ hz0))
  have hk : Keep s s' := by
    refine ⟨rfl, CK.same rfl rfl, rfl, Nat.le_refl _, fun b hb => rfl, by simp [s'], fun z hz' hn => hget_set_ne' (fun e => hn (e ▸ .inr (.inl hz0))), fun z ho => .inl ho, fun b B' hb hB' => ⟨B', hB', Nat.le_refl _, fun _ => ⟨rfl, fun m' hm' => hne b B' m' hB' hm', fun z i hz => ⟨hz, hkd z _ hz⟩⟩⟩⟩
  exact ⟨s', rfl, rfl, rfl, hk, ⟨fun b C hC => (h.blk b C hC).keep hk (lget_lt hC) (fun m' hm' => hne b C m' hC hm') (fun z i hz => ⟨hz, hkd z _ hz⟩), h.inj, fun z hz => ⟨by simp [s']; exact (h.ban z hz).1, (h.ban z hz).2⟩, by simp [s']; exact h.limH, h.lm, fun z hl => by simp [s']; exact h.lml z hl, fun z p hp => ⟨by simp [s']; exact (h.kl z p hp).1, (h.kl z p hp).2⟩, fun z p hp => by rw [hkd z p hp]; exact h.ka z p hp⟩, rfl, rfl⟩

/-- Phantom rows. -/
theorem StR.push0R {s : S} (h : StR s) (t : Ty) (hf : t.flat = true) :
    ∃ s', s'.L = lpush s.L (.rows t [] none) ∧ s'.H = s.H ∧ s'.μ s.L.bl.length = none ∧ Keep s s' ∧ StR s' ∧ s'.Lim = s.Lim ∧ s'.Kid = s.Kid ∧ ∀ z, s.N z → s'.N z := by
  let B : Body := .rows t [] none
  let s' : S := { s with μ := S.mu1 s.μ s.L.bl.length none, L := lpush s.L B }
  have cls : ∀ q Q mq, lget s'.L q = some Q → s'.μ q = some mq → q < s.L.bl.length ∧ lget s.L q = some Q ∧ s.μ q = some mq := by
    intro q Q mq g1 g2
    rcases Nat.lt_trichotomy q s.L.bl.length with hq | hq | hq
    · exact ⟨hq, by rw [← lget_push hq (B := B)]; exact g1, (S.mu1_ne (Nat.ne_of_lt hq)).symm.trans g2⟩
    · subst hq
      have e3 : none = some mq := by rw [← g2]; exact (S.mu1_self _ _ _).symm
      simp at e3
    · rw [show s'.L = lpush s.L B from rfl, lget_push_gt hq] at g1; simp at g1
  have hown : ∀ z, Own s' z → Own s z := by
    rintro z (⟨b, C, m', h1, h2, h3, rfl⟩ | hl)
    · obtain ⟨_, a, b'⟩ := cls b C m' h1 h3
      exact .inl ⟨b, C, m', a, h2, b', rfl⟩
    · exact .inr hl
  have hk : Keep s s' := by
    refine ⟨rfl, CK.same rfl rfl, rfl, ?_, fun b hb => S.mu1_ne (Nat.ne_of_lt hb), Nat.le_refl _, fun z hz' _ => rfl, fun z ho => .inl (hown z ho), fun b B' hb hB' => ⟨B', ?_, Nat.le_refl _, fun _ => ⟨rfl, fun m' hm' => rfl, fun z i hz => ⟨hz, rfl⟩⟩⟩⟩
    · rw [show s'.L = lpush s.L B from rfl, lpush_len]; omega
    · rw [← lget_push hb (B := B)]; exact hB'
  refine ⟨s', rfl, rfl, S.mu1_self _ _ _, hk, ⟨fun b C hC => ?_, fun b c C D m1 m2 h1 h2 h3 h4 h5 e => ?_, fun z hz' => ⟨(h.ban z hz').1, fun ho => (h.ban z hz').2 (hown z ho)⟩, h.limH, fun b C m' h1 h2 => h.lm b C m' (cls b C m' h1 h2).2.1 (cls b C m' h1 h2).2.2, h.lml, fun z p hp => ⟨(h.kl z p hp).1, by rw [show s'.L = lpush s.L B from rfl, lpush_len]; have := (h.kl z p hp).2.1; omega, (h.kl z p hp).2.2.1, fun b C m' g1 g2 => (h.kl z p hp).2.2.2 b C m' (cls b C m' g1 g2).2.1 (cls b C m' g1 g2).2.2⟩, h.ka⟩, rfl, rfl, fun z hz => ⟨fun ho => hz.1 (hown z ho), hz.2⟩⟩
  · rcases Nat.lt_trichotomy b s.L.bl.length with hb | hb | hb
    · have hC' : lget s.L b = some C := by rw [← lget_push hb (B := B)]; exact hC
      exact (h.blk b C hC').keep hk hb (fun m' hm' => rfl) (fun z i hz => ⟨hz, rfl⟩)
    · subst hb
      have : some (⟨0, true, B⟩ : VB) = some C := by rw [← hC]; exact (lget_push_new _ _).symm
      injection this with this; subst this
      unfold BR; simp only [B]
      refine ⟨trivial, hf, ?_⟩
      rw [show s'.μ s.L.bl.length = none from S.mu1_self _ _ _]; trivial
    · rw [show s'.L = lpush s.L B from rfl, lget_push_gt hb] at hC; simp at hC
  · obtain ⟨_, a1, a2⟩ := cls b C m1 h1 h4
    obtain ⟨_, b1, b2⟩ := cls c D m2 h2 h5
    exact h.inj b c C D m1 m2 a1 b1 h3 a2 b2 e

/-- New rows, of what is owned by no block. -/
theorem StR.pushRows {s : S} (h : StR s) {t : Ty} (hf : t.flat = true) {ys : List (List t.T)} {vs : List Value} (Kf : Nat → Option Nat) (hK' : ∀ z i, Kf z = some i → s.Lim z ∧ ∃ k, hget s.H z = some k) (hl : vs.length = ys.length)
    (hr : ∀ i (hi : i < ys.length), ∃ v, vs[i]? = some v ∧ RowC (fun z => Kf z = some i) s.H s.lim t ys[i] v) (hp : ∀ v ∈ vs, sameLeaf v v = true) :
    ∃ s', s'.L = lpush s.L (.rows t ys none) ∧ s'.H = hpush s.H vs ∧ Keep s s' ∧ StR s' ∧ LR0 s' (.osl s.L.bl.length 0 none) (.slice (some ⟨s.H.length, 0, none⟩) ys.length 1) ∧ (∀ z, s'.Lim z ↔ s.Lim z ∧ Kf z = none) := by
  have hK : ∀ z i, Kf z = some i → s.Lim z := fun z i e => (hK' z i e).1
  obtain ⟨s1, l1, g1, u1, k1, t1, lm1, kd1⟩ := h.pushLim vs
  have hne : ∀ z i, Kf z = some i → z ≠ s.H.length := fun z i e => by have := h.lml z (hK z i e); omega
  obtain ⟨s2, l2, g2, u2, k2, t2, lm2, _⟩ := t1.adoptR (.rows t ys none) ⟨s.H.length, 0, 1, ys.length⟩ ((lm1 _).2 (.inr rfl)) Kf (fun z i e => ⟨(lm1 z).2 (.inl (hK z i e)), hne z i e, by rw [g1, hget_push (h.lml z (hK z i e))]; exact (hK' z i e).2⟩) (fun s' hk hm hH hkid => by
    unfold BR; simp only [hm]
    have hg : hget s'.H s.H.length = some ⟨vs, false⟩ := by rw [hH, g1]; exact hget_push_new _ _
    refine ⟨trivial, hf, trivial, trivial, _, hg, ⟨by simp; omega, fun v hv => hp v (List.mem_of_mem_drop hv)⟩, rfl, by rw [hk.lim, k1.lim]; exact h.limH, fun i hi _ => ?_⟩
    obtain ⟨v, q1, q2⟩ := hr i hi
    refine ⟨v, by simpa using q1, ?_⟩
    rw [hk.lim, k1.lim]
    exact q2.mono hf (fun z hz => ⟨hkid z i hz, by rw [hH, g1]; exact hget_push (h.lml z (hK z i hz))⟩))
  refine ⟨s2, by rw [l2, l1], g2.trans g1, k1.trans k2, t2, ?_, fun z => ?_⟩
  · rw [← l1]
    refine ⟨by rw [l2, lpush_len]; omega, ?_⟩
    rw [u2]; simp
  · rw [lm2, lm1]
    constructor
    · rintro ⟨h1 | h1, h2, h3⟩
      · exact ⟨h1, h3⟩
      · exact absurd h1 h2
    · rintro ⟨h1, h2⟩
      exact ⟨.inl h1, by have := h.lml z h1; simp; omega, h2⟩

end Go.Pv
