/-
  The steps of the store: a block comes, changes, is frozen, goes.
  Conditions: the state is a good one.
-/
import Derived.Test.YtpjlbjkeekobnaaDoorVRel
set_option linter.all false
namespace Go.Pv
open Go.Ev

theorem BR.keep {s s' : S} (h : Keep s s') {c : Nat} {C : VB} (hc : c < s.L.bl.length) (r : BR s c C) (hg : ∀ m, s.μ c = some m → hget s'.H m.z = hget s.H m.z) (hkid : ∀ z i, s.Kid z = some (c, i) → s'.Kid z = some (c, i) ∧ hget s'.H z = hget s.H z) : BR s' c C := by
  unfold BR at r ⊢
  split at r
  · obtain ⟨h0, m, k, h1, h2, h3, h4, h5, h6⟩ := r
    exact ⟨h0, m, k, by rw [h.mu c hc]; exact h1, h2, by rw [hg m h1]; exact h3, h.LRs h4, h5, by rw [h.lim]; exact h6⟩
  · rw [h.mu c hc]
    split at r
    · exact r
    · rename_i m hm
      obtain ⟨h1, h2, k, h3, h4, h5, h6, h7⟩ := r
      refine ⟨h1, h2, k, by rw [hg m hm]; exact h3, h4, fun i hi => h.repN (h5 i hi), fun e => ⟨(h6 e).1, by rw [h.lim]; exact (h6 e).2⟩, fun e => h.N (hget_lt h3) (h7 e)⟩
  · obtain ⟨r0, r1, r⟩ := r
    refine ⟨r0, r1, ?_⟩
    rw [h.mu c hc]
    split at r
    · exact r
    · rename_i m hm
      obtain ⟨h1, h2, k, h3, h4, h5, h6, h7⟩ := r
      refine ⟨h1, h2, k, by rw [hg m hm]; exact h3, h4, h5, by rw [h.lim]; exact h6, fun i hi hn => ?_⟩
      obtain ⟨v, g1, g2⟩ := h7 i hi hn
      exact ⟨v, g1, by rw [h.lim]; exact g2.mono r1 (fun z hz => hkid z i hz)⟩

theorem BR.lt {s : S} {b : Nat} {B : VB} {m : MB} (h : BR s b B) (hm : s.μ b = some m) : m.z < s.H.length := by
  unfold BR at h
  split at h
  · obtain ⟨_, m', k, h1, _, h3, _⟩ := h
    rw [hm] at h1; injection h1 with h1; subst h1; exact hget_lt h3
  · rw [hm] at h
    obtain ⟨_, _, k, h3, _⟩ := h; exact hget_lt h3
  · rw [hm] at h
    obtain ⟨_, _, _, _, k, h3, _⟩ := h; exact hget_lt h3

theorem StR.own_lt {s : S} (h : StR s) {z : Nat} (ho : Own s z) : z < s.H.length := by
  rcases ho with ⟨b, B, m, h1, h2, h3, rfl⟩ | hl | ⟨p, hp⟩
  · exact (h.blk b B h1).lt h3
  · exact h.lml z hl
  · exact (h.kl z p hp).1

theorem StR.own_ne {s : S} (h : StR s) {b c : Nat} {B C : VB} {m m' : MB} (hb : lget s.L b = some B) (hr : B.rw = true) (hm : s.μ b = some m) (hc : lget s.L c = some C) (hm' : s.μ c = some m') (hne : b ≠ c) : m.z ≠ m'.z :=
  fun e => hne (h.inj b c B C m m' hb hc hr hm hm' e)

/-- A new block. -/
theorem StR.push {s : S} (h : StR s) (B : Body) (vs : List Value) (m : MB) (hz : m.z = s.H.length)
    (hB : ∀ s', Keep s s' → s'.μ s.L.bl.length = some m → hget s'.H s.H.length = some ⟨vs, false⟩ → (∀ z, s.N z → z < s.H.length → s'.N z) → BR s' s.L.bl.length ⟨0, true, B⟩) :
    ∃ s', s'.L = lpush s.L B ∧ s'.H = hpush s.H vs ∧ s'.μ s.L.bl.length = some m ∧ Keep s s' ∧ StR s' := by
  let s' : S := { s with μ := S.mu1 s.μ s.L.bl.length (some m), L := lpush s.L B, H := hpush s.H vs }
  have hown : ∀ z, Own s' z → Own s z ∨ z = s.H.length := by
    rintro z (⟨b, C, m', h1, h2, h3, rfl⟩ | hl)
    rotate_left
    · exact .inl (.inr hl)
    rcases Nat.lt_trichotomy b s.L.bl.length with hb | hb | hb
    · refine .inl (.inl ⟨b, C, m', ?_, h2, ?_, rfl⟩)
      · rw [← lget_push hb (B := B)]; exact h1
      · exact (S.mu1_ne (Nat.ne_of_lt hb)).symm.trans h3
    · subst hb
      have e3 : some m = some m' := by rw [← h3]; exact (S.mu1_self _ _ _).symm
      injection e3 with e3; subst e3; exact .inr hz
    · rw [show s'.L = lpush s.L B from rfl, lget_push_gt hb] at h1; simp at h1
  have hk : Keep s s' := by
    refine ⟨rfl, CK.same rfl rfl, rfl, ?_, fun b hb => S.mu1_ne (Nat.ne_of_lt hb), ?_, fun z hz' _ => hget_push hz', fun z ho => ?_, fun b B' hb hB' => ⟨B', ?_, Nat.le_refl _, fun _ => ⟨rfl, fun m' hm' => ?_, ?_⟩⟩⟩
    · rw [show s'.L = lpush s.L B from rfl, lpush_len]; omega
    · rw [show s'.H = hpush s.H vs from rfl, hpush_len]; omega
    · rcases hown z ho with h1 | h1
      · exact .inl h1
      · exact .inr (by omega)
    · rw [← lget_push hb (B := B)]; exact hB'
    · have hb0 : lget s.L b = some B' := by rw [← lget_push hb (B := B)]; exact hB'
      exact hget_push ((h.blk b B' hb0).lt hm')
    · exact fun z i hz => ⟨hz, hget_push (h.kl z _ hz).1⟩
  refine ⟨s', rfl, rfl, S.mu1_self _ _ _, hk, ⟨fun b C hC => ?_, fun b c C D m1 m2 h1 h2 h3 h4 h5 e => ?_, fun z hz' => ⟨?_, fun ho => ?_⟩, ?_, fun b C m' h1 h2 hl => ?_, fun z hl => ?_, fun z p hp => ?_, fun z p hp => by rw [show s'.H = hpush s.H vs from rfl, hget_push (h.kl z p hp).1]; exact h.ka z p hp⟩⟩
  rotate_right
  · obtain ⟨k1, k2, k3, k4⟩ := h.kl z p hp
    refine ⟨by rw [show s'.H = hpush s.H vs from rfl, hpush_len]; omega, by rw [show s'.L = lpush s.L B from rfl, lpush_len]; omega, k3, fun b C m' g1 g2 => ?_⟩
    rcases Nat.lt_trichotomy b s.L.bl.length with hb | hb | hb
    · exact k4 b C m' (by rw [← lget_push hb (B := B)]; exact g1) ((S.mu1_ne (Nat.ne_of_lt hb)).symm.trans g2)
    · subst hb
      have e3 : some m = some m' := by rw [← g2]; exact (S.mu1_self _ _ _).symm
      injection e3 with e3; subst e3; omega
    · rw [show s'.L = lpush s.L B from rfl, lget_push_gt hb] at g1; simp at g1
  · rcases Nat.lt_trichotomy b s.L.bl.length with hb | hb | hb
    · have hC' : lget s.L b = some C := by rw [← lget_push hb (B := B)]; exact hC
      exact (h.blk b C hC').keep hk hb (fun m' hm' => hget_push ((h.blk b C hC').lt hm')) (fun z i hz => ⟨hz, hget_push (h.kl z _ hz).1⟩)
    · subst hb
      have : some (⟨0, true, B⟩ : VB) = some C := by rw [← hC]; exact (lget_push_new _ _).symm
      injection this with this; subst this
      exact hB s' hk (S.mu1_self _ _ _) (hget_push_new _ _) (fun z hn hl => hk.N hl hn)
    · rw [show s'.L = lpush s.L B from rfl, lget_push_gt hb] at hC; simp at hC
  · have cls : ∀ q Q mq, lget s'.L q = some Q → s'.μ q = some mq → (q < s.L.bl.length ∧ lget s.L q = some Q ∧ s.μ q = some mq ∧ mq.z < s.H.length) ∨ (q = s.L.bl.length ∧ mq.z = s.H.length) := by
      intro q Q mq g1 g2
      rcases Nat.lt_trichotomy q s.L.bl.length with hq | hq | hq
      · have a1 : lget s.L q = some Q := by rw [← lget_push hq (B := B)]; exact g1
        have a2 : s.μ q = some mq := (S.mu1_ne (Nat.ne_of_lt hq)).symm.trans g2
        exact .inl ⟨hq, a1, a2, (h.blk q Q a1).lt a2⟩
      · subst hq
        have e3 : some m = some mq := by rw [← g2]; exact (S.mu1_self _ _ _).symm
        injection e3 with e3; subst e3; exact .inr ⟨rfl, hz⟩
      · rw [show s'.L = lpush s.L B from rfl, lget_push_gt hq] at g1; simp at g1
    rcases cls b C m1 h1 h4 with ⟨a1, a2, a3, a4⟩ | ⟨a1, a2⟩ <;> rcases cls c D m2 h2 h5 with ⟨b1, b2, b3, b4⟩ | ⟨b1, b2⟩
    · exact h.inj b c C D m1 m2 a2 b2 h3 a3 b3 e
    · omega
    · omega
    · omega
  · have := (h.ban z hz').1
    rw [show s'.H = hpush s.H vs from rfl, hpush_len]; omega
  · rcases hown z ho with h1 | h1
    · exact (h.ban z hz').2 h1
    · have := (h.ban z hz').1; omega
  · rw [show s'.H = hpush s.H vs from rfl, hpush_len]; have := h.limH; show s.lim ≤ _; omega
  · rcases Nat.lt_trichotomy b s.L.bl.length with hb | hb | hb
    · exact h.lm b C m' (by rw [← lget_push hb (B := B)]; exact h1) ((S.mu1_ne (Nat.ne_of_lt hb)).symm.trans h2) hl
    · subst hb
      have e3 : some m = some m' := by rw [← h2]; exact (S.mu1_self _ _ _).symm
      injection e3 with e3; subst e3
      have := h.lml _ hl; omega
    · rw [show s'.L = lpush s.L B from rfl, lget_push_gt hb] at h1; simp at h1
  · rw [show s'.H = hpush s.H vs from rfl, hpush_len]; have := h.lml z hl; omega

/-- A phantom block: an empty array that stands for the nil slice. -/
theorem StR.push0 {s : S} (h : StR s) (t : Ty) :
    ∃ s', s'.L = lpush s.L (.arr t []) ∧ s'.H = s.H ∧ s'.μ s.L.bl.length = none ∧ Keep s s' ∧ StR s' ∧ s'.Lim = s.Lim ∧ ∀ z, s.N z → s'.N z := by
  let s' : S := { s with μ := S.mu1 s.μ s.L.bl.length none, L := lpush s.L (.arr t []) }
  have cls : ∀ q Q mq, lget s'.L q = some Q → s'.μ q = some mq → q < s.L.bl.length ∧ lget s.L q = some Q ∧ s.μ q = some mq := by
    intro q Q mq g1 g2
    rcases Nat.lt_trichotomy q s.L.bl.length with hq | hq | hq
    · exact ⟨hq, by rw [← lget_push hq (B := .arr t [])]; exact g1, (S.mu1_ne (Nat.ne_of_lt hq)).symm.trans g2⟩
    · subst hq
      have e3 : none = some mq := by rw [← g2]; exact (S.mu1_self _ _ _).symm
      simp at e3
    · rw [show s'.L = lpush s.L (.arr t []) from rfl, lget_push_gt hq] at g1; simp at g1
  have hown : ∀ z, Own s' z → Own s z := by
    rintro z (⟨b, C, m', h1, h2, h3, rfl⟩ | hl)
    · obtain ⟨_, a, b'⟩ := cls b C m' h1 h3
      exact .inl ⟨b, C, m', a, h2, b', rfl⟩
    · exact .inr hl
  have hk : Keep s s' := by
    refine ⟨rfl, CK.same rfl rfl, rfl, ?_, fun b hb => S.mu1_ne (Nat.ne_of_lt hb), Nat.le_refl _, fun z hz' _ => rfl, fun z ho => .inl (hown z ho), fun b B' hb hB' => ⟨B', ?_, Nat.le_refl _, fun _ => ⟨rfl, fun m' hm' => rfl, fun z i hz => ⟨hz, rfl⟩⟩⟩⟩
    · rw [show s'.L = lpush s.L (.arr t []) from rfl, lpush_len]; omega
    · rw [← lget_push hb (B := .arr t [])]; exact hB'
  refine ⟨s', rfl, rfl, S.mu1_self _ _ _, hk, ⟨fun b C hC => ?_, fun b c C D m1 m2 h1 h2 h3 h4 h5 e => ?_, fun z hz' => ⟨(h.ban z hz').1, fun ho => (h.ban z hz').2 (hown z ho)⟩, h.limH, fun b C m' h1 h2 => h.lm b C m' (cls b C m' h1 h2).2.1 (cls b C m' h1 h2).2.2, h.lml, fun z p hp => ⟨(h.kl z p hp).1, by rw [show s'.L = lpush s.L (.arr t []) from rfl, lpush_len]; have := (h.kl z p hp).2.1; omega, (h.kl z p hp).2.2.1, fun b C m' g1 g2 => (h.kl z p hp).2.2.2 b C m' (cls b C m' g1 g2).2.1 (cls b C m' g1 g2).2.2⟩, h.ka⟩, rfl, fun z hz => ⟨fun ho => hz.1 (hown z ho), hz.2⟩⟩
  · rcases Nat.lt_trichotomy b s.L.bl.length with hb | hb | hb
    · have hC' : lget s.L b = some C := by rw [← lget_push hb (B := .arr t [])]; exact hC
      exact (h.blk b C hC').keep hk hb (fun m' hm' => rfl) (fun z i hz => ⟨hz, rfl⟩)
    · subst hb
      have : some (⟨0, true, .arr t []⟩ : VB) = some C := by rw [← hC]; exact (lget_push_new _ _).symm
      injection this with this; subst this
      unfold BR; simp only
      rw [show s'.μ s.L.bl.length = none from S.mu1_self _ _ _]; trivial
    · rw [show s'.L = lpush s.L (.arr t []) from rfl, lget_push_gt hb] at hC; simp at hC
  · obtain ⟨_, a1, a2⟩ := cls b C m1 h1 h4
    obtain ⟨_, b1, b2⟩ := cls c D m2 h2 h5
    exact h.inj b c C D m1 m2 a1 b1 h3 a2 b2 e

/-- An owned block changes. -/
theorem StR.setL {s : S} (h : StR s) {b : Nat} {B : VB} {m : MB} (hb : lget s.L b = some B) (hr : B.rw = true) (hm : s.μ b = some m) (B' : VB) (hr' : B'.rw = true) (hv : B'.ver = B.ver + 1) (k' : Blk)
    (hB : ∀ s', Keep s s' → s'.μ b = some m → hget s'.H m.z = some k' → (∀ z, s.N z → z < s.H.length → s'.N z) → BR s' b B') :
    ∃ s', s'.L = lset s.L b B' ∧ s'.H = s.H.set m.z (some k') ∧ s'.μ = s.μ ∧ Keep s s' ∧ StR s' ∧ s'.Lim = s.Lim := by
  let s' : S := { s with L := lset s.L b B', H := s.H.set m.z (some k') }
  have hlb := lget_lt hb
  have hz := (h.blk b B hb).lt hm
  have cls : ∀ q Q, lget s'.L q = some Q → (q = b ∧ Q = B') ∨ (q ≠ b ∧ lget s.L q = some Q) := by
    intro q Q g
    by_cases e : b = q
    · subst e; left; have : some B' = some Q := by rw [← g]; exact (lget_set_self hlb).symm
      injection this with this; exact ⟨rfl, this.symm⟩
    · right; exact ⟨fun x => e x.symm, by rw [← lget_set_ne e (B := B')]; exact g⟩
  have hown : ∀ z, Own s' z → Own s z := by
    rintro z (⟨q, Q, m', h1, h2, h3, rfl⟩ | hl)
    · rcases cls q Q h1 with ⟨rfl, rfl⟩ | ⟨_, g⟩
      · exact .inl ⟨q, B, m', hb, hr, h3, rfl⟩
      · exact .inl ⟨q, Q, m', g, h2, h3, rfl⟩
    · exact .inr hl
  have hoz : Own s m.z := .inl ⟨b, B, m, hb, hr, hm, rfl⟩
  have hlm : ∀ q Q m', lget s'.L q = some Q → s'.μ q = some m' → ¬ s'.Lim m'.z := by
    intro q Q m' h1 h2
    rcases cls q Q h1 with ⟨rfl, rfl⟩ | ⟨_, g⟩
    · exact h.lm q B m' hb h2
    · exact h.lm q Q m' g h2
  have hk : Keep s s' := by
    refine ⟨rfl, CK.same rfl rfl, rfl, by simp [s', lset_len], fun b hb => rfl, by simp [s'], fun z hz' hn => ?_, fun z ho => .inl (hown z ho), fun q Q hq hQ => ?_⟩
    · exact hget_set_ne' (fun e => hn (e ▸ hoz))
    · rcases cls q Q hQ with ⟨rfl, rfl⟩ | ⟨hne, g⟩
      · exact ⟨B, hb, by omega, fun e => absurd e (by omega)⟩
      · exact ⟨Q, g, Nat.le_refl _, fun _ => ⟨rfl, fun m' hm' => hget_set_ne' (h.own_ne hb hr hm g hm' (fun e => hne e.symm)), fun z i hz => ⟨hz, hget_set_ne' ((h.kl z _ hz).2.2.2 b B m hb hm)⟩⟩⟩
  refine ⟨s', rfl, rfl, rfl, hk, ⟨fun q Q hQ => ?_, fun q c Q D m1 m2 h1 h2 h3 h4 h5 e => ?_, fun z hz' => ⟨by simp [s']; exact (h.ban z hz').1, fun ho => (h.ban z hz').2 (hown z ho)⟩, by simp [s']; exact h.limH, hlm, fun z hl => by simp [s']; exact h.lml z hl, fun z p hp => ?_, fun z p hp => by rw [show s'.H = s.H.set m.z (some k') from rfl, hget_set_ne' ((h.kl z p hp).2.2.2 b B m hb hm)]; exact h.ka z p hp⟩, rfl⟩
  rotate_right
  · obtain ⟨k1, k2, k3, k4⟩ := h.kl z p hp
    refine ⟨by simp [s']; exact k1, by rw [show s'.L = lset s.L b B' from rfl, lset_len]; exact k2, k3, fun q Q m' g1 g2 => ?_⟩
    rcases cls q Q g1 with ⟨rfl, rfl⟩ | ⟨_, g⟩
    · exact k4 q B m' hb g2
    · exact k4 q Q m' g g2
  · rcases cls q Q hQ with ⟨rfl, rfl⟩ | ⟨hne, g⟩
    · exact hB s' hk hm (hget_set_self' hz) (fun z hn hl => hk.N hl hn)
    · exact (h.blk q Q g).keep hk (lget_lt g) (fun m' hm' => hget_set_ne' (h.own_ne hb hr hm g hm' (fun e => hne e.symm))) (fun z i hz => ⟨hz, hget_set_ne' ((h.kl z _ hz).2.2.2 b B m hb hm)⟩)
  · rcases cls q Q h1 with ⟨rfl, rfl⟩ | ⟨_, g⟩ <;> rcases cls c D h2 with ⟨rfl, rfl⟩ | ⟨_, g'⟩
    · rfl
    · exact h.inj q c B D m1 m2 hb g' hr h4 h5 e
    · exact h.inj q c Q B m1 m2 g hb h3 h4 h5 e
    · exact h.inj q c Q D m1 m2 g g' h3 h4 h5 e

theorem StR.set {s : S} (h : StR s) {b : Nat} {B : VB} {m : MB} (hb : lget s.L b = some B) (hr : B.rw = true) (hm : s.μ b = some m) (B' : VB) (hr' : B'.rw = true) (hv : B'.ver = B.ver + 1) (k' : Blk)
    (hB : ∀ s', Keep s s' → s'.μ b = some m → hget s'.H m.z = some k' → (∀ z, s.N z → z < s.H.length → s'.N z) → BR s' b B') :
    ∃ s', s'.L = lset s.L b B' ∧ s'.H = s.H.set m.z (some k') ∧ s'.μ = s.μ ∧ Keep s s' ∧ StR s' := by
  obtain ⟨s', a1, a2, a3, a4, a5, _⟩ := h.setL hb hr hm B' hr' hv k' hB
  exact ⟨s', a1, a2, a3, a4, a5⟩

/-- The same for a phantom: nothing changes in the heap. -/
theorem StR.set0 {s : S} (h : StR s) {b : Nat} {B : VB} (hb : lget s.L b = some B) (hr : B.rw = true) (hm : s.μ b = none) (B' : VB) (hr' : B'.rw = true) (hv : B'.ver = B.ver + 1)
    (hB : ∀ s', s'.μ b = none → BR s' b B') :
    ∃ s', s'.L = lset s.L b B' ∧ s'.H = s.H ∧ s'.μ = s.μ ∧ Keep s s' ∧ StR s' := by
  let s' : S := { s with L := lset s.L b B' }
  have hlb := lget_lt hb
  have cls : ∀ q Q, lget s'.L q = some Q → (q = b ∧ Q = B') ∨ (q ≠ b ∧ lget s.L q = some Q) := by
    intro q Q g
    by_cases e : b = q
    · subst e; left; have : some B' = some Q := by rw [← g]; exact (lget_set_self hlb).symm
      injection this with this; exact ⟨rfl, this.symm⟩
    · right; exact ⟨fun x => e x.symm, by rw [← lget_set_ne e (B := B')]; exact g⟩
  have hown : ∀ z, Own s' z → Own s z := by
    rintro z (⟨q, Q, m', h1, h2, h3, rfl⟩ | hl)
    · rcases cls q Q h1 with ⟨rfl, rfl⟩ | ⟨_, g⟩
      · exact .inl ⟨q, B, m', hb, hr, h3, rfl⟩
      · exact .inl ⟨q, Q, m', g, h2, h3, rfl⟩
    · exact .inr hl
  have hk : Keep s s' := by
    refine ⟨rfl, CK.same rfl rfl, rfl, by simp [s', lset_len], fun b hb => rfl, Nat.le_refl _, fun z hz' hn => rfl, fun z ho => .inl (hown z ho), fun q Q hq hQ => ?_⟩
    rcases cls q Q hQ with ⟨rfl, rfl⟩ | ⟨hne, g⟩
    · exact ⟨B, hb, by omega, fun e => absurd e (by omega)⟩
    · exact ⟨Q, g, Nat.le_refl _, fun _ => ⟨rfl, fun m' hm' => rfl, fun z i hz => ⟨hz, rfl⟩⟩⟩
  refine ⟨s', rfl, rfl, rfl, hk, ⟨fun q Q hQ => ?_, fun q c Q D m1 m2 h1 h2 h3 h4 h5 e => ?_, fun z hz' => ⟨(h.ban z hz').1, fun ho => (h.ban z hz').2 (hown z ho)⟩, h.limH, fun q Q m' h1 h2 => ?_, h.lml, fun z p hp => ?_, h.ka⟩⟩
  rotate_right
  · obtain ⟨k1, k2, k3, k4⟩ := h.kl z p hp
    refine ⟨k1, by rw [show s'.L = lset s.L b B' from rfl, lset_len]; exact k2, k3, fun q Q m' g1 g2 => ?_⟩
    rcases cls q Q g1 with ⟨rfl, rfl⟩ | ⟨_, g⟩
    · exact k4 q B m' hb g2
    · exact k4 q Q m' g g2
  rotate_left 2
  · rcases cls q Q h1 with ⟨rfl, rfl⟩ | ⟨_, g⟩
    · exact h.lm q B m' hb h2
    · exact h.lm q Q m' g h2
  · rcases cls q Q hQ with ⟨rfl, rfl⟩ | ⟨hne, g⟩
    · exact hB s' hm
    · exact (h.blk q Q g).keep hk (lget_lt g) (fun m' hm' => rfl) (fun z i hz => ⟨hz, rfl⟩)
  · rcases cls q Q h1 with ⟨rfl, rfl⟩ | ⟨_, g⟩ <;> rcases cls c D h2 with ⟨rfl, rfl⟩ | ⟨_, g'⟩
    · rfl
    · exact h.inj q c B D m1 m2 hb g' hr h4 h5 e
    · exact h.inj q c Q B m1 m2 g hb h3 h4 h5 e
    · exact h.inj q c Q D m1 m2 g g' h3 h4 h5 e

/-- An owned block goes out of the store (its cells stay in the heap, or are gone too); it is still owned. -/
theorem StR.kill {s : S} (h : StR s) {b : Nat} {B : VB} (hb : lget s.L b = some B) (hr : B.rw = true) (gone : Bool) :
    ∃ s', s'.L = lkill s.L b ∧ s'.H = (match gone, s.μ b with | true, some m => s.H.set m.z none | _, _ => s.H) ∧ s'.μ = s.μ ∧ Keep s s' ∧ StR s' ∧ (∀ z, s'.Lim z ↔ s.Lim z ∨ ∃ m, s.μ b = some m ∧ m.z = z) ∧ ∀ z, Own s' z ↔ Own s z := by
  let H' : Heap := match gone, s.μ b with | true, some m => s.H.set m.z none | _, _ => s.H
  let s' : S := { s with L := lkill s.L b, H := H', Lim := fun z => s.Lim z ∨ ∃ m, s.μ b = some m ∧ m.z = z }
  have hlen : H'.length = s.H.length := by simp only [H']; split <;> simp
  have hH : ∀ z, (∀ m, s.μ b = some m → m.z ≠ z) → hget H' z = hget s.H z := by
    intro z hz
    simp only [H']
    split
    · rename_i m hm; exact hget_set_ne' (hz m hm)
    · rfl
  have hown : ∀ z, Own s' z ↔ Own s z := by
    intro z
    constructor
    · rintro (⟨q, Q, m', h1, h2, h3, rfl⟩ | (hl | ⟨m, hm, rfl⟩) | hp)
      · exact .inl ⟨q, Q, m', (lget_kill_some h1).2, h2, h3, rfl⟩
      · exact .inr (.inl hl)
      · exact .inl ⟨b, B, m, hb, hr, hm, rfl⟩
      · exact .inr (.inr hp)
    · rintro (⟨q, Q, m', h1, h2, h3, rfl⟩ | hl | hp)
      · by_cases e : b = q
        · subst e; exact .inr (.inl (.inr ⟨m', h3, rfl⟩))
        · exact .inl ⟨q, Q, m', by rw [show s'.L = lkill s.L b from rfl, lget_kill_ne e]; exact h1, h2, h3, rfl⟩
      · exact .inr (.inl (.inl hl))
      · exact .inr (.inr hp)
  have hk : Keep s s' := by
    refine ⟨rfl, CK.same rfl rfl, rfl, by simp [s', lkill_len], fun b hb => rfl, by rw [show s'.H = H' from rfl, hlen]; exact Nat.le_refl _, fun z hz' hn => ?_, fun z ho => .inl ((hown z).1 ho), fun q Q hq hQ => ?_⟩
    · exact hH z (fun m hm e => hn (e ▸ .inl ⟨b, B, m, hb, hr, hm, rfl⟩))
    · obtain ⟨hne, g⟩ := lget_kill_some hQ
      exact ⟨Q, g, Nat.le_refl _, fun _ => ⟨rfl, fun m' hm' => hH _ (fun m hm => h.own_ne hb hr hm g hm' hne), fun z i hz => ⟨hz, hH _ (fun m hm => (h.kl z _ hz).2.2.2 b B m hb hm)⟩⟩⟩
  refine ⟨s', rfl, rfl, rfl, hk, ⟨fun q Q hQ => ?_, fun q c Q D m1 m2 h1 h2 h3 h4 h5 e => ?_, fun z hz' => ⟨by rw [show s'.H = H' from rfl, hlen]; exact (h.ban z hz').1, fun ho => (h.ban z hz').2 ((hown z).1 ho)⟩, by rw [show s'.H = H' from rfl, hlen]; exact h.limH, fun q Q m' h1 h2 => ?_, fun z hl => ?_, fun z p hp => ?_, fun z p hp => by rw [show s'.H = H' from rfl, hH _ (fun m hm => (h.kl z p hp).2.2.2 b B m hb hm)]; exact h.ka z p hp⟩, fun z => Iff.rfl, hown⟩
  rotate_right
  · obtain ⟨k1, k2, k3, k4⟩ := h.kl z p hp
    refine ⟨by rw [show s'.H = H' from rfl, hlen]; exact k1, by rw [show s'.L = lkill s.L b from rfl, lkill_len]; exact k2, ?_, fun q Q m' g1 g2 => k4 q Q m' (lget_kill_some g1).2 g2⟩
    rintro (hl | ⟨m, hm, e⟩)
    · exact k3 hl
    · exact k4 b B m hb hm e
  · obtain ⟨hne, g⟩ := lget_kill_some hQ
    exact (h.blk q Q g).keep hk (lget_lt g) (fun m' hm' => hH _ (fun m hm => h.own_ne hb hr hm g hm' hne)) (fun z i hz => ⟨hz, hH _ (fun m hm => (h.kl z _ hz).2.2.2 b B m hb hm)⟩)
  · exact h.inj q c Q D m1 m2 (lget_kill_some h1).2 (lget_kill_some h2).2 h3 h4 h5 e
  · obtain ⟨hne, g⟩ := lget_kill_some h1
    rintro (hl | ⟨m, hm, e⟩)
    · exact h.lm q Q m' g h2 hl
    · exact h.own_ne hb hr hm g h2 hne e
  · rw [show s'.H = H' from rfl, hlen]
    rcases hl with hl | ⟨m, hm, rfl⟩
    · exact h.lml z hl
    · exact (h.blk b B hb).lt hm

/-- What is owned by no block comes back as one. -/
theorem StR.adopt {s : S} (h : StR s) (B : Body) (m : MB) (hz : s.Lim m.z)
    (hB : ∀ s', Keep s s' → s'.μ s.L.bl.length = some m → s'.H = s.H → (∀ z, s'.N z ↔ s.N z) → BR s' s.L.bl.length ⟨0, true, B⟩) :
    ∃ s', s'.L = lpush s.L B ∧ s'.H = s.H ∧ s'.μ s.L.bl.length = some m ∧ Keep s s' ∧ StR s' ∧ (∀ z, s'.Lim z ↔ s.Lim z ∧ z ≠ m.z) ∧ ∀ z, Own s' z ↔ Own s z := by
  let s' : S := { s with μ := S.mu1 s.μ s.L.bl.length (some m), L := lpush s.L B, Lim := fun z => s.Lim z ∧ z ≠ m.z }
  have cls : ∀ q Q mq, lget s'.L q = some Q → s'.μ q = some mq → (q < s.L.bl.length ∧ lget s.L q = some Q ∧ s.μ q = some mq ∧ mq.z ≠ m.z) ∨ (q = s.L.bl.length ∧ mq = m ∧ Q = ⟨0, true, B⟩) := by
    intro q Q mq g1 g2
    rcases Nat.lt_trichotomy q s.L.bl.length with hq | hq | hq
    · have a1 : lget s.L q = some Q := by rw [← lget_push hq (B := B)]; exact g1
      have a2 : s.μ q = some mq := (S.mu1_ne (Nat.ne_of_lt hq)).symm.trans g2
      exact .inl ⟨hq, a1, a2, fun e => h.lm q Q mq a1 a2 (e ▸ hz)⟩
    · subst hq
      have e3 : some m = some mq := by rw [← g2]; exact (S.mu1_self _ _ _).symm
      have e4 : some (⟨0, true, B⟩ : VB) = some Q := by rw [← g1]; exact (lget_push_new _ _).symm
      injection e3 with e3; injection e4 with e4; exact .inr ⟨rfl, e3.symm, e4.symm⟩
    · rw [show s'.L = lpush s.L B from rfl, lget_push_gt hq] at g1; simp at g1
  have hown : ∀ z, Own s' z ↔ Own s z := by
    intro z
    constructor
    · rintro (⟨q, Q, m', h1, h2, h3, rfl⟩ | hl | hp)
      · rcases cls q Q m' h1 h3 with ⟨_, a, b, _⟩ | ⟨_, rfl, _⟩
        · exact .inl ⟨q, Q, m', a, h2, b, rfl⟩
        · exact .inr (.inl hz)
      · exact .inr (.inl hl.1)
      · exact .inr (.inr hp)
    · rintro (⟨q, Q, m', h1, h2, h3, rfl⟩ | hl | hp)
      · have hq := lget_lt h1
        exact .inl ⟨q, Q, m', by rw [show s'.L = lpush s.L B from rfl, lget_push hq]; exact h1, h2, (S.mu1_ne (Nat.ne_of_lt hq)).trans h3, rfl⟩
      · by_cases e : z = m.z
        · exact .inl ⟨s.L.bl.length, _, m, lget_push_new _ _, rfl, S.mu1_self _ _ _, e.symm⟩
        · exact .inr (.inl ⟨hl, e⟩)
      · exact .inr (.inr hp)
  have hk : Keep s s' := by
    refine ⟨rfl, CK.same rfl rfl, rfl, ?_, fun b hb => S.mu1_ne (Nat.ne_of_lt hb), Nat.le_refl _, fun z hz' _ => rfl, fun z ho => .inl ((hown z).1 ho), fun b B' hb hB' => ⟨B', ?_, Nat.le_refl _, fun _ => ⟨rfl, fun m' hm' => rfl, fun z i hz => ⟨hz, rfl⟩⟩⟩⟩
    · rw [show s'.L = lpush s.L B from rfl, lpush_len]; omega
    · rw [← lget_push hb (B := B)]; exact hB'
  refine ⟨s', rfl, rfl, S.mu1_self _ _ _, hk, ⟨fun b C hC => ?_, fun b c C D m1 m2 h1 h2 h3 h4 h5 e => ?_, fun z hz' => ⟨(h.ban z hz').1, fun ho => (h.ban z hz').2 ((hown z).1 ho)⟩, h.limH, fun b C m' h1 h2 hl => ?_, fun z hl => h.lml z hl.1, fun z p hp => ?_, h.ka⟩, fun z => Iff.rfl, hown⟩
  rotate_right
  · obtain ⟨k1, k2, k3, k4⟩ := h.kl z p hp
    refine ⟨k1, by rw [show s'.L = lpush s.L B from rfl, lpush_len]; omega, fun hl => k3 hl.1, fun q Q m' g1 g2 => ?_⟩
    rcases cls q Q m' g1 g2 with ⟨_, a, b, _⟩ | ⟨_, rfl, _⟩
    · exact k4 q Q m' a b
    · exact fun e => k3 (e ▸ hz)
  · rcases Nat.lt_trichotomy b s.L.bl.length with hb | hb | hb
    · have hC' : lget s.L b = some C := by rw [← lget_push hb (B := B)]; exact hC
      exact (h.blk b C hC').keep hk hb (fun m' hm' => rfl) (fun z i hz => ⟨hz, rfl⟩)
    · subst hb
      have : some (⟨0, true, B⟩ : VB) = some C := by rw [← hC]; exact (lget_push_new _ _).symm
      injection this with this; subst this
      exact hB s' hk (S.mu1_self _ _ _) rfl (fun z => ⟨fun hn => ⟨fun ho => hn.1 ((hown z).2 ho), hn.2⟩, fun hn => ⟨fun ho => hn.1 ((hown z).1 ho), hn.2⟩⟩)
    · rw [show s'.L = lpush s.L B from rfl, lget_push_gt hb] at hC; simp at hC
  · rcases cls b C m1 h1 h4 with ⟨a1, a2, a3, a4⟩ | ⟨a1, rfl, _⟩ <;> rcases cls c D m2 h2 h5 with ⟨b1, b2, b3, b4⟩ | ⟨b1, rfl, _⟩
    · exact h.inj b c C D m1 m2 a2 b2 h3 a3 b3 e
    · exact absurd e a4
    · exact absurd e.symm b4
    · omega
  · rcases cls b C m' h1 h2 with ⟨_, a, b', _⟩ | ⟨_, rfl, _⟩
    · exact h.lm b C m' a b' hl.1
    · exact hl.2 rfl

/-- Kids of a block no more. -/
def unKid (s : S) (b : Nat) : Nat → Option (Nat × Nat) := fun z => match s.Kid z with
  | some p => if p.1 = b then none else some p
  | none => none

theorem unKid_some {s : S} {b z : Nat} {p : Nat × Nat} (h : unKid s b z = some p) : s.Kid z = some p ∧ p.1 ≠ b := by
  unfold unKid at h
  split at h
  · rename_i q hq
    split at h
    · simp at h
    · rename_i hne
      injection h with h; subst h; exact ⟨hq, hne⟩
  · simp at h
theorem unKid_ne {s : S} {b z : Nat} {p : Nat × Nat} (h : s.Kid z = some p) (hp : p.1 ≠ b) : unKid s b z = some p := by
  unfold unKid; rw [h]; simp [hp]
theorem unKid_eq {s : S} {b z i : Nat} (h : s.Kid z = some (b, i)) : unKid s b z = none := by
  unfold unKid; rw [h]; simp

/-- An owned array is frozen. -/
theorem StR.frz {s : S} (h : StR s) {b v : Nat} {B0 : Body} (hb : lget s.L b = some ⟨v, true, B0⟩) (ty : Ty) (xs : List ty.T)
    (hB : ∀ s', Keep s s' → s'.H = s.H → s'.μ = s.μ → (∀ m, s.μ b = some m → s'.N m.z) → (∀ z i, s.Kid z = some (b, i) → s'.N z) → BR s' b ⟨v + 1, false, .arr ty xs⟩) :
    ∃ s', s'.L = lset s.L b ⟨v + 1, false, .arr ty xs⟩ ∧ s'.H = s.H ∧ s'.μ = s.μ ∧ Keep s s' ∧ StR s' ∧ (∀ m, s.μ b = some m → s'.N m.z) ∧ (∀ z i, s.Kid z = some (b, i) → s'.N z) ∧ (∀ z, Own s' z → Own s z) ∧ s'.Lim = s.Lim := by
  have hlb := lget_lt hb
  let B1 : VB := ⟨v + 1, false, .arr ty xs⟩
  let s' : S := { s with L := lset s.L b B1, Kid := unKid s b }
  have cls : ∀ q Q, lget s'.L q = some Q → (q = b ∧ Q = B1) ∨ (q ≠ b ∧ lget s.L q = some Q) := by
    intro q Q g
    by_cases e : b = q
    · subst e; left; have : some B1 = some Q := by rw [← g]; exact (lget_set_self hlb).symm
      injection this with this; exact ⟨rfl, this.symm⟩
    · right; exact ⟨fun x => e x.symm, by rw [← lget_set_ne e (B := B1)]; exact g⟩
  have hown' : ∀ z, Own s' z → (∃ q Q m', q ≠ b ∧ lget s.L q = some Q ∧ Q.rw = true ∧ s.μ q = some m' ∧ m'.z = z) ∨ s.Lim z ∨ ∃ p, s.Kid z = some p ∧ p.1 ≠ b := by
    rintro z (⟨q, Q, m', h1, h2, h3, rfl⟩ | hl | ⟨p, hp⟩)
    · rcases cls q Q h1 with ⟨rfl, rfl⟩ | ⟨hne, g⟩
      · simp [B1] at h2
      · exact .inl ⟨q, Q, m', hne, g, h2, h3, rfl⟩
    · exact .inr (.inl hl)
    · exact .inr (.inr ⟨p, unKid_some hp⟩)
  have hown : ∀ z, Own s' z → Own s z := by
    intro z hz
    rcases hown' z hz with ⟨q, Q, m', _, g, h2, h3, e⟩ | hl | ⟨p, hp, _⟩
    · exact .inl ⟨q, Q, m', g, h2, h3, e⟩
    · exact .inr (.inl hl)
    · exact .inr (.inr ⟨p, hp⟩)
  have hk : Keep s s' := by
    refine ⟨rfl, CK.same rfl rfl, rfl, by simp [s', lset_len], fun b hb => rfl, Nat.le_refl _, fun z hz' hn => rfl, fun z ho => .inl (hown z ho), fun q Q hq hQ => ?_⟩
    rcases cls q Q hQ with ⟨rfl, rfl⟩ | ⟨hne, g⟩
    · exact ⟨_, hb, by simp [B1], fun e => absurd e (by simp [B1])⟩
    · exact ⟨Q, g, Nat.le_refl _, fun _ => ⟨rfl, fun m' hm' => rfl, fun z i hz => ⟨unKid_ne hz hne, rfl⟩⟩⟩
  have hN : ∀ m, s.μ b = some m → s'.N m.z := by
    intro m hm
    refine ⟨fun ho => ?_, fun hban => ?_⟩
    · rcases hown' _ ho with ⟨q, Q, m', hne, g, h2, h3, e⟩ | hl | ⟨p, hp, _⟩
      · exact hne (h.inj q b Q _ m' m g hb h2 h3 hm e)
      · exact h.lm b _ m hb hm hl
      · exact (h.kl _ _ hp).2.2.2 b _ m hb hm rfl
    · exact (h.ban _ hban).2 (.inl ⟨b, _, m, hb, rfl, hm, rfl⟩)
  have hN2 : ∀ z i, s.Kid z = some (b, i) → s'.N z := by
    intro z i hz
    obtain ⟨k1, k2, k3, k4⟩ := h.kl z _ hz
    refine ⟨fun ho => ?_, fun hban => (h.ban _ hban).2 (.inr (.inr ⟨_, hz⟩))⟩
    rcases hown' _ ho with ⟨q, Q, m', hne, g, h2, h3, e⟩ | hl | ⟨p, hp, hne⟩
    · exact k4 q Q m' g h3 e
    · exact k3 hl
    · rw [hz] at hp; injection hp with hp; subst hp; exact hne rfl
  refine ⟨s', rfl, rfl, rfl, hk, ⟨fun q Q hQ => ?_, fun q c Q D m1 m2 h1 h2 h3 h4 h5 e => ?_, fun z hz' => ⟨(h.ban z hz').1, fun ho => (h.ban z hz').2 (hown z ho)⟩, h.limH, fun q Q m' h1 h2 => (by
    rcases cls q Q h1 with ⟨rfl, rfl⟩ | ⟨_, g⟩
    · exact h.lm q _ m' hb h2
    · exact h.lm q Q m' g h2), h.lml, fun z p hp => ?_, fun z p hp => h.ka z p (unKid_some hp).1⟩, hN, hN2, hown, rfl⟩
  rotate_right
  · obtain ⟨k1, k2, k3, k4⟩ := h.kl z p (unKid_some hp).1
    refine ⟨k1, by rw [show s'.L = lset s.L b B1 from rfl, lset_len]; exact k2, k3, fun q Q m' g1 g2 => ?_⟩
    rcases cls q Q g1 with ⟨rfl, rfl⟩ | ⟨_, g⟩
    · exact k4 q _ m' hb g2
    · exact k4 q Q m' g g2
  · rcases cls q Q hQ with ⟨rfl, rfl⟩ | ⟨hne, g⟩
    · exact hB s' hk rfl rfl hN hN2
    · exact (h.blk q Q g).keep hk (lget_lt g) (fun m' hm' => rfl) (fun z i hz => ⟨unKid_ne hz hne, rfl⟩)
  · rcases cls q Q h1 with ⟨rfl, rfl⟩ | ⟨_, g⟩
    · simp [B1] at h3
    · rcases cls c D h2 with ⟨rfl, rfl⟩ | ⟨_, g'⟩
      · exact h.inj q c Q _ m1 m2 g hb h3 h4 h5 e
      · exact h.inj q c Q D m1 m2 g g' h3 h4 h5 e

/-- What can be frozen. -/
def okF : Body → Prop
  | .cells _ => False
  | .rows _ _ (some _) => False
  | _ => True

theorem RowC.rep {K M : Nat → Prop} {H : Heap} {lim : Nat} {t : Ty} {x : List t.T} {v : Value} (h : RowC K H lim t x v) (hf : t.flat = true) (hk : ∀ z, K z → M z) : Rep M H (.sl t) x [v] := by
  unfold Rep
  rcases h with ⟨rfl, rfl⟩ | ⟨z, o, k, rfl, h2, h3, h4, h5, h6, h7⟩
  · exact .inl ⟨rfl, rfl⟩
  · exact .inr (.inr ⟨z, o, k, rfl, hk z h2, h3, h6.1, fun i hi => Rep.flat t hf (h7 i hi)⟩)

theorem StR.freezeB {s : S} (h : StR s) (b : Nat) (hc : ∀ B, lget s.L b = some B → okF B.body) :
    ∃ s', s'.L = freezeB s.L b ∧ s'.H = s.H ∧ s'.μ = s.μ ∧ Keep s s' ∧ StR s' ∧ (∀ B m, lget s.L b = some B → s.μ b = some m → s'.N m.z) ∧ (∀ z, Own s' z → Own s z) ∧ s'.Lim = s.Lim ∧ (∀ B t xs, lget s.L b = some B → B.body = .rows t xs none → ∀ z i, s.Kid z = some (b, i) → s'.N z) := by
  rcases hb : lget s.L b with _ | ⟨v, rw, B⟩
  · exact ⟨s, by simp [Pv.freezeB, hb], rfl, rfl, Keep.refl s, h, fun B m e => by simp at e, fun z hz => hz, rfl, fun B t xs e => by simp at e⟩
  have hB := h.blk b _ hb
  have hok := hc _ hb
  cases B with
  | cells cs => exact absurd hok id
  | arr ty xs =>
    cases rw with
    | false =>
      refine ⟨s, by simp [Pv.freezeB, hb], rfl, rfl, Keep.refl s, h, fun B' m e hm => ?_, fun z hz => hz, rfl, fun B t xs e e2 => by cases e; cases e2⟩
      injection e with e; subst e
      unfold BR at hB
      simp only at hB
      rw [hm] at hB
      obtain ⟨_, _, k, _, _, _, _, h7⟩ := hB
      exact h7 trivial
    | true =>
      obtain ⟨s', a1, a2, a3, a4, a5, a6, a7, a8, a9⟩ := h.frz hb ty xs (fun s' hk e1 e2 hN _ => by
        unfold BR at hB ⊢
        simp only at hB ⊢
        rw [e2]
        cases e : s.μ b with
        | none => rw [e] at hB; exact hB
        | some m =>
          rw [e] at hB
          obtain ⟨g1, g2, k, g3, g4, g5, g6, g7⟩ := hB
          exact ⟨g1, g2, k, by rw [e1]; exact g3, g4, fun i hi => hk.repN (g5 i hi), fun x => absurd x (by decide), fun _ => hN m e⟩)
      exact ⟨s', by simp [Pv.freezeB, hb, a1], a2, a3, a4, a5, fun B m e hm => a6 m hm, a8, a9, fun B t xs e e2 => by cases e; cases e2⟩
  | rows t xs ho =>
    cases ho with
    | some i => exact absurd hok id
    | none =>
    unfold BR at hB
    simp only at hB
    obtain ⟨r0, r1, r⟩ := hB
    cases rw with
    | false => simp at r0
    | true =>
      obtain ⟨s', a1, a2, a3, a4, a5, a6, a7, a8, a9⟩ := h.frz hb (.sl t) xs (fun s' hk e1 e2 hN hN2 => by
        unfold BR
        simp only
        rw [e2]
        cases e : s.μ b with
        | none => rw [e] at r; exact r
        | some m =>
          rw [e] at r
          obtain ⟨g1, g2, k, g3, g4, g5, g6, g7⟩ := r
          refine ⟨g1, g2, k, by rw [e1]; exact g3, by rw [show (Ty.sl t).size = 1 from rfl, Nat.mul_one]; exact g4, fun i hi => ?_, fun x => absurd x (by decide), fun _ => hN m e⟩
          obtain ⟨v, q1, q2⟩ := g7 i hi (by simp)
          rw [show (Ty.sl t).size = 1 from rfl, Nat.mul_one]
          have : (k.cells.drop (m.sh + i)).take 1 = [v] := by
            obtain ⟨hl, he⟩ := List.getElem?_eq_some_iff.1 q1
            rw [List.drop_eq_getElem_cons hl, List.take_succ_cons, List.take_zero, he]
          rw [this, e1]
          exact q2.rep r1 (fun z hz => hN2 z i hz))
      exact ⟨s', by simp [Pv.freezeB, hb, a1], a2, a3, a4, a5, fun B m e hm => a6 m hm, a8, a9, fun _ _ _ _ _ => a7⟩

/-- The same for any block: blocks of cells, and rows with a hole, stay as they are. -/
theorem StR.freezeAny {s : S} (h : StR s) (b : Nat) : ∃ s', s'.L = Pv.freezeB s.L b ∧ s'.H = s.H ∧ s'.μ = s.μ ∧ Keep s s' ∧ StR s' ∧ (∀ z, Own s' z → Own s z) ∧ s'.Lim = s.Lim := by
  by_cases hc : ∀ B, lget s.L b = some B → okF B.body
  · obtain ⟨s', a1, a2, a3, a4, a5, _, a7, a8, _⟩ := h.freezeB b hc
    exact ⟨s', a1, a2, a3, a4, a5, a7, a8⟩
  · refine ⟨s, ?_, rfl, rfl, Keep.refl s, h, fun _ h => h, rfl⟩
    simp only [Classical.not_forall] at hc
    obtain ⟨B, hb, hcs⟩ := hc
    obtain ⟨v, r, bo⟩ := B
    unfold Pv.freezeB; rw [hb]
    cases bo with
    | cells cs => cases r <;> rfl
    | arr t xs => exact absurd trivial hcs
    | rows t xs ho =>
      cases ho with
      | none => exact absurd trivial hcs
      | some i => cases r <;> rfl

end Go.Pv
