/-
  Calls: a call by value agrees with the call in the first interpreter.
  Conditions: the state is a good one; the callee agrees.
-/
import Derived.Test.YtpjlbjkeekobnaaDoorVCall2
set_option linter.all false
namespace Go.Pv
open Go.Ev

theorem outs_blk {s : S} {N : Nat → Prop} {H' : Heap} {lim : Nat} : ∀ {ps : List (PM × Ty)} {args : List PV} {ws : List Value} {oids : List (List Nat)} {vs : List TV} {L L' : LS}, inOuts ps args vs L = some L' → (lentOf ps args).Nodup → All2 (ER s) args ws →
    HRs N H' lim (outKd ps) vs (outVs ps ws) oids → ∀ c ∈ lentOf ps args, ∃ B', lget L' c = some B' ∧
      (∀ sA : S, sA.μ = s.μ → sA.H = H' → sA.L.clk = L.clk → sA.lim = lim → (∀ z, N z → sA.N z) → BR sA c B') ∧ ∀ m, s.μ c = some m → m.z ∈ headsOf ps oids
  | [], [], [], oids, vs, L, L', h, hn, hr, hh, c, hc => by simp [lentOf] at hc
  | (m, t) :: ps, p :: args, w :: ws, oids, vs, L, L', h, hn, hr, hh, c, hc => by
    obtain ⟨hr1, hr2⟩ := hr
    cases m with
    | ro =>
      simp only [inOuts] at h
      have e : lentOf ((.ro, t) :: ps) (p :: args) = lentOf ps args := by cases p <;> rfl
      rw [e] at hn hc
      exact outs_blk (ps := ps) h hn hr2 hh c hc
    | cl g =>
      simp only [inOuts] at h
      have e : lentOf ((.cl g, t) :: ps) (p :: args) = lentOf ps args := by cases p <;> rfl
      rw [e] at hn hc
      exact outs_blk (ps := ps) h hn hr2 hh c hc
    | mv =>
      simp only [inOuts] at h
      have e : lentOf ((.mv, t) :: ps) (p :: args) = lentOf ps args := by cases p <;> rfl
      rw [e] at hn hc
      exact outs_blk (ps := ps) h hn hr2 hh c hc
    | io =>
      simp only [inOuts] at h
      split at h
      · rename_i b v vs'
        replace h := ob h; obtain ⟨L1, h1, h⟩ := h
        simp only [lentOf] at hn hc
        obtain ⟨hn1, hn2⟩ := List.nodup_cons.1 hn
        obtain ⟨a1, a2, a3, a4⟩ := inOuts_facts h hn2
        obtain ⟨n', u, xs, x, g1, rfl, rfl⟩ := inAb_some h1
        have hlb := lget_lt g1
        cases oids with
        | nil => exact absurd hh id
        | cons ids oids =>
        simp only [outKd, outVs] at hh
        obtain ⟨hh1, hh2⟩ := hh
        rcases List.mem_cons.1 hc with rfl | hc
        · have hr1 : LR0 s (.osl c 0 none) w := hr1
          obtain ⟨_, hr1⟩ := hr1
          obtain ⟨u', x', e1, ho⟩ := hh1
          injection e1 with e1 e2
          injection e1 with e1
          subst e1
          simp only [heq_eq_eq] at e2
          subst e2
          refine ⟨_, by rw [a3 c hn1, lget_set_self hlb], fun sA e1 e2 e3 e4 e5 => ?_, fun m hm => ?_⟩
          · unfold BR; simp only
            cases hm : s.μ c with
            | none =>
              rw [hm] at hr1; obtain ⟨_, _, rfl⟩ := hr1
              rw [e1, hm]; simp only
              rcases ho with ⟨_, hx, _⟩ | ⟨z, o, k, ks, _, _, e6, _⟩
              · exact hx
              · simp at e6
            | some m =>
              rw [hm] at hr1; obtain ⟨g0, rfl⟩ := hr1
              rw [e1, hm]; simp only
              rcases ho with ⟨_, _, e6⟩ | ⟨z, o, k, ks, _, _, e6, q1, q2, q3, q4, q5, _⟩
              · simp at e6
              · simp only [Option.getD_none, Nat.zero_mul, Nat.add_zero, Nat.sub_zero] at e6
                injection e6 with e6 e7 e8
                injection e6 with e6; injection e6 with e6 e9
                subst e6 e9
                refine ⟨e8, e7, k, by rw [e2]; exact q1, q4, fun i hi => ?_, fun _ => ⟨q2, by rw [e4]; exact q3⟩, fun e => absurd e (by decide)⟩
                have := q5.2 i hi
                have hmi := mul_lt (k := u.size) hi
                unfold seg at this; rw [List.drop_take, List.take_take, Nat.min_eq_left (by omega), List.drop_drop] at this
                rw [e2]; exact Rep.mono e5 _ this
          · rw [hm] at hr1; obtain ⟨g0, rfl⟩ := hr1
            rcases ho with ⟨_, _, e6⟩ | ⟨z, o, k, ks, rfl, _, e6, _⟩
            · simp at e6
            · simp only [Option.getD_none, Nat.zero_mul, Nat.add_zero, Nat.sub_zero] at e6
              injection e6 with e6 e7 e8
              injection e6 with e6; injection e6 with e6 e9
              simp [headsOf, e6]
        · obtain ⟨B', b1, b2, b3⟩ := outs_blk h hn2 hr2 hh2 c hc
          refine ⟨B', b1, b2, fun m hm => ?_⟩
          simp only [headsOf, List.mem_append]; exact .inr (b3 m hm)
      · simp at h
    | ps =>
      simp only [inOuts] at h
      split at h
      · rename_i b off v vs'
        replace h := ob h; obtain ⟨L1, h1, h⟩ := h
        simp only [lentOf] at hn hc
        obtain ⟨hn1, hn2⟩ := List.nodup_cons.1 hn
        obtain ⟨a1, a2, a3, a4⟩ := inOuts_facts h hn2
        obtain ⟨n', cs, g1, g2, rfl⟩ := inCb_some h1
        have hlb := lget_lt g1
        cases oids with
        | nil => exact absurd hh id
        | cons ids oids =>
        simp only [outKd, outVs] at hh
        obtain ⟨hh1, hh2⟩ := hh
        rcases List.mem_cons.1 hc with rfl | hc
        · have hr1 : LR0 s (.ptr c off) w := hr1
          obtain ⟨_, m, hm, hsh, rfl⟩ := hr1
          obtain ⟨z, k, j, rfl, e1, hk, hro, hlm, hrep⟩ := hh1
          injection e1 with e1; injection e1 with e1; injection e1 with e1 e2
          subst e1
          refine ⟨_, by rw [a3 c hn1, lget_set_self hlb], fun sA f1 f2 f3 f4 f5 => ?_, fun m' hm' => ?_⟩
          · unfold BR; simp only
            refine ⟨trivial, m, k, by rw [f1]; exact hm, hsh, by rw [f2]; exact hk, ?_, hro, by rw [f4]; exact hlm⟩
            rw [← f3]
            refine reify_rel _ ?_
            rw [f2]
            exact Rep.mono (fun z hz => S.NN_clk (f5 z hz)) _ hrep.rep
          · rw [hm] at hm'; injection hm' with hm'; subst hm'
            simp [headsOf]
        · obtain ⟨B', b1, b2, b3⟩ := outs_blk h hn2 hr2 hh2 c hc
          refine ⟨B', b1, b2, fun m hm => ?_⟩
          simp only [headsOf, List.mem_append]; exact .inr (b3 m hm)
      · simp at h
  | [], _ :: _, _, _, _, _, _, h, _, _, _, _, _ => by simp [inOuts] at h
  | _ :: _, [], _, _, _, _, _, h, _, _, _, _, _ => by simp [inOuts] at h

theorem outs_cbs {s : S} {N : Nat → Prop} {H' : Heap} {lim : Nat} {sA : S} (f1 : sA.μ = s.μ) (f2 : sA.H = H') (f3 : sA.L.bl.length = s.L.bl.length) (f4 : ∀ z, N z → sA.N z) : ∀ {ps : List (PM × Ty)} {args : List PV} {ws : List Value} {oids : List (List Nat)} {vs : List TV} {L L' : LS}, inOuts ps args vs L = some L' → All2 (ER s) args ws →
    HRs N H' lim (outKd ps) vs (outVs ps ws) oids → (∀ z ∈ (tailsOf ps oids).flatten, sA.Lim z) → CBs sA lim (psOuts ps args vs) (tailsOf ps oids)
  | [], [], [], oids, vs, L, L', h, hr, hh, hl => by simp [psOuts, tailsOf, CBs]
  | (m, t) :: ps, p :: args, w :: ws, oids, vs, L, L', h, hr, hh, hl => by
    obtain ⟨hr1, hr2⟩ := hr
    cases m with
    | ro => simp only [inOuts] at h; exact outs_cbs (ps := ps) f1 f2 f3 f4 h hr2 hh hl
    | cl g => simp only [inOuts] at h; exact outs_cbs (ps := ps) f1 f2 f3 f4 h hr2 hh hl
    | mv => simp only [inOuts] at h; exact outs_cbs (ps := ps) f1 f2 f3 f4 h hr2 hh hl
    | io =>
      simp only [inOuts] at h
      split at h
      · rename_i b v vs'
        replace h := ob h; obtain ⟨L1, h1, h⟩ := h
        cases oids with
        | nil => exact absurd hh id
        | cons ids oids => exact outs_cbs (ps := ps) f1 f2 f3 f4 h hr2 hh.2 hl
      · simp at h
    | ps =>
      simp only [inOuts] at h
      split at h
      · rename_i b off v vs'
        replace h := ob h; obtain ⟨L1, h1, h⟩ := h
        cases oids with
        | nil => exact absurd hh id
        | cons ids oids =>
          obtain ⟨hh1, hh2⟩ := hh
          have hr1 : LR0 s (.ptr b off) w := hr1
          obtain ⟨hlb, m, hm, hsh, rfl⟩ := hr1
          obtain ⟨z, k, j, rfl, e1, hk, hro, hlm, hrep⟩ := hh1
          injection e1 with e1; injection e1 with e1; injection e1 with e1 e2
          subst e1
          simp only [tailsOf, List.drop_succ_cons, List.drop_zero, List.flatten_cons] at hl
          exact ⟨⟨by rw [f3]; exact hlb, ⟨m, k, by rw [f1]; exact hm, hsh, by rw [f2]; exact hk, hro, hlm, RepO.frame (fun z hz _ => ⟨f4 z hz, by rw [f2]⟩) _ hrep (fun z _ => by rw [f2])⟩, fun z hz => hl z (List.mem_append.2 (.inl hz))⟩, outs_cbs (ps := ps) f1 f2 f3 f4 h hr2 hh2 (fun z hz => hl z (List.mem_append.2 (.inr hz)))⟩
      · simp at h
  | [], _ :: _, _, _, _, _, _, h, _, _, _ => by simp [inOuts] at h
  | _ :: _, [], _, _, _, _, _, h, _, _, _ => by simp [inOuts] at h

theorem HRs.lts {N : Nat → Prop} {H : Heap} {lim : Nat} : ∀ {ks : List Kd} {vs : List TV} {ws : List Value} {is : List (List Nat)}, HRs N H lim ks vs ws is → ∀ z ∈ is.flatten, z < H.length
  | [], [], [], [], _ => by simp
  | _ :: _, _ :: _, _ :: _, _ :: _, h => by
    intro z hz
    rw [List.flatten_cons, List.mem_append] at hz
    rcases hz with hz | hz
    · exact h.1.lt z hz
    · exact HRs.lts h.2 z hz

theorem TM.len {s : S} {lim : Nat} : ∀ {ps : List (PM × Ty)} {args : List PV} {ws : List Value} {os : List (Option TV)} {idss : List (List Nat)}, TM s lim ps args ws os idss → ps.length = idss.length
  | [], [], [], [], [], _ => rfl
  | _ :: _, _ :: _, _ :: _, _ :: _, _ :: _, h => by simp [TM.len h.2]

theorem LentLive.of {s : S} : ∀ (ps : List (PM × Ty)) (args : List PV), (∀ b ∈ lentOf ps args, ∃ B, lget s.L b = some B ∧ B.rw = true) → LentLive s ps args := by
  intro ps
  induction ps with
  | nil => intro args _; cases args <;> trivial
  | cons q ps ih =>
    intro args h
    obtain ⟨m, t⟩ := q
    cases args with
    | nil => cases m <;> trivial
    | cons p args =>
      cases m with
      | ro =>
        have e1 : lentOf ((.ro, t) :: ps) (p :: args) = lentOf ps args := by cases p <;> rfl
        have e2 : LentLive s ((.ro, t) :: ps) (p :: args) = LentLive s ps args := by cases p <;> rfl
        rw [e1] at h; rw [e2]; exact ih args h
      | cl g =>
        have e1 : lentOf ((.cl g, t) :: ps) (p :: args) = lentOf ps args := by cases p <;> rfl
        have e2 : LentLive s ((.cl g, t) :: ps) (p :: args) = LentLive s ps args := by cases p <;> rfl
        rw [e1] at h; rw [e2]; exact ih args h
      | mv =>
        have e1 : lentOf ((.mv, t) :: ps) (p :: args) = lentOf ps args := by cases p <;> rfl
        have e2 : LentLive s ((.mv, t) :: ps) (p :: args) = LentLive s ps args := by cases p <;> rfl
        rw [e1] at h; rw [e2]; exact ih args h
      | io =>
        by_cases hp : ∃ b off n, p = .osl b off n
        · obtain ⟨b, off, n, rfl⟩ := hp
          exact ⟨h b (by simp [lentOf]), ih args (fun q hq => h q (by simp [lentOf, hq]))⟩
        · have e1 : lentOf ((.io, t) :: ps) (p :: args) = lentOf ps args := by cases p <;> first | rfl | exact absurd ⟨_, _, _, rfl⟩ hp
          have e2 : LentLive s ((.io, t) :: ps) (p :: args) = LentLive s ps args := by cases p <;> first | rfl | exact absurd ⟨_, _, _, rfl⟩ hp
          rw [e1] at h; rw [e2]; exact ih args h
      | ps =>
        by_cases hp : ∃ b off, p = .ptr b off
        · obtain ⟨b, off, rfl⟩ := hp
          exact ⟨h b (by simp [lentOf]), ih args (fun q hq => h q (by simp [lentOf, hq]))⟩
        · have e1 : lentOf ((.ps, t) :: ps) (p :: args) = lentOf ps args := by cases p <;> first | rfl | exact absurd ⟨_, _, rfl⟩ hp
          have e2 : LentLive s ((.ps, t) :: ps) (p :: args) = LentLive s ps args := by cases p <;> first | rfl | exact absurd ⟨_, _, rfl⟩ hp
          rw [e1] at h; rw [e2]; exact ih args h

/-- The state behind the call, before the results are put in. -/
theorem after_call {s : S} (hs : StR s) {lent : List Nat} {L3 : LS} {H' : Heap} {ids rids oids : Nat → Prop} {N : Nat → Prop} (Kn : Nat → Option (Nat × Nat))
    (f1 : L3.bl.length = s.L.bl.length) (f2 : L3.clk = s.L.clk) (f3 : ∀ c, c ∉ lent → lget L3 c = lget s.L c) (f4 : ∀ c ∈ lent, ∃ B B', OutB s.L L3 c B B')
    (f5 : ∀ c ∈ lent, ∃ B', lget L3 c = some B' ∧ (∀ sA : S, sA.μ = s.μ → sA.H = H' → sA.L.clk = s.L.clk → sA.lim = s.lim → sA.Kid = Kn → (∀ z, N z → sA.N z) → BR sA c B') ∧ ∀ m, s.μ c = some m → oids m.z)
    (hids : ∀ z, ids z → s.Lim z ∨ (∃ b B m, b ∈ lent ∧ lget s.L b = some B ∧ B.rw = true ∧ s.μ b = some m ∧ m.z = z) ∨ ∃ p, s.Kid z = some p ∧ ∀ B, lget s.L p.1 = some B → p.1 ∈ lent)
    (hKn : ∀ z p, Kn z = some p → p.1 < s.L.bl.length ∧ z < H'.length ∧ (∃ k, hget H' z = some k) ∧ ¬ rids z ∧ ¬ (s.Lim z ∧ ¬ ids z) ∧ (∀ c C m, lget L3 c = some C → s.μ c = some m → m.z ≠ z) ∧ (Own s z ∨ s.H.length ≤ z))
    (hKk : ∀ z b i B, b ∉ lent → lget s.L b = some B → s.Kid z = some (b, i) → Kn z = some (b, i))
    (hlen : s.H.length ≤ H'.length) (hfr : ∀ z, z < s.H.length → ¬ ids z → hget H' z = hget s.H z) (hnd : ∀ z, rids z → ¬ oids z) (hr1 : ∀ z, rids z → ids z ∨ s.H.length ≤ z) (hr2 : ∀ z, rids z → z < H'.length)
    (hN : ∀ sA : S, (∀ z, Own sA z → (∃ b B m, lget L3 b = some B ∧ B.rw = true ∧ s.μ b = some m ∧ m.z = z ∧ b ∉ lent) ∨ (s.Lim z ∧ ¬ ids z) ∨ rids z ∨ oids z ∨ ∃ p, Kn z = some p) → sA.Ban = s.Ban → ∀ z, N z → sA.N z) :
    ∃ sA, sA.L = L3 ∧ sA.H = H' ∧ sA.μ = s.μ ∧ Keep s sA ∧ StR sA ∧ (∀ z, sA.Lim z ↔ (s.Lim z ∧ ¬ ids z) ∨ rids z) ∧ ∀ z, N z → sA.N z := by
  have hidsOwn : ∀ z, ids z → Own s z := by
    intro z hz
    rcases hids z hz with h | ⟨b, B, m, _, h1, h2, h3, h4⟩ | ⟨p, hp, _⟩
    · exact .inr (.inl h)
    · exact .inl ⟨b, B, m, h1, h2, h3, h4⟩
    · exact .inr (.inr ⟨p, hp⟩)
  let sA : S := { s with L := L3, H := H', Lim := fun z => (s.Lim z ∧ ¬ ids z) ∨ rids z, Kid := Kn }
  have cls : ∀ c C, lget L3 c = some C → ∃ C0, lget s.L c = some C0 ∧ C0.rw = C.rw ∧ C0.ver ≤ C.ver ∧ (c ∉ lent → C0 = C) ∧ (C0.ver = C.ver → c ∉ lent) := by
    intro c C hC
    by_cases hc : c ∈ lent
    · obtain ⟨B, B', b1, b2, b3, b4, b5⟩ := f4 c hc
      rw [hC] at b3; injection b3 with b3; subst b3
      exact ⟨B, b1, by rw [b2, b4], by omega, fun h => absurd hc h, fun h => by omega⟩
    · rw [f3 c hc] at hC; exact ⟨C, hC, rfl, Nat.le_refl _, fun _ => rfl, fun _ => hc⟩
  have hnotids : ∀ c C m, lget s.L c = some C → s.μ c = some m → c ∉ lent → ¬ ids m.z := by
    intro c C m h1 h2 h3 h4
    rcases hids _ h4 with h | ⟨b, B, m', hb, h5, h6, h7, h8⟩ | ⟨p, hp, _⟩
    · exact hs.lm c C m h1 h2 h
    · have := hs.inj b c B C m' m h5 h1 h6 h7 h2 h8
      subst this; exact h3 hb
    · exact (hs.kl _ p hp).2.2.2 c C m h1 h2 rfl
  have hown : ∀ z, Own sA z → Own s z ∨ s.H.length ≤ z := by
    rintro z (⟨b, B, m, h1, h2, h3, rfl⟩ | (⟨h1, _⟩ | h1) | ⟨p, h1⟩)
    · obtain ⟨C0, g1, g2, _⟩ := cls b B h1
      exact .inl (.inl ⟨b, C0, m, g1, by rw [g2]; exact h2, h3, rfl⟩)
    · exact .inl (.inr (.inl h1))
    · rcases hr1 z h1 with h | h
      · exact .inl (hidsOwn z h)
      · exact .inr h
    · exact (hKn z p h1).2.2.2.2.2.2
  have hkids : ∀ z b i B, b ∉ lent → lget s.L b = some B → s.Kid z = some (b, i) → ¬ ids z := by
    intro z b i B hb hB hp hz
    obtain ⟨k1, k2, k3, k4⟩ := hs.kl z _ hp
    rcases hids z hz with h | ⟨b, B, m, _, h1, h2, h3, h4⟩ | ⟨p, hp', hl⟩
    · exact k3 h
    · exact k4 b B m h1 h3 h4
    · rw [hp] at hp'; injection hp' with hp'; subst hp'; exact hb (hl B hB)
  have hkH : ∀ z b i B, b ∉ lent → lget s.L b = some B → s.Kid z = some (b, i) → Kn z = some (b, i) ∧ hget H' z = hget s.H z := fun z b i B hb hB hp => ⟨hKk z b i B hb hB hp, hfr z (hs.kl z _ hp).1 (hkids z b i B hb hB hp)⟩
  have hsame : ∀ c C m, lget s.L c = some C → s.μ c = some m → c ∉ lent → hget H' m.z = hget s.H m.z := fun c C m h1 h2 h3 => hfr _ ((hs.blk c C h1).lt h2) (hnotids c C m h1 h2 h3)
  have hk : Keep s sA := by
    refine ⟨rfl, CK.same rfl f2, rfl, by rw [show sA.L = L3 from rfl, f1]; exact Nat.le_refl _, fun _ _ => rfl, hlen, fun z hz hn => hfr z hz (fun h => hn (hidsOwn z h)), hown, fun b B' hb hB' => ?_⟩
    obtain ⟨C0, g1, g2, g3, g4, g5⟩ := cls b B' hB'
    refine ⟨C0, g1, g3, fun e => ?_⟩
    have hnl := g5 e
    exact ⟨(g4 hnl).symm, fun m hm => hsame b C0 m g1 hm hnl, fun z i hz => hkH z b i C0 hnl g1 hz⟩
  have hNA : ∀ z, N z → sA.N z := by
    refine hN sA ?_ rfl
    rintro z (⟨b, B, m, h1, h2, h3, rfl⟩ | (h1 | h1) | h1)
    · by_cases hb : b ∈ lent
      · obtain ⟨B', _, _, b3⟩ := f5 b hb
        exact .inr (.inr (.inr (.inl (b3 m h3))))
      · exact .inl ⟨b, B, m, h1, h2, h3, rfl, hb⟩
    · exact .inr (.inl h1)
    · exact .inr (.inr (.inl h1))
    · exact .inr (.inr (.inr (.inr h1)))
  refine ⟨sA, rfl, rfl, rfl, hk, ⟨fun c C hC => ?_, fun b c C D m1 m2 h1 h2 h3 h4 h5 e => ?_, fun z hz => ⟨?_, fun ho => ?_⟩, ?_, fun b C m h1 h2 => ?_, fun z hl => ?_, fun z p hp => ?_, fun z p hp => (hKn z p hp).2.2.1⟩, fun z => Iff.rfl, hNA⟩
  rotate_right
  · obtain ⟨k1, k2, k3, k4, k5, k6, k7⟩ := hKn z p hp
    refine ⟨k2, by rw [show sA.L = L3 from rfl, f1]; exact k1, ?_, fun c C m g1 g2 => k6 c C m g1 g2⟩
    rintro (h1 | h1)
    · exact k5 h1
    · exact k4 h1
  · by_cases hc : c ∈ lent
    · obtain ⟨B', b1, b2, _⟩ := f5 c hc
      have : some B' = some C := by rw [← b1]; exact hC
      injection this with this; subst this
      exact b2 sA rfl rfl f2 rfl rfl hNA
    · have hC' : lget s.L c = some C := by rw [← f3 c hc]; exact hC
      exact (hs.blk c C hC').keep hk (lget_lt hC') (fun m hm => hsame c C m hC' hm hc) (fun z i hz => hkH z c i C hc hC' hz)
  · obtain ⟨C0, g1, g2, _⟩ := cls b C h1
    obtain ⟨D0, g3, _⟩ := cls c D h2
    exact hs.inj b c C0 D0 m1 m2 g1 g3 (by rw [g2]; exact h3) h4 h5 e
  · exact Nat.lt_of_lt_of_le (hs.ban z hz).1 hlen
  · rcases hown z ho with h | h
    · exact (hs.ban z hz).2 h
    · have := (hs.ban z hz).1; omega
  · exact Nat.le_trans hs.limH hlen
  · obtain ⟨C0, g1, g2, g3, g4, g5⟩ := cls b C h1
    rintro (⟨h5, _⟩ | h5)
    · exact hs.lm b C0 m g1 h2 h5
    · by_cases hb : b ∈ lent
      · obtain ⟨B', _, _, b3⟩ := f5 b hb
        exact hnd _ h5 (b3 m h2)
      · rcases hr1 _ h5 with h6 | h6
        · exact hnotids b C0 m g1 h2 hb h6
        · have := (hs.blk b C0 g1).lt h2; omega
  · rcases hl with ⟨h1, _⟩ | h1
    · exact Nat.lt_of_lt_of_le (hs.lml z h1) hlen
    · exact hr2 z h1

/-- The results put in. -/
theorem inRes_sim : ∀ {rs : List (Bool × Ty)} {vs : List TV} {ws : List Value} {rids : List (List Nat)} {s : S} {pvs : List PV} {L' : LS}, StR s → HRs s.N s.H s.lim (rs.map fun q => kdR q.1) vs ws rids → (∀ z ∈ rids.flatten, s.Lim z) → rids.flatten.Nodup → inRes rs vs s.L = some (pvs, L') →
    ∃ s', s'.L = L' ∧ s'.H = s.H ∧ Keep s s' ∧ StR s' ∧ All2 (AR s') pvs ws
  | [], [], [], [], s, pvs, L', hs, _, _, _, h => by
    simp [inRes] at h; obtain ⟨rfl, rfl⟩ := h
    exact ⟨s, rfl, rfl, Keep.refl s, hs, trivial⟩
  | (o, t) :: rs, v :: vs, w :: ws, ids :: rids, s, pvs, L', hs, hh, hl, hn, h => by
    obtain ⟨hh1, hh2⟩ := hh
    rw [List.flatten_cons, List.nodup_append] at hn
    obtain ⟨hn1, hn2, hn3⟩ := hn
    simp only [inRes] at h
    have next : ∀ (s1 : S) (pv : PV), Keep s s1 → StR s1 → s1.H = s.H → (∀ z, s.N z → s1.N z) → (∀ z ∈ rids.flatten, s1.Lim z) → AR s1 pv w → (obind (inRes rs vs s1.L) fun r => some (pv :: r.1, r.2)) = some (pvs, L') →
        ∃ s', s'.L = L' ∧ s'.H = s.H ∧ Keep s s' ∧ StR s' ∧ All2 (AR s') pvs (w :: ws) := by
      clear h
      intro s1 pv k1 t1 g1 n1 l1 ha h
      replace h := ob h; obtain ⟨⟨pvs', L3⟩, h2, h⟩ := h
      simp at h; obtain ⟨rfl, rfl⟩ := h
      have hh2' : HRs s1.N s1.H s1.lim (rs.map fun q => kdR q.1) vs ws rids := by
        rw [k1.lim]; exact hh2.frame (fun z hz _ => ⟨n1 z hz, by rw [g1]⟩) (fun z _ => by rw [g1])
      obtain ⟨s2, a1, a2, a3, a4, a5⟩ := inRes_sim t1 hh2' l1 hn2 h2
      exact ⟨s2, a1, a2.trans g1, k1.trans a3, a4, a3.AR ha, a5⟩
    have hl2 : ∀ z ∈ rids.flatten, s.Lim z := fun z hz => hl z (by rw [List.flatten_cons, List.mem_append]; exact .inr hz)
    cases o with
    | false =>
      obtain ⟨cs, hv, hrep⟩ := hh1
      obtain ⟨ty, x⟩ := v
      simp only [inOne] at h
      obtain ⟨s1, a1, a2, a3, a4, a5, a6, a7⟩ := giveC_sim ty hs hrep (fun z hz => hl z (by rw [List.flatten_cons, List.mem_append]; exact .inl hz)) hn1
      rw [← a1] at h
      exact next s1 _ a3 a4 a2 a6 (fun z hz => a7 z (hl2 z hz) (fun hm => hn3 z hm z hz rfl)) (wrapO_rel hv a5) h
    | true =>
      obtain ⟨u, x, rfl, ho⟩ := hh1
      simp only [inOne] at h
      obtain ⟨s1, e1, e2, k1, t1, a1, n1, l1⟩ := giveO_sim hs ho (fun z hz => hl z (by rw [List.flatten_cons, List.mem_append]; exact .inl hz))
      rw [← e1] at h
      exact next s1 _ k1 t1 e2 n1 (fun z hz => l1 z (hl2 z hz) (fun hm => hn3 z hm z hz rfl)) (AR.of a1) h

theorem unT_tys : ∀ (ts : List Ty) (a : TupT ts), (unT ts a).map (·.1) = ts
  | [], _ => rfl
  | [t], x => rfl
  | t :: u :: r, x => by simp only [unT, List.map_cons]; rw [unT_tys (u :: r) x.2]

theorem unT_len (ts : List Ty) (a : TupT ts) : (unT ts a).length = ts.length := by
  have := congrArg List.length (unT_tys ts a); simpa using this

theorem HRs.flat {N M : Nat → Prop} {H : Heap} {lim : Nat} : ∀ {ks : List Kd} {vs : List TV} {ws : List Value} {is : List (List Nat)} {ts : List Ty}, HRs N H lim ks vs ws is → vs.map (·.1) = ts → All2 (fun k t => flatK k t = true) ks ts → HRs M H lim ks vs ws is
  | [], [], [], [], _, _, _, _ => trivial
  | k :: ks, v :: vs, w :: ws, i :: is, ts, h, e, hf => by
    match ts, hf with
    | t :: ts, hf =>
      simp only [List.map_cons, List.cons.injEq] at e
      exact ⟨h.1.flat (by rw [e.1]; exact hf.1), HRs.flat h.2 e.2 hf.2⟩

theorem al_results {rs : List (Bool × Ty)} (h : (rs.any fun r => match r with | (true, .sl t) => !(t.flat || t.rowT) | (_, t) => !t.nosl) = false) : All2 (fun k t => flatK k t = true) (rs.map fun q => kdR q.1) (rs.map fun q => q.2) := by
  induction rs with
  | nil => trivial
  | cons r rs ih =>
    simp only [List.any_cons, Bool.or_eq_false_iff] at h
    refine ⟨?_, ih h.2⟩
    obtain ⟨o, t⟩ := r
    have h1 := h.1
    cases o with
    | false => simpa [kdR, flatK] using h1
    | true =>
      cases t with
      | sl u =>
        show (u.flat || u.rowT) = true
        cases hb : (u.flat || u.rowT) with
        | true => rfl
        | false => simp only [hb, Bool.not_false] at h1; exact absurd h1 (by decide)
      | _ => rfl

theorem al_params {ps : List (PM × Ty)} (h : (ps.any fun p => match p with | (.ps, t) => !t.nosl | (.io, .sl t) => !t.flat | (.mv, .sl t) => !(t.flat || t.rowT) | _ => false) = false) : All2 (fun k t => flatK k t = true) (outKd ps) (outTys ps) := by
  induction ps with
  | nil => trivial
  | cons p ps ih =>
    simp only [List.any_cons, Bool.or_eq_false_iff] at h
    obtain ⟨m, t⟩ := p
    have h1 := h.1
    cases m with
    | ro => exact ih h.2
    | cl g => exact ih h.2
    | mv => exact ih h.2
    | io =>
      refine ⟨?_, ih h.2⟩
      cases t with
      | sl u =>
        have h1 : (!u.flat) = false := h1
        show (u.flat || u.rowT) = true
        cases hb : u.flat with
        | true => rfl
        | false => rw [hb] at h1; exact absurd h1 (by decide)
      | _ => rfl
    | ps => exact ⟨by simpa [flatK] using h1, ih h.2⟩

theorem onePV_rel {s : S} {ps : List PV} {ws : List Value} (h : All2 (AR s) ps ws) : ER s (onePV ps) (oneOf ws) := by
  match ps, ws, h with
  | [p], [w], h => exact ER.of h.1
  | [], [], h => exact ⟨[], rfl, trivial⟩
  | p :: q :: ps, w :: x :: ws, h => exact ⟨w :: x :: ws, rfl, h⟩

section
variable {A : AnnV} {β γ : Type} {s : S} {KV : PV → LS → Option β} {KE : Value → Heap → Option γ} {r : β} {Q : γ → Prop}

/-- A call. -/
theorem call_sim {sig : Sig} {call : TupT sig.ptys → Option (TupT sig.rtys)} {callE : List Value → Nat → Heap → Option (Value × Heap)} (hF : FnOk sig call callE s.lim) (hs : StR s) {args : List PV} {ws : List Value} (hr : All2 (ER s) args ws) (hK : KOk s r KV KE Q)
    (h : (obind (takeM sig.params args [] s.L) fun m => obind (takeR sig.al m.2.1 sig.params args m.1 m.2.2) fun q => obind (mkT sig.ptys q.1) fun a => obind (call a) fun y =>
      obind (inOuts sig.params args ((unT sig.rtys y).drop sig.results.length) q.2) fun L0 => obind (fillL (psOuts sig.params args ((unT sig.rtys y).drop sig.results.length)) L0) fun L' => obind (inRes sig.results ((unT sig.rtys y).take sig.results.length) L') fun q => KV (onePV q.1) q.2) = some r) :
    ∃ y, (obind (callE ws s.lim s.H) fun q => KE q.1 q.2) = some y ∧ Q y := by
  replace h := ob h; obtain ⟨⟨os, lent, L1⟩, h1, h⟩ := h
  replace h := ob h; obtain ⟨⟨tvs, L2⟩, h2, h⟩ := h
  replace h := ob h; obtain ⟨a, h3, h⟩ := h
  replace h := ob h; obtain ⟨y, h4, h⟩ := h
  replace h := ob h; obtain ⟨L3, h5, h⟩ := h
  replace h := ob h; obtain ⟨L3b, h5b, h⟩ := h
  replace h := ob h; obtain ⟨⟨pvs, L4⟩, h6, h⟩ := h
  simp only at h2 h3 h5 h5b h6 h
  obtain ⟨s1, idss, l1, g1, u1, k1, t1, o1, m1, tm1, sub1, nd1⟩ := takeM_sim hs hr h1
  rw [← l1] at h2
  obtain ⟨s2, l2, g2, u2, k2, t2, o2, li2, sm2, tr2⟩ := takeR_sim t1 (All2.mono (fun _ _ => k1.ER) hr) h2
  rw [← l2] at h5
  obtain ⟨ln1, ln2, ln3⟩ := takeM_lent h1
  have hlent : ∀ b, b ∈ lent ↔ b ∈ lentOf sig.params args := fun b => by rw [ln3]; simp
  obtain ⟨f1, f2, f3, f4⟩ := inOuts_facts h5 ln1
  have hu : s2.μ = s.μ := u2.trans u1
  have hlive : LentLive s2 sig.params args := LentLive.of _ _ (fun b hb => by
    obtain ⟨B, B', b1, b2, _⟩ := f4 b hb; exact ⟨B, b1, b2⟩)
  obtain ⟨nd, idm⟩ := nd1 s2 k2 (fun z hz => by rw [li2]; exact hz) t2 hu hlive
  have tm2 : TM s2 s.lim sig.params args ws os idss := tm1.keep k2 g2 u2 (fun z hz => by rw [li2]; exact hz)
  have hidOwn : ∀ z ∈ idss.flatten, Own s2 z := by
    intro z hz
    rcases idm z hz with ⟨h, _⟩ | ⟨b, B, m, _, _, q1, q2, q3, q4⟩
    · exact .inr (.inl h)
    · exact .inl ⟨b, B, m, q1, q2, q3, q4⟩
  have hgH : s2.H = s.H := g2.trans g1
  have hban : s2.Ban = s.Ban := (k1.trans k2).ban
  have hlim2 : s2.lim = s.lim := (k1.trans k2).lim
  let Ban : Nat → Prop := fun z => sig.al = true ∧ ((Own s2 z ∧ z ∉ idss.flatten) ∨ s.Ban z)
  have hC1 : ∀ z, s2.N z → z ∉ idss.flatten ∧ ¬ Ban z := by
    intro z hz
    refine ⟨fun h => hz.1 (hidOwn z h), ?_⟩
    rintro ⟨_, ⟨h, _⟩ | h⟩
    · exact hz.1 h
    · exact hz.2 (by rw [hban]; exact h)
  have hC2 : sig.al = false → ∀ b m B, b ∉ lent → lget s2.L b = some B → s2.μ b = some m → m.z ∉ idss.flatten ∧ ¬ Ban m.z := by
    intro hal b m B hb hB hm
    refine ⟨fun h => ?_, fun h => absurd (hal.symm.trans h.1) (by decide)⟩
    rcases idm _ h with ⟨h, _⟩ | ⟨b', B', m', _, hb', q1, q2, q3, q4⟩
    · exact t2.lm b B m hB hm h
    · have := t2.inj b' b B' B m' m q1 hB q2 q3 hm q4
      subst this; exact hb hb'
  have hkn : ∀ z p, s2.Kid z = some p → z ∉ idss.flatten := by
    intro z p hp h
    obtain ⟨k1, k2, k3, k4⟩ := t2.kl z p hp
    rcases idm z h with ⟨h, _⟩ | ⟨b', B', m', _, hb', q1, q2, q3, q4⟩
    · exact k3 h
    · exact k4 b' B' m' q1 q3 q4
  have hC3 : sig.al = false → ∀ z b i, b ∉ lent → s2.Kid z = some (b, i) → z ∉ idss.flatten ∧ ¬ Ban z := by
    intro hal z b i _ hz
    exact ⟨hkn z _ hz, fun h => absurd (hal.symm.trans h.1) (by decide)⟩
  have hand := handed hC1 hC2 hC3 tm2 tr2
  have hun := unT_mkT sig.ptys h3
  rw [← hun] at hand
  obtain ⟨v, H', rvs, rids, oids, c1, rfl, c3, c4, c5, c6, c7, c8, c9⟩ := hF a y h4 s2.H Ban ws idss (by
      rintro z ⟨_, ⟨h, _⟩ | h⟩
      · exact t2.own_lt h
      · exact (t2.ban z (by rw [hban]; exact h)).1) (by rw [hgH]; exact hs.limH) nd (by
      rintro z hz ⟨_, ⟨_, h⟩ | h⟩
      · exact h hz
      · exact (t2.ban z (by rw [hban]; exact h)).2 (hidOwn z hz)) hand
  rw [hgH] at c1
  rw [c1]; simp only [obind]
  have hr2 : All2 (ER s2) args ws := All2.mono (fun _ _ => (k1.trans k2).ER) hr
  have hfl : sig.al = false → All2 (fun k t => flatK k t = true) (sig.results.map fun q => kdR q.1) (sig.results.map fun q => q.2) ∧ All2 (fun k t => flatK k t = true) (outKd sig.params) (outTys sig.params) := by
    intro hal
    unfold Sig.al at hal
    simp only [Bool.or_eq_false_iff] at hal
    exact ⟨al_results hal.1, al_params hal.2⟩
  -- what is owned behind the call
  let N' : Nat → Prop := fun z => z ∉ rids.flatten ++ oids.flatten ∧ ¬ Ban z
  have htys := unT_tys sig.rtys y
  have hre : ∀ M : Nat → Prop, (sig.al = true → ∀ z, N' z → M z) → HRs M H' s.lim (sig.results.map fun q => kdR q.1) ((unT sig.rtys y).take sig.results.length) rvs rids := by
    intro M hM
    cases hal : sig.al with
    | true => exact c8.frame (fun z hz _ => ⟨hM hal z hz, rfl⟩) (fun _ _ => rfl)
    | false =>
      refine c8.flat (ts := sig.results.map fun q => q.2) ?_ (hfl hal).1
      rw [List.map_take, htys]; unfold Sig.rtys
      rw [List.take_append_of_le_length (by simp), List.take_of_length_le (by simp)]
  have hou : ∀ M : Nat → Prop, (sig.al = true → ∀ z, N' z → M z) → HRs M H' s.lim (outKd sig.params) ((unT sig.rtys y).drop sig.results.length) (outVs sig.params ws) oids := by
    intro M hM
    cases hal : sig.al with
    | true => exact c9.frame (fun z hz _ => ⟨hM hal z hz, rfl⟩) (fun _ _ => rfl)
    | false =>
      refine c9.flat (ts := outTys sig.params) ?_ (hfl hal).2
      rw [List.map_drop, htys]; unfold Sig.rtys
      rw [List.drop_append_of_le_length (by simp), List.drop_of_length_le (by simp)]; simp
  let N2 : Nat → Prop := fun z => sig.al = true ∧ N' z
  have hfalse : ∀ z, False → N2 z := fun _ h => h.elim
  have hR2 := hre N2 (fun hal z hz => ⟨hal, hz⟩)
  have hO2 := hou N2 (fun hal z hz => ⟨hal, hz⟩)
  rw [List.nodup_append] at c5
  obtain ⟨ht1, ht2⟩ := heads_tails hO2
  obtain ⟨ht3, ht4⟩ := ht2 c5.2.1
  have hmem : ∀ z, (z ∈ rids.flatten ∨ z ∈ (tailsOf sig.params oids).flatten) → z ∈ rids.flatten ++ oids.flatten := by
    rintro z (h | h)
    · exact List.mem_append.2 (.inl h)
    · exact List.mem_append.2 (.inr ((ht1 z).2 (.inr h)))
  obtain ⟨sA, e1, e2, e3, k3, t3, li3, n3⟩ := after_call (Kn := s2.Kid) (N := N2) (ids := fun z => z ∈ idss.flatten) (rids := fun z => z ∈ rids.flatten ∨ z ∈ (tailsOf sig.params oids).flatten) (oids := fun z => z ∈ headsOf sig.params oids) t2 f1 f2 f3 f4 (fun c hc => by
      obtain ⟨B', b1, b2, b3⟩ := outs_blk h5 ln1 hr2 hO2 c hc
      exact ⟨B', b1, fun sA q1 q2 q3 q4 _ q5 => b2 sA q1 q2 q3 (by rw [q4, hlim2]) q5, b3⟩) (fun z hz => by
      rcases idm z hz with ⟨h, _⟩ | ⟨b, B, m, _, hb, q1, q2, q3, q4⟩
      · exact .inl h
      · exact .inr (.inl ⟨b, B, m, (hlent b).1 hb, q1, q2, q3, q4⟩)) (fun z p hp => by
      obtain ⟨k1', k2', k3', k4'⟩ := t2.kl z p hp
      have hnid := hkn z p hp
      refine ⟨k2', Nat.lt_of_lt_of_le k1' c3, by rw [c4 z k1' hnid]; exact t2.ka z p hp, fun hz => ?_, fun h => k3' h.1, fun c C m g1 g2 => ?_, .inl (.inr (.inr ⟨p, hp⟩))⟩
      · rcases c6 z (hmem z hz) with h | h
        · exact hnid h
        · omega
      · by_cases hc : c ∈ lentOf sig.params args
        · obtain ⟨B, B', b1, _⟩ := f4 c hc
          exact k4' c B m b1 g2
        · rw [f3 c hc] at g1; exact k4' c C m g1 g2) (fun z b i B _ _ hp => hp) c3 c4 (fun z hz hz' => by
      rcases hz with hz | hz
      · exact c5.2.2 z hz z ((ht1 z).2 (.inl hz')) rfl
      · exact ht4 z hz' hz) (fun z hz => c6 z (hmem z hz)) (fun z hz => by
      rcases hz with hz | hz
      · exact hR2.lts z hz
      · exact hO2.lts z ((ht1 z).2 (.inr hz))) (fun sA ho hb z hz => by
      obtain ⟨hal, hz1, hz2⟩ := hz
      simp only [List.mem_append, not_or] at hz1
      refine ⟨fun hown => ?_, fun hban' => hz2 ⟨hal, .inr (by rw [hb, hban] at hban'; exact hban')⟩⟩
      rcases ho z hown with ⟨b, B, m, q1, q2, q3, q4, q5⟩ | ⟨q1, q2⟩ | q1 | q1 | ⟨p, q1⟩
      rotate_right
      · exact hz2 ⟨hal, .inl ⟨.inr (.inr ⟨p, q1⟩), hkn z p q1⟩⟩
      · rw [f3 b q5] at q1
        refine hz2 ⟨hal, .inl ⟨.inl ⟨b, B, m, q1, q2, q3, q4⟩, fun h => ?_⟩⟩
        rcases idm z h with ⟨h, _⟩ | ⟨b', B', m', _, hb', p1, p2, p3, p4⟩
        · exact t2.lm b B m q1 q3 (q4 ▸ h)
        · have := t2.inj b' b B' B m' m p1 q1 p2 p3 q3 (p4.trans q4.symm)
          subst this; exact q5 ((hlent _).1 hb')
      · exact hz2 ⟨hal, .inl ⟨.inr (.inl q1), q2⟩⟩
      · rcases q1 with q1 | q1
        · exact hz1.1 q1
        · exact hz1.2 ((ht1 z).2 (.inr q1))
      · exact hz1.2 ((ht1 z).2 (.inl q1)))
  have hlimA : sA.lim = s.lim := k3.lim.trans hlim2
  have hcb : CBs sA sA.lim (psOuts sig.params args ((unT sig.rtys y).drop sig.results.length)) (tailsOf sig.params oids) := by
    rw [hlimA]
    exact outs_cbs (s := s2) e3 e2 (by rw [e1, f1]) n3 h5 hr2 hO2 (fun z hz => (li3 z).2 (.inr (.inr hz)))
  rw [← e1] at h5b
  obtain ⟨sB, b1, b2, b3, b4, b5, b6⟩ := fillL_sim t3 hcb (fun z hz => (li3 z).2 (.inr (.inr hz))) ht3 h5b
  rw [← b1] at h6
  have hlimB : sB.lim = s.lim := b3.lim.trans hlimA
  have hRA : HRs sB.N sB.H sB.lim (sig.results.map fun q => kdR q.1) ((unT sig.rtys y).take sig.results.length) rvs rids := by
    rw [hlimB, b2, e2]; exact hR2.frame (fun z hz _ => ⟨b5 z (n3 z hz), rfl⟩) (fun _ _ => rfl)
  obtain ⟨s4, q1, q2, q3, q4, q5⟩ := inRes_sim b4 hRA (fun z hz => b6 z ((li3 z).2 (.inr (.inl hz))) (fun h => c5.2.2 z hz z ((ht1 z).2 (.inr h)) rfl)) c5.1 h6
  rw [← q1] at h
  have := hK (onePV pvs) (oneOf rvs) s4 ((((k1.trans k2).trans k3).trans b3).trans q3) q4 (onePV_rel q5) h
  rw [q2, b2, e2] at this; exact this

end
end Go.Pv
