/-
  Loops: a loop by value agrees with the loop in the first interpreter.
  Conditions: the state is a good one; its body agrees.
-/
import Derived.Test.YtpjlbjkeekobnaaDoorVLoop
set_option linter.all false
namespace Go.Pv
open Go.Ev

theorem noDup_nodup : ∀ {l : List Nat}, noDup l = true → l.Nodup
  | [], _ => List.nodup_nil
  | x :: r, h => by
    simp only [noDup, Bool.and_eq_true, Bool.not_eq_true'] at h
    exact List.nodup_cons.2 ⟨contains_not h.1, noDup_nodup h.2⟩

theorem sameIds_eq : ∀ {a b : List Nat}, sameIds a b = true → a = b
  | [], [], _ => rfl
  | x :: r, y :: s, h => by
    simp only [sameIds, Bool.and_eq_true] at h
    rw [Nat.eq_of_beq_eq_true h.1, sameIds_eq h.2]
  | [], _ :: _, h => by simp [sameIds] at h
  | _ :: _, [], h => by simp [sameIds] at h

theorem sameBut_get {ids : List Nat} : ∀ {l m : List (Option VB)} {n : Nat}, sameBut ids n l m = true → ∀ b B, l[b]? = some (some B) → n + b ∉ ids → ∃ B', m[b]? = some (some B') ∧ B.ver = B'.ver
  | [], _, _, _, b, B, hb, _ => by simp at hb
  | none :: l, y :: m, n, h, b, B, hb, hn => by
    simp only [sameBut] at h
    cases b with
    | zero => simp at hb
    | succ b =>
      simp only [List.getElem?_cons_succ] at hb ⊢
      exact sameBut_get h b B hb (by rw [show n + 1 + b = n + (b + 1) by omega]; exact hn)
  | some x :: l, some y :: m, n, h, b, B, hb, hn => by
    simp only [sameBut, Bool.and_eq_true, Bool.or_eq_true] at h
    cases b with
    | zero =>
      simp at hb; subst hb
      rcases h.1 with h1 | h1
      · exact absurd (List.contains_iff_mem.1 h1) (by simpa using hn)
      · exact ⟨y, rfl, Nat.eq_of_beq_eq_true h1⟩
    | succ b =>
      simp only [List.getElem?_cons_succ] at hb ⊢
      exact sameBut_get h.2 b B hb (by rw [show n + 1 + b = n + (b + 1) by omega]; exact hn)
  | none :: _, [], _, h, _, _, _, _ => by simp [sameBut] at h
  | some _ :: _, [], _, h, _, _, _, _ => by simp [sameBut] at h
  | some _ :: _, none :: _, _, h, _, _, _, _ => by simp [sameBut] at h

theorem lget_bl {L : LS} {b : Nat} {B : VB} : lget L b = some B ↔ L.bl[b]? = some (some B) := by
  unfold lget
  constructor
  · intro h; split at h
    · rename_i k hk; injection h with h; rw [hk, h]
    · simp at h
  · intro h; rw [h]

theorem inAr_some {b : Nat} {v : TV} {L L' : LS} (h : inAr b v L = some L') : (∃ n u xs x, lget L b = some ⟨n, true, .arr u xs⟩ ∧ v = ⟨.sl u, x⟩ ∧ L' = lset L b ⟨n + 1, true, .arr u x⟩) ∨
    ∃ n t xs x, lget L b = some ⟨n, true, .rows t xs none⟩ ∧ v = ⟨.sl (.os t), x⟩ ∧ L' = lset L b ⟨n + 1, true, .rows t x none⟩ := by
  unfold inAr at h
  split at h
  · rename_i n u xs t x hb
    split at h
    · rename_i he
      have := Ty.beq_eq he; subst this
      simp at h; exact .inr ⟨n, u, xs, x, hb, rfl, h.symm⟩
    · simp at h
  · exact .inl (inAb_some h)

theorem inBlks_facts : ∀ {ids : List Nat} {n : Nat} {vs : List TV} {L L' : LS}, inBlks ids n vs L = some L' → ids.Nodup →
    L'.bl.length = L.bl.length ∧ L'.clk = L.clk ∧ (∀ c, c ∉ ids → lget L' c = lget L c) ∧ (∀ c ∈ ids, ∃ B B', OutB L L' c B B')
  | [], n, [], L, L', h, _ => by simp [inBlks] at h; subst h; simp
  | b :: ids, n, v :: vs, L, L', h, hn => by
    obtain ⟨hn1, hn2⟩ := List.nodup_cons.1 hn
    have key : ∀ {L1 : LS} {m : Nat} {B B' : VB}, lget L b = some B → B.rw = true → B'.rw = true → B'.ver = B.ver + 1 → L1 = lset L b B' → inBlks ids m vs L1 = some L' → L'.bl.length = L.bl.length ∧ L'.clk = L.clk ∧ (∀ c, c ∉ b :: ids → lget L' c = lget L c) ∧ (∀ c ∈ b :: ids, ∃ B B', OutB L L' c B B') := by
      clear h
      intro L1 m B B' g1 g2 g3 g4 e h
      subst e
      have hlb := lget_lt g1
      obtain ⟨a1, a2, a3, a4⟩ := inBlks_facts h hn2
      refine ⟨by rw [a1, lset_len], a2, fun c hc => ?_, fun c hc => ?_⟩
      · simp only [List.mem_cons, not_or] at hc
        rw [a3 c hc.2, lget_set_ne (Ne.symm hc.1)]
      · rcases List.mem_cons.1 hc with rfl | hc
        · exact ⟨_, _, g1, g2, by rw [a3 c hn1, lget_set_self hlb], g3, g4⟩
        · obtain ⟨B1, B2, b1, b2, b3⟩ := a4 c hc
          have hne : b ≠ c := fun e => hn1 (e ▸ hc)
          rw [lget_set_ne hne] at b1
          exact ⟨B1, B2, b1, b2, b3⟩
    simp only [inBlks] at h
    cases n with
    | zero =>
      simp only at h
      replace h := ob h; obtain ⟨L1, h1, h⟩ := h
      rcases inAr_some h1 with ⟨n', u, xs, x, g1, g2, g3⟩ | ⟨n', u, xs, x, g1, g2, g3⟩
      · exact key g1 rfl rfl rfl g3 h
      · exact key g1 rfl rfl rfl g3 h
    | succ m =>
      simp only at h
      replace h := ob h; obtain ⟨L1, h1, h⟩ := h
      obtain ⟨n', cs, g1, g2, g3⟩ := inCb_some h1
      exact key g1 rfl rfl rfl g3 h
  | [], _, _ :: _, _, _, h, _ => by simp [inBlks] at h
  | _ :: _, _, [], _, _, h, _ => by simp [inBlks] at h

theorem blks_br {T : S} {lim : Nat} : ∀ {ids : List Nat} {n : Nat} {vs : List TV} {js : List (List Nat)} {L L' : LS}, inBlks ids n vs L = some L' → ids.Nodup → BDs T lim ids n vs js → ∀ c ∈ ids, ∃ B', lget L' c = some B' ∧
    (∀ sA : S, sA.μ c = T.μ c → sA.H = T.H → sA.L.clk = L.clk → sA.lim = lim → (∀ z i, T.Kid z = some (c, i) → sA.Kid z = some (c, i)) → (∀ z, T.N z → sA.N z) → BR sA c B')
  | b :: ids, n, v :: vs, j :: js, L, L', h, hn, hd, c, hc => by
    obtain ⟨hn1, hn2⟩ := List.nodup_cons.1 hn
    simp only [inBlks] at h
    cases n with
    | zero =>
      simp only at h
      replace h := ob h; obtain ⟨L1, h1, h⟩ := h
      rcases inAr_some h1 with ⟨n', u, xs, x, g1, rfl, rfl⟩ | ⟨n', u, xs, x, g1, rfl, rfl⟩
      · have hlb := lget_lt g1
        obtain ⟨a1, a2, a3, a4⟩ := inBlks_facts h hn2
        rcases List.mem_cons.1 hc with rfl | hc
        · refine ⟨_, by rw [a3 c hn1, lget_set_self hlb], fun sA f1 f2 f3 f4 _ f5 => ?_⟩
          unfold BR; simp only
          rw [f1]
          rcases hd.1.2 with ⟨u', x', e1, _, hh⟩ | ⟨t', x', e1, hfl, hh⟩
          · injection e1 with e1 e2
            injection e1 with e1; subst e1
            simp only [heq_eq_eq] at e2; subst e2
            cases hm : T.μ c with
            | none => rw [hm] at hh; exact hh
            | some m =>
              rw [hm] at hh
              obtain ⟨q1, q2, k, q3, q4, q5, q6, q7⟩ := hh
              exact ⟨q1, q2, k, by rw [f2]; exact q3, q4, fun i hi => by rw [f2]; exact Rep.mono f5 _ (q5 i hi), fun _ => ⟨q6, by rw [f4]; exact q7⟩, fun e => absurd e (by decide)⟩
          · injection e1 with e1 e2
            injection e1 with e1; subst e1
            simp only [heq_eq_eq] at e2; subst e2
            cases hm : T.μ c with
            | none => rw [hm] at hh; exact hh
            | some m =>
              rw [hm] at hh
              obtain ⟨q1, q2, k, q3, q4, q5, q6, q7⟩ := hh
              refine ⟨q1, q2, k, by rw [f2]; exact q3, by rw [show (Ty.os t').size = 1 from rfl, Nat.mul_one]; exact q4, fun i hi => ?_, fun _ => ⟨q5, by rw [f4]; exact q6⟩, fun e => absurd e (by decide)⟩
              obtain ⟨v, p1, p2⟩ := q7 i hi
              refine ⟨v, ?_, ?_⟩
              · rw [show (Ty.os t').size = 1 from rfl, Nat.mul_one]
                obtain ⟨hl, he⟩ := List.getElem?_eq_some_iff.1 p1
                rw [List.drop_eq_getElem_cons hl, List.take_succ_cons, List.take_zero, he]
              · rcases p2 with ⟨_, rfl⟩ | ⟨_, _, _, rfl, _⟩ <;> simp [isCell, sameLeaf]
        · exact blks_br h hn2 hd.2 c hc
      · have hlb := lget_lt g1
        obtain ⟨a1, a2, a3, a4⟩ := inBlks_facts h hn2
        rcases List.mem_cons.1 hc with rfl | hc
        · refine ⟨_, by rw [a3 c hn1, lget_set_self hlb], fun sA f1 f2 f3 f4 f6 f5 => ?_⟩
          unfold BR; simp only
          rw [f1]
          rcases hd.1.2 with ⟨u', x', e1, hno, hh⟩ | ⟨t', x', e1, hfl, hh⟩
          · injection e1 with e1 e2
            injection e1 with e1; subst e1
            simp [Ty.isOs] at hno
          · injection e1 with e1 e2
            injection e1 with e1; injection e1 with e1; subst e1
            simp only [heq_eq_eq] at e2; subst e2
            refine ⟨trivial, hfl, ?_⟩
            cases hm : T.μ c with
            | none => rw [hm] at hh; exact hh
            | some m =>
              rw [hm] at hh
              obtain ⟨q1, q2, k, q3, q4, q5, q6, q7⟩ := hh
              refine ⟨q1, q2, k, by rw [f2]; exact q3, q4, q5, by rw [f4]; exact q6, fun i hi _ => ?_⟩
              obtain ⟨v, p1, p2⟩ := q7 i hi
              exact ⟨v, p1, by rw [f2, f4]; exact p2.mono hfl (fun z hz => ⟨f6 z i hz, rfl⟩)⟩
        · exact blks_br h hn2 hd.2 c hc
    | succ m =>
      simp only at h
      replace h := ob h; obtain ⟨L1, h1, h⟩ := h
      obtain ⟨n', cs, g1, g2, rfl⟩ := inCb_some h1
      have hlb := lget_lt g1
      obtain ⟨a1, a2, a3, a4⟩ := inBlks_facts h hn2
      rcases List.mem_cons.1 hc with rfl | hc
      · refine ⟨_, by rw [a3 c hn1, lget_set_self hlb], fun sA f1 f2 f3 f4 _ f5 => ?_⟩
        obtain ⟨m, k, q1, q2, q3, q4, q5, q6⟩ := hd.1.1
        unfold BR; simp only
        refine ⟨trivial, m, k, by rw [f1]; exact q1, q2, by rw [f2]; exact q3, ?_, q4, by rw [f4]; exact q5⟩
        rw [← f3]
        refine reify_rel _ ?_
        rw [f2]
        exact Rep.mono (fun z hz => S.NN_clk (f5 z hz)) _ q6.rep
      · exact blks_br h hn2 hd.2 c hc
  | [], _, _, _, _, _, _, _, _, c, hc => by simp at hc
  | _ :: _, _, [], _, _, _, h, _, _, _, _ => by simp [inBlks] at h
  | _ :: _, _, _ :: _, [], _, _, _, _, hd, _, _ => hd.elim

/-- The state at the head of a round: the store as it was when the loop began. -/
theorem rebase {s1 T : S} (hs : StR s1) (hT : StR T) (hk : Keep s1 T) {ids : List Nat} (hn : ids.Nodup) (hsame : ∀ b B, b ∉ ids → lget s1.L b = some B → lget T.L b = some B) (hlive : ∀ b ∈ ids, ∃ B, lget T.L b = some B ∧ B.rw = true)
    {lim n : Nat} (hlim : s1.lim = lim) {vs : List TV} {js : List (List Nat)} (hd : BDs T lim ids n vs js) {L1 : LS} (h : inBlks ids n vs s1.L = some L1) {rids : List Nat} (hr : ∀ z ∈ rids, T.Lim z) :
    ∃ sB, sB.L = L1 ∧ sB.H = T.H ∧ Keep s1 sB ∧ StR sB ∧ (∀ z ∈ rids, sB.Lim z) ∧ ∀ z, T.N z → sB.N z := by
  obtain ⟨f1, f2, f3, f4⟩ := inBlks_facts h hn
  have hlt : ∀ b ∈ ids, b < s1.L.bl.length := fun b hb => by obtain ⟨B, B', b1, _⟩ := f4 b hb; exact lget_lt b1
  have hlv : ∀ b B, b ∉ ids → lget s1.L b = some B → (∀ m, s1.μ b = some m → hget T.H m.z = hget s1.H m.z) ∧ ∀ z i, s1.Kid z = some (b, i) → T.Kid z = some (b, i) ∧ hget T.H z = hget s1.H z := by
    intro b B hb hB
    obtain ⟨B0, b1, b2, b3⟩ := hk.live b B (lget_lt hB) (hsame b B hb hB)
    rw [hB] at b1; injection b1 with b1; subst b1
    exact (b3 rfl).2
  have hz : ∀ b B m, b ∉ ids → lget s1.L b = some B → s1.μ b = some m → hget T.H m.z = hget s1.H m.z := fun b B m hb hB hm => (hlv b B hb hB).1 m hm
  let Kn : Nat → Option (Nat × Nat) := fun z => match T.Kid z with | some p => if p.1 < s1.L.bl.length then some p else none | none => none
  have kn1 : ∀ z p, Kn z = some p → T.Kid z = some p ∧ p.1 < s1.L.bl.length := by
    intro z p hp
    simp only [Kn] at hp
    split at hp
    · rename_i q hq
      split at hp
      · injection hp with hp; subst hp; rename_i h; exact ⟨hq, h⟩
      · simp at hp
    · simp at hp
  have kn2 : ∀ z p, T.Kid z = some p → p.1 < s1.L.bl.length → Kn z = some p := by
    intro z p hp hl; simp only [Kn]; rw [hp]; simp [hl]
  obtain ⟨sA, e1, e2, e3, k3, t3, li3, n3⟩ := after_call (Kn := Kn) (N := T.N) (lent := ids) (H' := T.H)
    (ids := fun z => Own s1 z ∧ (¬ ∃ b B m, b ∉ ids ∧ lget s1.L b = some B ∧ s1.μ b = some m ∧ m.z = z) ∧ ¬ ∃ b i B, b ∉ ids ∧ lget s1.L b = some B ∧ s1.Kid z = some (b, i))
    (rids := fun z => z ∈ rids) (oids := fun z => ∃ b m, b ∈ ids ∧ s1.μ b = some m ∧ m.z = z) hs f1 f2 f3 f4
    (fun c hc => by
      obtain ⟨B', b1, b2⟩ := blks_br h hn hd c hc
      refine ⟨B', b1, fun sA q1 q2 q3 q4 q6 q5 => b2 sA (by rw [q1, hk.mu c (hlt c hc)]) q2 q3 (by rw [q4, hlim]) (fun z i hz => by rw [q6]; exact kn2 z _ hz (hlt c hc)) q5, fun m hm => ⟨c, m, hc, hm, rfl⟩⟩)
    (fun z hz' => by
      rcases hz'.1 with ⟨b, B, m, h1, h2, h3, h4⟩ | h1 | ⟨p, hp⟩
      · by_cases hb : b ∈ ids
        · exact .inr (.inl ⟨b, B, m, hb, h1, h2, h3, h4⟩)
        · exact absurd ⟨b, B, m, hb, h1, h3, h4⟩ hz'.2.1
      · exact .inl h1
      · refine .inr (.inr ⟨p, hp, fun B hB => ?_⟩)
        by_cases hb : p.1 ∈ ids
        · exact hb
        · exact absurd ⟨p.1, p.2, B, hb, hB, hp⟩ hz'.2.2)
    (fun z p hp => by
      obtain ⟨hp, hl⟩ := kn1 z p hp
      obtain ⟨k1', k2', k3', k4'⟩ := hT.kl z p hp
      refine ⟨hl, k1', hT.ka z p hp, fun hr' => k3' (hr z hr'), fun hh => ?_, fun c C m g1 g2 => ?_, ?_⟩
      · refine hh.2 ⟨.inr (.inl hh.1), ?_, ?_⟩
        · rintro ⟨b, B, m, p1, p2, p3, rfl⟩
          exact hs.lm b B m p2 p3 hh.1
        · rintro ⟨b, i, B, p1, p2, p3⟩
          exact (hs.kl z _ p3).2.2.1 hh.1
      · by_cases hc : c ∈ ids
        · obtain ⟨B, p1, _⟩ := hlive c hc
          exact k4' c B m p1 (by rw [hk.mu c (hlt c hc)]; exact g2)
        · rw [f3 c hc] at g1
          exact k4' c C m (hsame c C hc g1) (by rw [hk.mu c (lget_lt g1)]; exact g2)
      · exact hk.own z (.inr (.inr ⟨p, hp⟩)))
    (fun z b i B hb hB hp => kn2 z _ ((hlv b B hb hB).2 z i hp).1 (lget_lt hB))
    hk.len
    (fun z hlt' hni => by
      by_cases ho : Own s1 z
      · by_cases hq : ∃ b B m, b ∉ ids ∧ lget s1.L b = some B ∧ s1.μ b = some m ∧ m.z = z
        · obtain ⟨b, B, m, q1, q2, q3, rfl⟩ := hq
          exact hz b B m q1 q2 q3
        · have : ∃ b i B, b ∉ ids ∧ lget s1.L b = some B ∧ s1.Kid z = some (b, i) := Classical.byContradiction (fun hc => hni ⟨ho, hq, hc⟩)
          obtain ⟨b, i, B, q1, q2, q3⟩ := this
          exact ((hlv b B q1 q2).2 z i q3).2
      · exact hk.fr z hlt' ho)
    (fun z hz' ho => by
      obtain ⟨b, m, q1, q2, rfl⟩ := ho
      obtain ⟨B, q3, _⟩ := hlive b q1
      exact hT.lm b B m q3 (by rw [hk.mu b (hlt b q1)]; exact q2) (hr _ hz'))
    (fun z hz' => by
      have hl := hr z hz'
      rcases hk.own z (.inr (.inl hl)) with h1 | h1
      · left; refine ⟨h1, ?_, ?_⟩
        · rintro ⟨b, B, m, q1, q2, q3, rfl⟩
          exact hT.lm b B m (hsame b B q1 q2) (by rw [hk.mu b (lget_lt q2)]; exact q3) hl
        · rintro ⟨b, i, B, q1, q2, q3⟩
          exact (hT.kl z _ ((hlv b B q1 q2).2 z i q3).1).2.2.1 hl
      · exact .inr h1)
    (fun z hz' => hT.lml z (hr z hz'))
    (fun sA ho hb z hN => by
      refine ⟨fun hown => ?_, fun hban => hN.2 (by rw [hk.ban, ← hb]; exact hban)⟩
      rcases ho z hown with ⟨b, B, m, q1, q2, q3, q4, q5⟩ | ⟨q1, q2⟩ | q1 | ⟨b, m, q1, q2, q3⟩ | ⟨p, q1⟩
      · rw [f3 b q5] at q1
        exact hN.1 (.inl ⟨b, B, m, hsame b B q5 q1, q2, by rw [hk.mu b (lget_lt q1)]; exact q3, q4⟩)
      · refine q2 ⟨.inr (.inl q1), ?_, ?_⟩
        · rintro ⟨b, B, m, p1, p2, p3, rfl⟩
          exact hs.lm b B m p2 p3 q1
        · rintro ⟨b, i, B, p1, p2, p3⟩
          exact (hs.kl z _ p3).2.2.1 q1
      · exact hN.1 (.inr (.inl (hr z q1)))
      · obtain ⟨B, p1, p2⟩ := hlive b q1
        exact hN.1 (.inl ⟨b, B, m, p1, p2, by rw [hk.mu b (hlt b q1)]; exact q2, q3⟩)
      · exact hN.1 (.inr (.inr ⟨p, (kn1 z p q1).1⟩)))
  exact ⟨sA, e1, e2, k3, t3, fun z hz' => (li3 z).2 (.inr hz'), n3⟩

theorem fillBlks_sim : ∀ {ids : List Nat} {n : Nat} {vs : List TV} {js : List (List Nat)} {T s : S} {L' : LS}, StR s → BDs T s.lim ids n vs js → (∀ b ∈ ids, b < s.L.bl.length ∧ s.μ b = T.μ b) → s.H = T.H → (∀ z, T.N z → s.N z) → (∀ z ∈ js.flatten, s.Lim z) → js.flatten.Nodup → fillBlks ids n vs s.L = some L' →
    ∃ s', s'.L = L' ∧ s'.H = s.H ∧ Keep s s' ∧ StR s' ∧ (∀ z, s.N z → s'.N z) ∧ (∀ z, s.Lim z → z ∉ js.flatten → s'.Lim z)
  | [], n, vs, js, T, s, L', hs, hd, hb, hH, hN, hl, hn, h => by
    simp [fillBlks] at h; subst h
    exact ⟨s, rfl, rfl, Keep.refl s, hs, fun _ h => h, fun _ h _ => h⟩
  | b :: ids, 0, vs, js, T, s, L', hs, hd, hb, hH, hN, hl, hn, h => by
    simp [fillBlks] at h; subst h
    exact ⟨s, rfl, rfl, Keep.refl s, hs, fun _ h => h, fun _ h _ => h⟩
  | b :: ids, n + 1, v :: vs, j :: js, T, s, L', hs, hd, hb, hH, hN, hl, hn, h => by
    obtain ⟨hd1, hd2⟩ := hd
    rw [List.flatten_cons, List.nodup_append] at hn
    obtain ⟨n1, n2, n3⟩ := hn
    simp only [fillBlks] at h
    replace h := ob h; obtain ⟨L1, h1, h⟩ := h
    have hc : CB s s.lim b v j := CB.to (hb b (by simp)).2 hH hN (fun z hz => hl z (by simp [hz])) hd1
    obtain ⟨s1, a1, a2, a3, a4, a5, a6⟩ := fillB_sim hs hc n1 h1
    rw [← a1] at h
    obtain ⟨s2, b1, b2, b3, b4, b5, b6⟩ := fillBlks_sim (T := T) a4 (by rw [a3.lim]; exact hd2) (fun c hc => by
      obtain ⟨q1, q2⟩ := hb c (by simp [hc])
      exact ⟨Nat.lt_of_lt_of_le q1 a3.nb, by rw [a3.mu c q1]; exact q2⟩) (a2.trans hH) (fun z hz => a5 z (hN z hz)) (fun z hz => a6 z (hl z (by rw [List.flatten_cons, List.mem_append]; exact .inr hz)) (fun hm => n3 z hm z hz rfl)) n2 h
    exact ⟨s2, b1, b2.trans a2, a3.trans b3, b4, fun z hz => b5 z (a5 z hz), fun z hz hm => by
      rw [List.flatten_cons, List.mem_append, not_or] at hm
      exact b6 z (a6 z hz hm.1) hm.2⟩
  | _ :: _, _ + 1, [], _, _, _, _, _, hd, _, _, _, _, _, _ => by cases ‹List (List Nat)› <;> exact hd.elim
  | _ :: _, _ + 1, _ :: _, [], _, _, _, _, hd, _, _, _, _, _, _ => hd.elim

/-- The state's variables put in. -/
theorem inSlots_sim {val : Nat → Value} : ∀ {l : List (Nat × Bool × Ty)} {vs : List TV} {idss : List (List Nat)} {env env' : PEnv} {s : S} {L' : LS}, StR s → SR s s.lim val l vs idss → idss.flatten.Nodup → (∀ q p, q ∉ l.map (·.1) → pget env q = some p → ER s p (val q)) → inSlots l vs env s.L = some (env', L') →
    ∃ s', s'.L = L' ∧ s'.H = s.H ∧ Keep s s' ∧ StR s' ∧ (∀ q p, pget env' q = some p → ER s' p (val q)) ∧ (∀ q, q ∉ l.map (·.1) → pget env' q = pget env q) ∧ ∀ q ∈ l.map (·.1), ∃ p, pget env' q = some p
  | [], [], [], env, env', s, L', hs, _, _, he, h => by
    simp [inSlots] at h; obtain ⟨rfl, rfl⟩ := h
    exact ⟨s, rfl, rfl, Keep.refl s, hs, fun q p hp => he q p (by simp) hp, fun _ _ => rfl, by simp⟩
  | (q, o, t) :: l, v :: vs, ids :: idss, env, env', s, L', hs, hr, hn, he, h => by
    obtain ⟨hh, hl, hr2⟩ := hr
    rw [List.flatten_cons, List.nodup_append] at hn
    obtain ⟨hn1, hn2, hn3⟩ := hn
    simp only [inSlots] at h
    have next : ∀ (s1 : S) (pv : PV), Keep s s1 → StR s1 → s1.H = s.H → (∀ z, s.N z → s1.N z) → (∀ z ∈ idss.flatten, s1.Lim z) → AR s1 pv (val q) → inSlots l vs ((q, pv) :: env) s1.L = some (env', L') →
        ∃ s', s'.L = L' ∧ s'.H = s.H ∧ Keep s s' ∧ StR s' ∧ (∀ q p, pget env' q = some p → ER s' p (val q)) ∧ (∀ q', q' ∉ ((q, o, t) :: l).map (·.1) → pget env' q' = pget env q') ∧ ∀ q' ∈ ((q, o, t) :: l).map (·.1), ∃ p, pget env' q' = some p := by
      clear h
      intro s1 pv k1 t1 g1 n1 l1 ha h
      have hr2' : SR s1 s1.lim val l vs idss := by
        rw [k1.lim]
        have : ∀ {l : List (Nat × Bool × Ty)} {vs : List TV} {idss : List (List Nat)}, SR s s.lim val l vs idss → (∀ z ∈ idss.flatten, s1.Lim z) → SR s1 s.lim val l vs idss := by
          intro l
          induction l with
          | nil => intro vs idss h _; cases vs <;> cases idss <;> simp_all [SR]
          | cons x l ih =>
            intro vs idss h hL
            obtain ⟨q, o, t⟩ := x
            match vs, idss, h with
            | v :: vs, i :: idss, h => exact ⟨h.1.frame (fun z hz hlt => ⟨n1 z hz, by rw [g1]⟩) (fun z _ => by rw [g1]), fun z hz => hL z (by simp [hz]), ih h.2.2 (fun z hz => hL z (by simp at hz ⊢; exact .inr hz))⟩
        exact this hr2 l1
      obtain ⟨s2, a1, a2, a3, a4, a5, a6, a7⟩ := inSlots_sim t1 hr2' hn2 (fun q' p hq hp => by
        simp only [pget] at hp
        cases hb : Nat.beq q q' with
        | true => rw [hb] at hp; injection hp with hp; subst hp; rw [← Nat.eq_of_beq_eq_true hb]; exact ER.of ha
        | false =>
          rw [hb] at hp
          refine k1.ER (he q' p ?_ hp)
          simp only [List.map_cons, List.mem_cons, not_or]
          exact ⟨fun e => by subst e; rw [Nat.beq_refl] at hb; simp at hb, hq⟩) h
      refine ⟨s2, a1, a2.trans g1, k1.trans a3, a4, a5, fun q' hq => ?_, fun q' hq => ?_⟩
      · simp only [List.map_cons, List.mem_cons, not_or] at hq
        rw [a6 q' hq.2]
        simp only [pget]
        cases hb : Nat.beq q q' with
        | true => exact absurd (Nat.eq_of_beq_eq_true hb).symm hq.1
        | false => rfl
      · by_cases hq' : q' ∈ l.map (·.1)
        · exact a7 q' hq'
        · rw [a6 q' hq']
          simp only [List.map_cons, List.mem_cons] at hq
          rcases hq with rfl | hq
          · exact ⟨pv, by simp only [pget, Nat.beq_refl]⟩
          · exact absurd hq hq'
    have hl2 : ∀ z ∈ idss.flatten, s.Lim z := SR.lim hr2
    cases o with
    | false =>
      obtain ⟨cs, hv, hrep⟩ := hh
      obtain ⟨ty, x⟩ := v
      simp only [inOne] at h
      obtain ⟨s1, a1, a2, a3, a4, a5, a6, a7⟩ := giveC_sim ty hs hrep hl hn1
      rw [← a1] at h
      exact next s1 _ a3 a4 a2 a6 (fun z hz => a7 z (hl2 z hz) (fun hm => hn3 z hm z hz rfl)) (wrapO_rel hv a5) h
    | true =>
      obtain ⟨u, x, rfl, ho⟩ := hh
      simp only [inOne] at h
      obtain ⟨s1, e1, e2, k1, t1, a1, n1, l1⟩ := giveO_sim hs ho hl
      rw [← e1] at h
      exact next s1 _ k1 t1 e2 n1 (fun z hz => l1 z (hl2 z hz) (fun hm => hn3 z hm z hz rfl)) (AR.of a1) h

end Go.Pv
