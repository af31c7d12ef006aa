/-
  Calls: the state behind a call.
  Conditions: the state is a good one; the callee agrees.
-/
import Derived.Test.YtpjlbjkeekobnaaDoorVCall
set_option linter.all false
namespace Go.Pv
open Go.Ev

/-- What is handed over to be read, parameter by parameter. -/
def TR (s : S) (al : Bool) (lent : List Nat) : List (PM × Ty) → List Value → List (Option TV) → List TV → Prop
  | [], [], [], [] => True
  | (_, t) :: ps, w :: ws, o :: os, v :: vs => (match o with
      | some x => v = x
      | none => v.1 = t ∧ v.1.hasOs = false ∧ ∃ cs, IsVal v.1 cs w ∧ (al = true → Rep s.N s.H v.1 v.2 cs) ∧
        (al = false → ∀ M : Nat → Prop, (∀ z, s.N z → M z) → (∀ b m B, b ∉ lent → lget s.L b = some B → s.μ b = some m → M m.z) → (∀ z b i, b ∉ lent → s.Kid z = some (b, i) → M z) → Rep M s.H v.1 v.2 cs)) ∧ TR s al lent ps ws os vs
  | _, _, _, _ => False

theorem takeR_sim {al : Bool} {lent : List Nat} : ∀ {ps : List (PM × Ty)} {args : List PV} {ws : List Value} {os : List (Option TV)} {s : S} {vs : List TV} {L2 : LS}, StR s → All2 (ER s) args ws → takeR al lent ps args os s.L = some (vs, L2) →
    ∃ s2, s2.L = L2 ∧ s2.H = s.H ∧ s2.μ = s.μ ∧ Keep s s2 ∧ StR s2 ∧ (∀ z, Own s2 z → Own s z) ∧ s2.Lim = s.Lim ∧ (al = false → s2 = s) ∧ TR s2 al lent ps ws os vs
  | [], [], [], [], s, vs, L2, hs, _, h => by
    simp [takeR] at h; obtain ⟨rfl, rfl⟩ := h
    exact ⟨s, rfl, rfl, rfl, Keep.refl s, hs, fun _ h => h, rfl, fun _ => rfl, trivial⟩
  | (m, t) :: ps, p :: args, w :: ws, o :: os, s, vs, L2, hs, hr, h => by
    obtain ⟨hr1, hr2⟩ := hr
    simp only [takeR] at h
    cases o with
    | some x =>
      simp only at h
      replace h := ob h; obtain ⟨⟨vs', L3⟩, h2, h⟩ := h
      simp at h; obtain ⟨rfl, rfl⟩ := h
      obtain ⟨s2, a1, a2, a3, a4, a5, a6, a7, a8, a9⟩ := takeR_sim hs hr2 h2
      exact ⟨s2, a1, a2, a3, a4, a5, a6, a7, a8, rfl, a9⟩
    | none =>
      simp only at h
      split at h
      · rename_i hok
        simp only [Bool.and_eq_true] at hok
        replace h := ob h; obtain ⟨⟨x, L3⟩, h1, h⟩ := h
        replace h := ob h; obtain ⟨⟨vs', L4⟩, h2, h⟩ := h
        simp at h; obtain ⟨rfl, rfl⟩ := h
        have hc := hr1.cells hok.2.1
        have hv := isVal_of (t := t) hr1 hok.2.1 hok.2.2
        cases al with
        | true =>
          obtain ⟨s1, l1, g1, u1, k1, t1, rr1, o1, li1⟩ := refl_fz t hs hc h1
          simp only at h2
          rw [← l1] at h2
          obtain ⟨s2, a1, a2, a3, a4, a5, a6, a7, a8, a9⟩ := takeR_sim t1 (All2.mono (fun _ _ => k1.ER) hr2) h2
          exact ⟨s2, a1, a2.trans g1, a3.trans u1, k1.trans a4, a5, fun z hz => o1 z (a6 z hz), a7.trans li1, by simp, ⟨rfl, refl_noOs t h1, _, hv, fun _ => a4.repN rr1, by simp⟩, a9⟩
        | false =>
          have hL : L3 = s.L := (refl_any hs t hc h1).1
          simp only at h2
          rw [hL] at h2
          obtain ⟨s2, a1, a2, a3, a4, a5, a6, a7, a8, a9⟩ := takeR_sim hs hr2 h2
          have hss := a8 rfl
          refine ⟨s2, a1, a2, a3, a4, a5, a6, a7, a8, ⟨rfl, refl_noOs t h1, _, hv, by simp, fun _ M hM hB hKi => ?_⟩, a9⟩
          rw [hss] at hM hB hKi ⊢
          refine (refl_M hs hM t (fun b off n m B hmem hb hm => hB b m B ?_ hb hm) (fun q hq b z i hp hz => hKi z b i ?_ hz) hc h1).2
          · have := List.all_eq_true.1 hok.1 _ hmem
            simp only [Bool.not_eq_true'] at this
            exact contains_not this
          · have := List.all_eq_true.1 hok.1 _ hq
            rcases hp with ⟨off, n, rfl⟩ | ⟨j, ver, t', x', rfl⟩
            · simp only [Bool.not_eq_true'] at this
              exact contains_not this
            · simp only [Bool.not_eq_true'] at this
              exact contains_not this
      · simp at h
  | [], _ :: _, _, _, _, _, _, _, _, h => by simp [takeR] at h
  | _ :: _, [], _, _, _, _, _, _, _, h => by simp [takeR] at h
  | _ :: _, _ :: _, _, [], _, _, _, _, _, h => by simp [takeR] at h
  | [], [], _, _ :: _, _, _, _, _, _, h => by simp [takeR] at h

/-- All that is handed over. -/
theorem handed {s : S} {lim : Nat} {al : Bool} {lent : List Nat} {M : Nat → Prop} (hM : ∀ z, s.N z → M z) (hB : al = false → ∀ b m B, b ∉ lent → lget s.L b = some B → s.μ b = some m → M m.z) (hKi : al = false → ∀ z b i, b ∉ lent → s.Kid z = some (b, i) → M z) :
    ∀ {ps : List (PM × Ty)} {args : List PV} {ws : List Value} {os : List (Option TV)} {idss : List (List Nat)} {vs : List TV}, TM s lim ps args ws os idss → TR s al lent ps ws os vs → HRs M s.H lim (ps.map fun p => p.1.kd) vs ws idss
  | [], [], [], [], [], [], _, _ => trivial
  | (m, t) :: ps, p :: args, w :: ws, o :: os, ids :: idss, v :: vs, h, g => by
    refine ⟨?_, handed hM hB hKi h.2 g.2⟩
    have h1 := h.1; have g1 := g.1
    have fr : ∀ {kd : Kd} {x : TV}, HR s.N s.H lim kd x w ids → HR M s.H lim kd x w ids := fun h => h.frame (fun z hz hlt => ⟨hM z hz, rfl⟩) (fun z _ => rfl)
    cases m with
    | ro =>
      obtain ⟨rfl, rfl⟩ := h1
      obtain ⟨rfl, c0, cs, c1, c2, c3⟩ := g1
      refine ⟨cs, c1, RepO.of _ c0 ?_⟩
      cases al with
      | true => exact Rep.mono hM _ (c2 rfl)
      | false => exact c3 rfl M hM (hB rfl) (hKi rfl)
    | cl g => exact ⟨h1.1, h1.2.1⟩
    | mv => obtain ⟨x, rfl, a2, a3, a4⟩ := h1; obtain rfl : v = x := g1; exact fr a3
    | io => obtain ⟨x, b, u, rfl, a2, a3, a4, a5, a6⟩ := h1; obtain rfl : v = x := g1; exact fr a5
    | ps => obtain ⟨x, b, m, j, rfl, a2, a3, a4, a5, a6, _⟩ := h1; obtain rfl : v = x := g1; exact fr a4

def lentOf : List (PM × Ty) → List PV → List Nat
  | (.io, _) :: ps, .osl b _ _ :: args => b :: lentOf ps args
  | (.ps, _) :: ps, .ptr b _ :: args => b :: lentOf ps args
  | _ :: ps, _ :: args => lentOf ps args
  | _, _ => []

theorem takeM_lent : ∀ {ps : List (PM × Ty)} {args : List PV} {lent lent' : List Nat} {L L1 : LS} {os : List (Option TV)}, takeM ps args lent L = some (os, lent', L1) → (lentOf ps args).Nodup ∧ (∀ b ∈ lentOf ps args, b ∉ lent) ∧ (∀ b, b ∈ lent' ↔ b ∈ lent ∨ b ∈ lentOf ps args)
  | [], [], lent, lent', L, L1, os, h => by
    simp [takeM] at h; obtain ⟨rfl, rfl, rfl⟩ := h; simp [lentOf]
  | (m, t) :: ps, p :: args, lent, lent', L, L1, os, h => by
    simp only [takeM] at h
    cases m with
    | ro =>
      simp only at h
      replace h := ob h; obtain ⟨⟨os', lt', L3⟩, h2, h⟩ := h
      simp at h; obtain ⟨rfl, rfl, rfl⟩ := h
      have : lentOf ((.ro, t) :: ps) (p :: args) = lentOf ps args := by cases p <;> rfl
      rw [this]; exact takeM_lent h2
    | cl g =>
      have : lentOf ((.cl g, t) :: ps) (p :: args) = lentOf ps args := by cases p <;> rfl
      rw [this]
      simp only at h
      split at h
      · split at h
        · replace h := ob h; obtain ⟨⟨os', lt', L3⟩, h2, h⟩ := h
          simp at h; obtain ⟨rfl, rfl, rfl⟩ := h
          exact takeM_lent h2
        · simp at h
      · simp at h
    | mv =>
      have : lentOf ((.mv, t) :: ps) (p :: args) = lentOf ps args := by cases p <;> rfl
      rw [this]
      have key : ∀ {q : PV}, (obind (outOne true t q L) fun x => obind (takeM ps args lent x.2) fun r => some (some x.1 :: r.1, r.2.1, r.2.2)) = some (os, lent', L1) → (lentOf ps args).Nodup ∧ (∀ b ∈ lentOf ps args, b ∉ lent) ∧ (∀ b, b ∈ lent' ↔ b ∈ lent ∨ b ∈ lentOf ps args) := by
        clear h
        intro q h
        replace h := ob h; obtain ⟨x, h1, h⟩ := h
        replace h := ob h; obtain ⟨⟨os', lt', L3⟩, h2, h⟩ := h
        simp at h; obtain ⟨rfl, rfl, rfl⟩ := h
        exact takeM_lent h2
      simp only at h
      split at h
      · split at h
        · simp at h
        · exact key h
      · split at h
        · simp at h
        · exact key h
      · exact key h
    | io =>
      simp only at h
      split at h
      · rename_i u b
        split at h
        · simp at h
        · rename_i hnc
          have hnc := contains_not hnc
          replace h := ob h; obtain ⟨x, h1, h⟩ := h
          replace h := ob h; obtain ⟨⟨os', lt', L3⟩, h2, h⟩ := h
          simp at h; obtain ⟨rfl, rfl, rfl⟩ := h
          obtain ⟨a1, a2, a3⟩ := takeM_lent h2
          simp only [lentOf]
          refine ⟨List.nodup_cons.2 ⟨fun hb => a2 b hb (by simp), a1⟩, fun q hq => ?_, fun q => ?_⟩
          · rcases List.mem_cons.1 hq with rfl | hq
            · exact hnc
            · exact fun h => a2 q hq (by simp [h])
          · rw [a3]; simp only [List.mem_cons]; constructor
            · rintro ((rfl | h) | h) <;> simp_all
            · rintro (h | rfl | h) <;> simp_all
      · simp at h
    | ps =>
      simp only at h
      split at h
      · rename_i b
        split at h
        · simp at h
        · rename_i hnc
          have hnc := contains_not hnc
          replace h := ob h; obtain ⟨x, h1, h⟩ := h
          replace h := ob h; obtain ⟨⟨os', lt', L3⟩, h2, h⟩ := h
          simp at h; obtain ⟨rfl, rfl, rfl⟩ := h
          obtain ⟨a1, a2, a3⟩ := takeM_lent h2
          simp only [lentOf]
          refine ⟨List.nodup_cons.2 ⟨fun hb => a2 b hb (by simp), a1⟩, fun q hq => ?_, fun q => ?_⟩
          · rcases List.mem_cons.1 hq with rfl | hq
            · exact hnc
            · exact fun h => a2 q hq (by simp [h])
          · rw [a3]; simp only [List.mem_cons]; constructor
            · rintro ((rfl | h) | h) <;> simp_all
            · rintro (h | rfl | h) <;> simp_all
      · simp at h
  | [], _ :: _, _, _, _, _, _, h => by simp [takeM] at h
  | _ :: _, [], _, _, _, _, _, h => by simp [takeM] at h

/-- A lent block before and after the call. -/
def OutB (L L' : LS) (b : Nat) (B B' : VB) : Prop := lget L b = some B ∧ B.rw = true ∧ lget L' b = some B' ∧ B'.rw = true ∧ B'.ver = B.ver + 1

theorem inAb_some {b : Nat} {v : TV} {L L' : LS} (h : inAb b v L = some L') : ∃ n u xs x, lget L b = some ⟨n, true, .arr u xs⟩ ∧ v = ⟨.sl u, x⟩ ∧ L' = lset L b ⟨n + 1, true, .arr u x⟩ := by
  unfold inAb at h
  split at h
  · rename_i n u xs t x hb
    split at h
    · rename_i he
      have := Ty.beq_eq he; subst this
      simp at h; exact ⟨n, u, xs, x, hb, rfl, h.symm⟩
    · simp at h
  · simp at h

theorem inCb_some {b : Nat} {v : TV} {L L' : LS} (h : inCb b v L = some L') : ∃ n cs, lget L b = some ⟨n, true, .cells cs⟩ ∧ cs.length = v.1.size ∧ L' = lset L b ⟨n + 1, true, .cells (reify L.clk v.1 v.2)⟩ := by
  unfold inCb at h
  split at h
  · rename_i n cs hb
    split at h
    · rename_i he
      simp at h; exact ⟨n, cs, hb, Nat.eq_of_beq_eq_true he, h.symm⟩
    · simp at h
  · simp at h

theorem inOuts_facts : ∀ {ps : List (PM × Ty)} {args : List PV} {vs : List TV} {L L' : LS}, inOuts ps args vs L = some L' → (lentOf ps args).Nodup →
    L'.bl.length = L.bl.length ∧ L'.clk = L.clk ∧ (∀ c, c ∉ lentOf ps args → lget L' c = lget L c) ∧ (∀ c ∈ lentOf ps args, ∃ B B', OutB L L' c B B')
  | [], [], [], L, L', h, _ => by
    simp [inOuts] at h; subst h; simp [lentOf]
  | (m, t) :: ps, p :: args, vs, L, L', h, hn => by
    cases m with
    | io =>
      simp only [inOuts] at h
      split at h
      · rename_i b v vs'
        replace h := ob h; obtain ⟨L1, h1, h⟩ := h
        simp only [lentOf] at hn ⊢
        obtain ⟨hn1, hn2⟩ := List.nodup_cons.1 hn
        obtain ⟨a1, a2, a3, a4⟩ := inOuts_facts h hn2
        obtain ⟨n', u, xs, x, g1, g2, rfl⟩ := inAb_some h1
        have hlb := lget_lt g1
        refine ⟨by rw [a1, lset_len], a2, fun c hc => ?_, fun c hc => ?_⟩
        · simp only [List.mem_cons, not_or] at hc
          rw [a3 c hc.2, lget_set_ne (Ne.symm hc.1)]
        · rcases List.mem_cons.1 hc with rfl | hc
          · exact ⟨_, _, g1, rfl, by rw [a3 c hn1, lget_set_self hlb], rfl, rfl⟩
          · obtain ⟨B, B', b1, b2, b3⟩ := a4 c hc
            have hne : b ≠ c := fun e => hn1 (e ▸ hc)
            rw [lget_set_ne hne] at b1
            exact ⟨B, B', b1, b2, b3⟩
      · simp at h
    | ps =>
      simp only [inOuts] at h
      split at h
      · rename_i b off v vs'
        replace h := ob h; obtain ⟨L1, h1, h⟩ := h
        simp only [lentOf] at hn ⊢
        obtain ⟨hn1, hn2⟩ := List.nodup_cons.1 hn
        obtain ⟨a1, a2, a3, a4⟩ := inOuts_facts h hn2
        obtain ⟨n', cs, g1, g2, rfl⟩ := inCb_some h1
        have hlb := lget_lt g1
        refine ⟨by rw [a1, lset_len], a2, fun c hc => ?_, fun c hc => ?_⟩
        · simp only [List.mem_cons, not_or] at hc
          rw [a3 c hc.2, lget_set_ne (Ne.symm hc.1)]
        · rcases List.mem_cons.1 hc with rfl | hc
          · exact ⟨_, _, g1, rfl, by rw [a3 c hn1, lget_set_self hlb], rfl, rfl⟩
          · obtain ⟨B, B', b1, b2, b3⟩ := a4 c hc
            have hne : b ≠ c := fun e => hn1 (e ▸ hc)
            rw [lget_set_ne hne] at b1
            exact ⟨B, B', b1, b2, b3⟩
      · simp at h
    | ro =>
      simp only [inOuts] at h
      have : lentOf ((.ro, t) :: ps) (p :: args) = lentOf ps args := by cases p <;> rfl
      rw [this] at hn ⊢; exact inOuts_facts h hn
    | cl g =>
      simp only [inOuts] at h
      have : lentOf ((.cl g, t) :: ps) (p :: args) = lentOf ps args := by cases p <;> rfl
      rw [this] at hn ⊢; exact inOuts_facts h hn
    | mv =>
      simp only [inOuts] at h
      have : lentOf ((.mv, t) :: ps) (p :: args) = lentOf ps args := by cases p <;> rfl
      rw [this] at hn ⊢; exact inOuts_facts h hn
  | [], _ :: _, _, _, _, h, _ => by simp [inOuts] at h
  | [], [], _ :: _, _, _, h, _ => by simp [inOuts] at h
  | _ :: _, [], _, _, _, h, _ => by simp [inOuts] at h

/-- The content of a block that changes in place. -/
def CB (s : S) (lim b : Nat) (v : TV) (j : List Nat) : Prop := (∃ m k, s.μ b = some m ∧ m.sh = 0 ∧ hget s.H m.z = some k ∧ k.ro = false ∧ lim ≤ m.z ∧ RepO s.N s.H lim v.1 v.2 k.cells j) ∧ ∀ z ∈ j, s.Lim z
theorem CB.keep {s s' : S} {lim b : Nat} {v : TV} {j : List Nat} (hk : Keep s s') (hb : b < s.L.bl.length) (hH : s'.H = s.H) (hl : ∀ z, s.Lim z → s'.Lim z) (h : CB s lim b v j) : CB s' lim b v j := by
  obtain ⟨⟨m, k, h1, h2, h3, h4, h5, h6⟩, h7⟩ := h
  exact ⟨⟨m, k, by rw [hk.mu b hb]; exact h1, h2, by rw [hH]; exact h3, h4, h5, RepO.frame (fun z hz hlt => ⟨hk.N hlt hz, by rw [hH]⟩) _ h6 (fun z _ => by rw [hH])⟩, fun z hz => hl z (h7 z hz)⟩

theorem set_same {H : Heap} {z : Nat} {k : Blk} (h : hget H z = some k) : H.set z (some k) = H := by
  have hz := hget_lt h
  apply List.ext_getElem? 
  intro i
  by_cases e : z = i
  · subst e
    rw [List.getElem?_set_self hz]
    unfold hget at h
    split at h
    · rename_i q hq; rw [hq]; injection h with h; rw [h]
    · simp at h
  · rw [List.getElem?_set_ne e]

/-- What a block of cells owns put in. -/
theorem fillB_sim {s : S} (hs : StR s) {b : Nat} {v : TV} {j : List Nat} (hc : CB s s.lim b v j) (hn : j.Nodup) {L' : LS} (h : fillB b v s.L = some L') :
    ∃ s', s'.L = L' ∧ s'.H = s.H ∧ Keep s s' ∧ StR s' ∧ (∀ z, s.N z → s'.N z) ∧ (∀ z, s.Lim z → z ∉ j → s'.Lim z) := by
  unfold fillB at h
  split at h
  · injection h with h; subst h
    exact ⟨s, rfl, rfl, Keep.refl s, hs, fun _ h => h, fun _ h _ => h⟩
  · split at h
    · rename_i n cs hb
      injection h with h
      obtain ⟨⟨m, k, hm, hsh, hk, hro, hlm, hrep⟩, hl⟩ := hc
      obtain ⟨s1, a1, a2, a3, a4, a5, a6, a7⟩ := giveC_sim v.1 hs hrep hl hn
      have hlb := lget_lt hb
      have hb1 : lget s1.L b = some ⟨n, true, .cells cs⟩ := by rw [a1, (giveC_get v.1).2 b hlb]; exact hb
      have hm1 : s1.μ b = some m := by rw [a3.mu b hlb]; exact hm
      have hk1 : hget s1.H m.z = some k := by rw [a2]; exact hk
      obtain ⟨s2, b1, b2, b3, b4, b5, b6⟩ := a4.setL hb1 rfl hm1 ⟨n + 1, true, .cells (giveC v.1 v.2 s.L).1⟩ rfl rfl k (fun s' k' hm' hk' hN => by
        unfold BR; simp only
        exact ⟨trivial, m, k, hm', hsh, hk', k'.LRs a5, hro, by rw [k'.lim, a3.lim]; exact hlm⟩)
      rw [set_same hk1] at b2
      have hown : ∀ z, Own s2 z → Own s1 z ∨ s1.H.length ≤ z := b4.own
      refine ⟨s2, by rw [b1, a1]; exact h, b2.trans a2, a3.trans b4, b5, fun z hz => ?_, fun z hz hj => ?_⟩
      · have h1 := a6 z hz
        by_cases hlt : z < s1.H.length
        · exact b4.N hlt h1
        · refine ⟨fun ho => ?_, by rw [b4.ban]; exact h1.2⟩
          have := b5.own_lt ho
          rw [b2] at this; omega
      · rw [b6]; exact a7 z hz hj
    · simp at h

theorem CB.to {s s' : S} {lim b : Nat} {v : TV} {j : List Nat} (hb : s'.μ b = s.μ b) (hH : s'.H = s.H) (hN : ∀ z, s.N z → s'.N z) (hl : ∀ z ∈ j, s'.Lim z) (h : CB s lim b v j) : CB s' lim b v j := by
  obtain ⟨⟨m, k, h1, h2, h3, h4, h5, h6⟩, h7⟩ := h
  exact ⟨⟨m, k, by rw [hb]; exact h1, h2, by rw [hH]; exact h3, h4, h5, RepO.frame (fun z hz hlt => ⟨hN z hz, by rw [hH]⟩) _ h6 (fun z _ => by rw [hH])⟩, hl⟩

/-- What blocks of cells own, block by block. -/
def CBs (s : S) (lim : Nat) : List (Nat × TV) → List (List Nat) → Prop
  | [], [] => True
  | (b, v) :: r, j :: js => (b < s.L.bl.length ∧ CB s lim b v j) ∧ CBs s lim r js
  | _, _ => False

theorem CBs.to {s s' : S} {lim : Nat} (hk : Keep s s') (hH : s'.H = s.H) (hN : ∀ z, s.N z → s'.N z) : ∀ {l : List (Nat × TV)} {js : List (List Nat)}, (∀ z ∈ js.flatten, s'.Lim z) → CBs s lim l js → CBs s' lim l js
  | [], [], _, _ => trivial
  | (b, v) :: r, j :: js, hl, h => ⟨⟨Nat.lt_of_lt_of_le h.1.1 hk.nb, h.1.2.to (hk.mu b h.1.1) hH hN (fun z hz => hl z (by simp [hz]))⟩, CBs.to hk hH hN (fun z hz => hl z (by rw [List.flatten_cons, List.mem_append]; exact .inr hz)) h.2⟩

theorem fillL_sim : ∀ {l : List (Nat × TV)} {js : List (List Nat)} {s : S} {L' : LS}, StR s → CBs s s.lim l js → (∀ z ∈ js.flatten, s.Lim z) → js.flatten.Nodup → fillL l s.L = some L' →
    ∃ s', s'.L = L' ∧ s'.H = s.H ∧ Keep s s' ∧ StR s' ∧ (∀ z, s.N z → s'.N z) ∧ (∀ z, s.Lim z → z ∉ js.flatten → s'.Lim z)
  | [], js, s, L', hs, hd, hl, hn, h => by
    simp [fillL] at h; subst h
    exact ⟨s, rfl, rfl, Keep.refl s, hs, fun _ h => h, fun _ h _ => h⟩
  | (b, v) :: l, j :: js, s, L', hs, hd, hl, hn, h => by
    obtain ⟨⟨hb, hc⟩, hd2⟩ := hd
    rw [List.flatten_cons, List.nodup_append] at hn
    obtain ⟨n1, n2, n3⟩ := hn
    simp only [fillL] at h
    replace h := ob h; obtain ⟨L1, h1, h⟩ := h
    obtain ⟨s1, a1, a2, a3, a4, a5, a6⟩ := fillB_sim hs hc n1 h1
    rw [← a1] at h
    have hl2 : ∀ z ∈ js.flatten, s1.Lim z := fun z hz => a6 z (hl z (by rw [List.flatten_cons, List.mem_append]; exact .inr hz)) (fun hm => n3 z hm z hz rfl)
    obtain ⟨s2, b1, b2, b3, b4, b5, b6⟩ := fillL_sim a4 (by rw [a3.lim]; exact CBs.to a3 a2 a5 hl2 hd2) hl2 n2 h
    exact ⟨s2, b1, b2.trans a2, a3.trans b3, b4, fun z hz => b5 z (a5 z hz), fun z hz hm => by
      rw [List.flatten_cons, List.mem_append, not_or] at hm
      exact b6 z (a6 z hz hm.1) hm.2⟩
  | _ :: _, [], _, _, _, hd, _, _, _ => hd.elim

/-- The blocks that come back, and what those of cells own. -/
def headsOf : List (PM × Ty) → List (List Nat) → List Nat
  | (.io, _) :: ps, ids :: r => ids ++ headsOf ps r
  | (.ps, _) :: ps, ids :: r => ids.take 1 ++ headsOf ps r
  | (.ro, _) :: ps, r => headsOf ps r
  | (.cl _, _) :: ps, r => headsOf ps r
  | (.mv, _) :: ps, r => headsOf ps r
  | _, _ => []

def tailsOf : List (PM × Ty) → List (List Nat) → List (List Nat)
  | (.io, _) :: ps, _ :: r => tailsOf ps r
  | (.ps, _) :: ps, ids :: r => ids.drop 1 :: tailsOf ps r
  | (.ro, _) :: ps, r => tailsOf ps r
  | (.cl _, _) :: ps, r => tailsOf ps r
  | (.mv, _) :: ps, r => tailsOf ps r
  | _, _ => []

theorem heads_tails {N : Nat → Prop} {H : Heap} {lim : Nat} : ∀ {ps : List (PM × Ty)} {vs : List TV} {ws : List Value} {oids : List (List Nat)}, HRs N H lim (outKd ps) vs ws oids →
    (∀ z, z ∈ oids.flatten ↔ z ∈ headsOf ps oids ∨ z ∈ (tailsOf ps oids).flatten) ∧ (oids.flatten.Nodup → (tailsOf ps oids).flatten.Nodup ∧ ∀ z ∈ headsOf ps oids, z ∉ (tailsOf ps oids).flatten)
  | [], [], [], [], _ => by simp [headsOf, tailsOf]
  | (m, t) :: ps, vs, ws, oids, h => by
    cases m with
    | ro => exact heads_tails (ps := ps) h
    | cl g => exact heads_tails (ps := ps) h
    | mv => exact heads_tails (ps := ps) h
    | io =>
      match vs, ws, oids, h with
      | v :: vs, w :: ws, ids :: oids, h =>
        obtain ⟨a1, a2⟩ := heads_tails (ps := ps) h.2
        simp only [headsOf, tailsOf, List.flatten_cons]
        refine ⟨fun z => ?_, fun hn => ?_⟩
        · rw [List.mem_append, List.mem_append, a1, or_assoc]
        · rw [List.nodup_append] at hn
          obtain ⟨b1, b2⟩ := a2 hn.2.1
          refine ⟨b1, fun z hz hz2 => ?_⟩
          rcases List.mem_append.1 hz with hz | hz
          · exact hn.2.2 z hz z ((a1 z).2 (.inr hz2)) rfl
          · exact b2 z hz hz2
    | ps =>
      match vs, ws, oids, h with
      | v :: vs, w :: ws, ids :: oids, h =>
        obtain ⟨a1, a2⟩ := heads_tails (ps := ps) h.2
        obtain ⟨z0, k, j, rfl, _⟩ := h.1
        simp only [headsOf, tailsOf, List.flatten_cons, List.take_succ_cons, List.take_zero, List.drop_succ_cons, List.drop_zero]
        refine ⟨fun z => ?_, fun hn => ?_⟩
        · simp only [List.mem_append, List.mem_cons, List.not_mem_nil, or_false]
          rw [a1 z]; constructor
          · rintro ((h | h) | (h | h)) <;> simp [h]
          · rintro ((h | h) | (h | h)) <;> simp [h]
        · rw [List.nodup_append] at hn
          obtain ⟨n1, n2, n3⟩ := hn
          obtain ⟨n4, n5⟩ := List.nodup_cons.1 n1
          obtain ⟨b1, b2⟩ := a2 n2
          refine ⟨?_, fun z hz hz2 => ?_⟩
          · rw [List.nodup_append]
            exact ⟨n5, b1, fun p hp q hq e => by subst e; exact n3 p (by simp [hp]) p ((a1 p).2 (.inr hq)) rfl⟩
          · rcases List.mem_append.1 hz with hz | hz
            · simp at hz; subst hz
              rcases List.mem_append.1 hz2 with hz2 | hz2
              · exact n4 hz2
              · exact n3 z (by simp) z ((a1 z).2 (.inr hz2)) rfl
            · rcases List.mem_append.1 hz2 with hz2 | hz2
              · exact n3 z (by simp [hz2]) z ((a1 z).2 (.inl hz)) rfl
              · exact b2 z hz hz2

end Go.Pv
