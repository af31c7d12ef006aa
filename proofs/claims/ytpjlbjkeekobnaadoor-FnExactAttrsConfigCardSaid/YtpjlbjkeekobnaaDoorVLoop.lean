/-
  A loop's state: taken out at its head, and put in again.
  Conditions: the state is a good one.
-/
import Derived.Test.YtpjlbjkeekobnaaDoorVDraw
set_option linter.all false
namespace Go.Pv
open Go.Ev

theorem freezeAll_sim {env : PEnv} : ∀ {l : List Nat} {s : S}, StR s → ∃ s', s'.L = freezeAll env l s.L ∧ s'.H = s.H ∧ s'.μ = s.μ ∧ Keep s s' ∧ StR s' := by
  have fold : ∀ {ps : List PV} {s : S}, StR s → ∃ s', s'.L = ps.foldl freeze s.L ∧ s'.H = s.H ∧ s'.μ = s.μ ∧ Keep s s' ∧ StR s' := by
    intro ps
    induction ps with
    | nil => intro s hs; exact ⟨s, rfl, rfl, rfl, Keep.refl s, hs⟩
    | cons p ps ih =>
      intro s hs
      by_cases hp : ∃ b off n, p = .osl b off n
      · obtain ⟨b, off, n, rfl⟩ := hp
        obtain ⟨s1, a1, a2, a3, a4, a5, _⟩ := hs.freezeAny b
        obtain ⟨s2, b1, b2, b3, b4, b5⟩ := ih a5
        exact ⟨s2, by rw [b1, a1]; rfl, b2.trans a2, b3.trans a3, a4.trans b4, b5⟩
      · obtain ⟨s2, b1, b2, b3, b4, b5⟩ := ih hs
        refine ⟨s2, ?_, b2, b3, b4, b5⟩
        rw [b1]; simp only [List.foldl_cons]
        have : freeze s.L p = s.L := by unfold freeze; split; exact absurd ⟨_, _, _, rfl⟩ hp; rfl
        rw [this]
  intro l
  induction l with
  | nil => intro s hs; exact ⟨s, rfl, rfl, rfl, Keep.refl s, hs⟩
  | cons q l ih =>
    intro s hs
    simp only [freezeAll]
    cases pget env q with
    | none => exact ih hs
    | some v =>
      obtain ⟨s1, a1, a2, a3, a4, a5⟩ := fold (ps := vcells v) hs
      obtain ⟨s2, b1, b2, b3, b4, b5⟩ := ih a5
      exact ⟨s2, by rw [b1, a1], b2.trans a2, b3.trans a3, a4.trans b4, b5⟩

/-- The state's variables, one by one. -/
def SR (s : S) (lim : Nat) (val : Nat → Value) : List (Nat × Bool × Ty) → List TV → List (List Nat) → Prop
  | [], [], [] => True
  | (q, o, _) :: r, v :: vs, ids :: idss => HR s.N s.H lim (kdR o) v (val q) ids ∧ (∀ z ∈ ids, s.Lim z) ∧ SR s lim val r vs idss
  | _, _, _ => False

theorem SR.keep {s s' : S} {lim : Nat} {val : Nat → Value} (hN : ∀ z, s.N z → z < s.H.length → s'.N z) (hH : s'.H = s.H) (hl : ∀ z, s.Lim z → s'.Lim z) : ∀ {l : List (Nat × Bool × Ty)} {vs : List TV} {idss : List (List Nat)}, SR s lim val l vs idss → SR s' lim val l vs idss
  | [], [], [], _ => trivial
  | (q, o, t) :: r, v :: vs, ids :: idss, h => ⟨h.1.frame (fun z hz hlt => ⟨hN z hz hlt, by rw [hH]⟩) (fun z _ => by rw [hH]), fun z hz => hl z (h.2.1 z hz), SR.keep hN hH hl h.2.2⟩

theorem SR.lim {s : S} {lim : Nat} {val : Nat → Value} : ∀ {l : List (Nat × Bool × Ty)} {vs : List TV} {idss : List (List Nat)}, SR s lim val l vs idss → ∀ z ∈ idss.flatten, s.Lim z
  | [], [], [], _ => by simp
  | (q, o, t) :: r, v :: vs, ids :: idss, h => by
    intro z hz
    rw [List.flatten_cons, List.mem_append] at hz
    rcases hz with hz | hz
    · exact h.2.1 z hz
    · exact SR.lim h.2.2 z hz

theorem outSlots_sim {env : PEnv} {e : Env} {val : Nat → Value} (hval : ∀ q w, eget e q = some w → val q = w) : ∀ {l : List (Nat × Bool × Ty)} {s : S} {vs : List TV} {L' : LS}, StR s → EnvR s env e → outSlots env l s.L = some (vs, L') →
    ∃ s1 idss, s1.L = L' ∧ s1.H = s.H ∧ s1.μ = s.μ ∧ Keep s s1 ∧ StR s1 ∧ (∀ z, s.Lim z → s1.Lim z) ∧ SR s1 s.lim val l vs idss ∧ idss.flatten.Nodup ∧ (∀ z ∈ idss.flatten, ¬ s.Lim z)
  | [], s, vs, L', hs, he, h => by
    simp [outSlots] at h; obtain ⟨rfl, rfl⟩ := h
    exact ⟨s, [], rfl, rfl, rfl, Keep.refl s, hs, fun _ h => h, trivial, by simp, by simp⟩
  | (q, o, t) :: l, s, vs, L', hs, he, h => by
    simp only [outSlots] at h
    replace h := ob h; obtain ⟨p, h1, h⟩ := h
    replace h := ob h; obtain ⟨⟨x, L2⟩, h2, h⟩ := h
    replace h := ob h; obtain ⟨⟨vs', L3⟩, h3, h⟩ := h
    simp at h; obtain ⟨rfl, rfl⟩ := h
    obtain ⟨w, e1, r1⟩ := he.get h1
    have hw := hval q w e1
    simp only at h3
    cases o with
    | true =>
      obtain ⟨hx, s1, ids, l1, g1, u1, k1, t1, hh, hl, hnl, hnd, ho⟩ := outOne_own hs r1 h2
      rw [← l1] at h3
      obtain ⟨s2, idss, a1, a2, a3, a4, a5, a6, a7, a8, a9⟩ := outSlots_sim hval t1 (k1.env he) h3
      have hlim : s1.lim = s.lim := k1.lim
      refine ⟨s2, ids :: idss, a1, a2.trans g1, a3.trans u1, k1.trans a4, a5, fun z hz => a6 z ((hl z).2 (.inl hz)), ⟨?_, fun z hz => a6 z ((hl z).2 (.inr hz)), by rw [← hlim]; exact a7⟩, ?_, ?_⟩
      · rw [hw]; exact hh.frame (fun z hz hlt => ⟨a4.N hlt hz, by rw [a2]⟩) (fun z _ => by rw [a2])
      · rw [List.flatten_cons, List.nodup_append]
        exact ⟨hnd, a8, fun a ha b hb e => by subst e; exact a9 a hb ((hl a).2 (.inr ha))⟩
      · intro z hz
        rw [List.flatten_cons, List.mem_append] at hz
        rcases hz with hz | hz
        · exact hnl z hz
        · exact fun h => a9 z hz ((hl z).2 (.inl h))
    | false =>
      simp only [outOne] at h2
      split at h2
      · rename_i hok
        simp only [Bool.and_eq_true] at hok
        replace h2 := ob h2; obtain ⟨⟨y, L4⟩, h4, h2⟩ := h2
        simp at h2; obtain ⟨rfl, rfl⟩ := h2
        obtain ⟨s1, ids, l1, g1, u1, k1, t1, rr1, hl, hnl, hnd, o1⟩ := takeC_sim t hs (r1.cells hok.1) h4
        rw [← l1] at h3
        obtain ⟨s2, idss, a1, a2, a3, a4, a5, a6, a7, a8, a9⟩ := outSlots_sim hval t1 (k1.env he) h3
        have hlim : s1.lim = s.lim := k1.lim
        refine ⟨s2, ids :: idss, a1, a2.trans g1, a3.trans u1, k1.trans a4, a5, fun z hz => a6 z ((hl z).2 (.inl hz)), ⟨⟨_, by rw [hw]; exact isVal_of r1 hok.1 hok.2, RepO.frame (fun z hz hlt => ⟨a4.N hlt hz, by rw [a2]⟩) t rr1 (fun z _ => by rw [a2])⟩, fun z hz => a6 z ((hl z).2 (.inr hz)), by rw [← hlim]; exact a7⟩, ?_, ?_⟩
        · rw [List.flatten_cons, List.nodup_append]
          exact ⟨hnd, a8, fun a ha b hb e => by subst e; exact a9 a hb ((hl a).2 (.inr ha))⟩
        · intro z hz
          rw [List.flatten_cons, List.mem_append] at hz
          rcases hz with hz | hz
          · exact hnl z hz
          · exact fun h => a9 z hz ((hl z).2 (.inl h))
      · simp at h2

def ABr (s : S) (lim b : Nat) (v : TV) : Prop := ∃ (t : Ty) (x : List (List t.T)), v = ⟨.sl (.os t), x⟩ ∧ t.flat = true ∧ match s.μ b with
  | none => x = []
  | some m => m.es = 1 ∧ m.n = x.length ∧ ∃ k, hget s.H m.z = some k ∧ Fit m.sh x.length k.cells ∧ k.ro = false ∧ lim ≤ m.z ∧ ∀ i (hi : i < x.length), ∃ v, k.cells[m.sh + i]? = some v ∧ RowC (fun z => s.Kid z = some (b, i)) s.H lim t x[i] v
def ABa (s : S) (lim b : Nat) (v : TV) : Prop := ∃ u x, v = ⟨.sl u, x⟩ ∧ u.isOs = false ∧ match s.μ b with
  | none => x = []
  | some m => m.es = u.size ∧ m.n = x.length ∧ ∃ k, hget s.H m.z = some k ∧ Fit m.sh (x.length * u.size) k.cells ∧ (∀ i (h : i < x.length), Rep s.N s.H u x[i] ((k.cells.drop (m.sh + i * u.size)).take u.size)) ∧ k.ro = false ∧ lim ≤ m.z

def AB (s : S) (lim b : Nat) (v : TV) : Prop := ABa s lim b v ∨ ABr s lim b v

def BDs (s : S) (lim : Nat) : List Nat → Nat → List TV → List (List Nat) → Prop
  | [], _, [], [] => True
  | b :: r, n, v :: vs, j :: js => match n with
    | 0 => (j = [] ∧ AB s lim b v) ∧ BDs s lim r 0 vs js
    | m + 1 => CB s lim b v j ∧ BDs s lim r m vs js
  | _, _, _, _ => False

theorem BDs.lim {s : S} {lim : Nat} : ∀ {ids : List Nat} {n : Nat} {vs : List TV} {js : List (List Nat)}, BDs s lim ids n vs js → ∀ z ∈ js.flatten, s.Lim z
  | [], _, [], [], _ => by simp
  | b :: r, n, v :: vs, j :: js, h => by
    intro z hz
    rw [List.flatten_cons, List.mem_append] at hz
    cases n with
    | zero =>
      obtain ⟨⟨rfl, _⟩, h2⟩ := h
      rcases hz with hz | hz
      · simp at hz
      · exact BDs.lim h2 z hz
    | succ n =>
      rcases hz with hz | hz
      · exact h.1.2 z hz
      · exact BDs.lim h.2 z hz

theorem outCbs_sim {env : PEnv} {e : Env} : ∀ {l : List (Nat × Ty)} {s : S} {vs : List TV} {ids : List Nat} {L' : LS}, StR s → EnvR s env e → outCbs env l s.L = some (vs, ids, L') →
    ∃ s1 js, s1.L = L' ∧ s1.H = s.H ∧ s1.μ = s.μ ∧ Keep s s1 ∧ StR s1 ∧ (∀ z, s.Lim z → s1.Lim z) ∧ js.flatten.Nodup ∧ (∀ z ∈ js.flatten, ¬ s.Lim z) ∧ ∀ vs2 ids2 js2, BDs s1 s.lim ids2 0 vs2 js2 → BDs s1 s.lim (ids ++ ids2) l.length (vs ++ vs2) (js ++ js2)
  | [], s, vs, ids, L', hs, he, h => by
    simp [outCbs] at h; obtain ⟨rfl, rfl, rfl⟩ := h
    exact ⟨s, [], rfl, rfl, rfl, Keep.refl s, hs, fun _ h => h, by simp, by simp, fun _ _ _ h => h⟩
  | (q, t) :: l, s, vs, ids, L', hs, he, h => by
    simp only [outCbs] at h
    replace h := ob h; obtain ⟨p, h1, h⟩ := h
    split at h
    · rename_i b
      replace h := ob h; obtain ⟨⟨x, L2⟩, h2, h⟩ := h
      replace h := ob h; obtain ⟨⟨vs', ids', L3⟩, h3, h⟩ := h
      simp at h; obtain ⟨rfl, rfl, rfl⟩ := h
      unfold outCo at h2
      split at h2
      · rename_i ver cs hb
        replace h2 := ob h2; obtain ⟨⟨y, L4⟩, h4, h2⟩ := h2
        simp at h2; obtain ⟨rfl, rfl⟩ := h2
        have hB := hs.blk b _ hb
        unfold BR at hB; simp only at hB
        obtain ⟨_, m, k, hm, hsh, hk, hcs, hro, hlm⟩ := hB
        obtain ⟨s1, j, l1, g1, u1, k1, t1, rr1, li1, nl1, nd1, o1⟩ := takeC_sim t hs hcs h4
        simp only at h3
        rw [← l1] at h3
        obtain ⟨s2, js, a1, a2, a3, a4, a5, a6, a7, a8, a9⟩ := outCbs_sim t1 (k1.env he) h3
        have hlim : s1.lim = s.lim := k1.lim
        have hb1 : b < s1.L.bl.length := Nat.lt_of_lt_of_le (lget_lt hb) k1.nb
        have hcb : CB s1 s.lim b ⟨t, y⟩ j := ⟨⟨m, k, by rw [u1]; exact hm, hsh, by rw [g1]; exact hk, hro, hlm, by rw [g1] at rr1 ⊢; exact rr1⟩, fun z hz => (li1 z).2 (.inr hz)⟩
        refine ⟨s2, j :: js, a1, a2.trans g1, a3.trans u1, k1.trans a4, a5, fun z hz => a6 z ((li1 z).2 (.inl hz)), ?_, fun z hz => ?_, fun vs2 ids2 js2 h2 => ?_⟩
        · rw [List.flatten_cons, List.nodup_append]
          exact ⟨nd1, a7, fun p hp q hq e => by subst e; exact a8 p hq ((li1 p).2 (.inr hp))⟩
        · rw [List.flatten_cons, List.mem_append] at hz
          rcases hz with hz | hz
          · exact nl1 z hz
          · exact fun h => a8 z hz ((li1 z).2 (.inl h))
        · exact ⟨hcb.keep a4 hb1 a2 a6, by rw [← hlim]; exact a9 vs2 ids2 js2 (by rw [hlim]; exact h2)⟩
      · simp at h2
    · simp at h

theorem outAbs_sim {env : PEnv} {e : Env} {s : S} (hs : StR s) (he : EnvR s env e) : ∀ {l : List (Nat × Ty)} {vs : List TV} {ids : List Nat}, outAbs env l s.L = some (vs, ids) → ∃ js, js.flatten = [] ∧ BDs s s.lim ids 0 vs js
  | [], vs, ids, h => by simp [outAbs] at h; obtain ⟨rfl, rfl⟩ := h; exact ⟨[], rfl, trivial⟩
  | (q, t) :: l, vs, ids, h => by
    simp only [outAbs] at h
    replace h := ob h; obtain ⟨p, h1, h⟩ := h
    split at h
    · rename_i b off n
      replace h := ob h; obtain ⟨x, h2, h⟩ := h
      replace h := ob h; obtain ⟨⟨vs', ids'⟩, h3, h⟩ := h
      simp at h; obtain ⟨rfl, rfl⟩ := h
      obtain ⟨js, j1, j2⟩ := outAbs_sim hs he h3
      refine ⟨[] :: js, by simpa using j1, ⟨rfl, ?_⟩, j2⟩
      unfold outAr at h2
      split at h2
      · rename_i ver t' xs hb
        replace h2 := ob h2; obtain ⟨y, h4, h2⟩ := h2
        simp at h2; subst h2
        have e0 := tcast_eq h4
        injection e0 with e0; subst e0
        have := tcast_self h4; subst this
        right
        obtain ⟨_, hfl, hrow⟩ := rows_info hs hb
        refine ⟨t', xs, rfl, hfl, ?_⟩
        rcases hrow with ⟨hm, hx⟩ | ⟨m, k, hm, a1, a2, a3, a4, a5, a6, a7⟩
        · rw [hm]; exact hx
        · rw [hm]; exact ⟨a1, a2, k, a3, a4, a5, a6, fun i hi => a7 i hi (by simp)⟩
      rename_i hnr
      unfold outAb at h2
      split at h2
      · rename_i ver u xs hb
        split at h2
        · simp at h2
        rename_i hno
        left
        replace h2 := ob h2; obtain ⟨y, h4, h2⟩ := h2
        simp at h2; subst h2
        have e0 := tcast_eq h4
        injection e0 with e0; subst e0
        have := tcast_self h4; subst this
        refine ⟨u, xs, rfl, hno, ?_⟩
        cases hm : s.μ b with
        | none => exact arr_nil hs hb hm
        | some m =>
          obtain ⟨a1, a2, k, a3, a4, a5, a6, a7⟩ := arr_info hs hb hm
          exact ⟨a1, a2, k, a3, arr_fit hs hb hm a3, a5, (a6 rfl).1, (a6 rfl).2⟩
      · simp at h2
    · rename_i b off
      replace h := ob h; obtain ⟨x, h2, h⟩ := h
      replace h := ob h; obtain ⟨⟨vs', ids'⟩, h3, h⟩ := h
      simp at h; obtain ⟨rfl, rfl⟩ := h
      obtain ⟨js, j1, j2⟩ := outAbs_sim hs he h3
      refine ⟨[] :: js, by simpa using j1, ⟨rfl, ?_⟩, j2⟩
      unfold outAr at h2
      split at h2
      · rename_i ver t' xs hb
        replace h2 := ob h2; obtain ⟨y, h4, h2⟩ := h2
        simp at h2; subst h2
        have e0 := tcast_eq h4
        injection e0 with e0; subst e0
        have := tcast_self h4; subst this
        right
        obtain ⟨_, hfl, hrow⟩ := rows_info hs hb
        refine ⟨t', xs, rfl, hfl, ?_⟩
        rcases hrow with ⟨hm, hx⟩ | ⟨m, k, hm, a1, a2, a3, a4, a5, a6, a7⟩
        · rw [hm]; exact hx
        · rw [hm]; exact ⟨a1, a2, k, a3, a4, a5, a6, fun i hi => a7 i hi (by simp)⟩
      rename_i hnr
      unfold outAb at h2
      split at h2
      · rename_i ver u xs hb
        split at h2
        · simp at h2
        rename_i hno
        left
        replace h2 := ob h2; obtain ⟨y, h4, h2⟩ := h2
        simp at h2; subst h2
        have e0 := tcast_eq h4
        injection e0 with e0; subst e0
        have := tcast_self h4; subst this
        refine ⟨u, xs, rfl, hno, ?_⟩
        cases hm : s.μ b with
        | none => exact arr_nil hs hb hm
        | some m =>
          obtain ⟨a1, a2, k, a3, a4, a5, a6, a7⟩ := arr_info hs hb hm
          exact ⟨a1, a2, k, a3, arr_fit hs hb hm a3, a5, (a6 rfl).1, (a6 rfl).2⟩
      · simp at h2
    · simp at h

/-- The loop's state taken out. -/
theorem outAll_sim {a : LoopA} {env : PEnv} {e : Env} {val : Nat → Value} (hval : ∀ q w, eget e q = some w → val q = w) {s : S} {vs : List TV} {ids : List Nat} {L' : LS} (hs : StR s) (he : EnvR s env e) (h : outAll a env s.L = some (vs, ids, L')) :
    ∃ s1 v1 v2 idss js, vs = v1 ++ v2 ∧ v1.length = a.slots.length ∧ s1.L = L' ∧ s1.H = s.H ∧ Keep s s1 ∧ StR s1 ∧ SR s1 s.lim val a.slots v1 idss ∧ (idss.flatten ++ js.flatten).Nodup ∧ BDs s1 s.lim ids a.cbs.length v2 js ∧ liveRw L' ids = true := by
  unfold outAll at h
  replace h := ob h; obtain ⟨⟨v1, L1⟩, h1, h⟩ := h
  replace h := ob h; obtain ⟨⟨v2, i2, L2⟩, h2, h⟩ := h
  replace h := ob h; obtain ⟨⟨v3, i3⟩, h3, h⟩ := h
  simp only at h2 h3 h
  split at h
  · rename_i hlv
    simp at h; obtain ⟨rfl, rfl, rfl⟩ := h
    obtain ⟨s1, idss, a1, a2, a3, a4, a5, a6, a7, a8, a9⟩ := outSlots_sim hval hs he h1
    rw [← a1] at h2
    obtain ⟨s2, js, b1, b2, b3, b4, b5, b6, b7, b8, b9⟩ := outCbs_sim a5 (a4.env he) h2
    rw [← b1] at h3
    obtain ⟨js2, j1, j2⟩ := outAbs_sim b5 ((a4.trans b4).env he) h3
    have hlim1 : s1.lim = s.lim := a4.lim
    have hlim2 : s2.lim = s1.lim := b4.lim
    have hlen : v1.length = a.slots.length := by
      have : ∀ {l : List (Nat × Bool × Ty)} {L L' : LS} {vs : List TV}, outSlots env l L = some (vs, L') → vs.length = l.length := by
        intro l
        induction l with
        | nil => intro L L' vs h; simp [outSlots] at h; obtain ⟨rfl, _⟩ := h; rfl
        | cons q l ih =>
          intro L L' vs h
          obtain ⟨q, o, t⟩ := q
          simp only [outSlots] at h
          replace h := ob h; obtain ⟨p, _, h⟩ := h
          replace h := ob h; obtain ⟨x, _, h⟩ := h
          replace h := ob h; obtain ⟨y, hy, h⟩ := h
          simp at h; obtain ⟨rfl, _⟩ := h; simp [ih (show outSlots env l x.2 = some (y.1, y.2) from hy)]
      exact this h1
    refine ⟨s2, v1, v2 ++ v3, idss, js ++ js2, rfl, hlen, b1, b2.trans a2, a4.trans b4, b5, a7.keep (fun z hz hlt => b4.N hlt hz) b2 b6, ?_, ?_, ?_⟩
    · rw [List.flatten_append, j1, List.append_nil, List.nodup_append]
      exact ⟨a8, b7, fun p hp q hq e => by subst e; exact b8 p hq (a7.lim p hp)⟩
    · rw [← hlim1]
      exact b9 _ _ _ (by rw [← hlim2]; exact j2)
    · exact hlv
  · simp at h

end Go.Pv
