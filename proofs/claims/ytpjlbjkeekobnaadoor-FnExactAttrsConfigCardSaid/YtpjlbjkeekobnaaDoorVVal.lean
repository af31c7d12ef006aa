/-
  Values of the interpreter by value and those of the first interpreter: operands, contents, parts, views, scalars.
  Conditions: the state is a good one.
-/
import Derived.Test.YtpjlbjkeekobnaaDoorVRows
set_option linter.all false
namespace Go.Pv
open Go.Ev

theorem ob {α β : Type} {x : Option α} {f : α → Option β} {y : β} (h : obind x f = some y) : ∃ a, x = some a ∧ f a = some y := obind_some h

theorem blt_lt {a b : Nat} (h : Nat.blt a b = true) : a < b := by unfold Nat.blt at h; exact Nat.le_of_ble_eq_true h
theorem lt_blt {a b : Nat} (h : a < b) : Nat.blt a b = true := by unfold Nat.blt; exact Nat.ble_eq_true_of_le h

theorem ofC1_rel {s : S} {v : Value} {p : PV} (h : ofC1 v = some p) : LR0 s p v ∧ leafOk v = true := by
  unfold ofC1 at h
  split at h <;> simp at h <;> subst h <;> exact ⟨rfl, rfl⟩

theorem ofCs_rel {s : S} : ∀ {vs : List Value} {ps : List PV}, ofCs vs = some ps → LRs s ps vs ∧ vs.all leafOk = true
  | [], _, h => by simp [ofCs] at h; subst h; exact ⟨trivial, rfl⟩
  | v :: r, _, h => by
    simp only [ofCs] at h
    obtain ⟨p, h1, h⟩ := ob h
    obtain ⟨l, h2, h⟩ := ob h
    simp at h; subst h
    obtain ⟨a1, a2⟩ := ofC1_rel (s := s) h1
    obtain ⟨b1, b2⟩ := ofCs_rel (s := s) h2
    exact ⟨⟨a1, b1⟩, by simp [a2, b2]⟩

theorem ofC_rel {s : S} {v : Value} {p : PV} (h : ofC v = some p) : ER s p v ∧ noRef v = true := by
  unfold ofC at h
  split at h
  · rename_i cs
    obtain ⟨l, h1, h⟩ := ob h
    simp at h; subst h
    obtain ⟨a, b⟩ := ofCs_rel (s := s) h1
    exact ⟨⟨cs.toList, by simp, a⟩, by simp only [noRef]; exact b⟩
  · rename_i hn
    obtain ⟨a, b⟩ := ofC1_rel (s := s) h
    refine ⟨ER.of0 a, ?_⟩
    cases v <;> first | exact b | (simp [leafOk] at b) | exact absurd rfl (hn _)

theorem pev_rel {s : S} {env : PEnv} {e : Env} (he : EnvR s env e) {x : Operand} {p : PV} (h : pev env x = some p) : ∃ v, ev e x = some v ∧ ER s p v := by
  cases x with
  | tmp t => exact he.get h
  | const v =>
    obtain ⟨a, b⟩ := ofC_rel (s := s) h
    exact ⟨v, by simp only [ev, b], a⟩
  | func f => simp [pev] at h; subst h; exact ⟨_, rfl, [], [], rfl, trivial, trivial⟩
  | global g => simp [pev] at h

theorem pevs_rel {s : S} {env : PEnv} {e : Env} (he : EnvR s env e) : ∀ {xs : List Operand} {ps : List PV}, pevs env xs = some ps → ∃ vs, evs e xs = some vs ∧ All2 (ER s) ps vs
  | [], _, h => by simp [pevs] at h; subst h; exact ⟨[], rfl, trivial⟩
  | x :: r, _, h => by
    simp only [pevs] at h
    obtain ⟨p, h1, h⟩ := ob h
    obtain ⟨l, h2, h⟩ := ob h
    simp at h; subst h
    obtain ⟨v, e1, r1⟩ := pev_rel he h1
    obtain ⟨vs, e2, r2⟩ := pevs_rel he h2
    exact ⟨v :: vs, by simp [evs, e1, e2, obind], r1, r2⟩

def PartR (s : S) (a : Nat × PV) (b : Nat × Value) : Prop := a.1 = b.1 ∧ ER s a.2 b.2

theorem pevParts_rel {s : S} {env : PEnv} {e : Env} (he : EnvR s env e) : ∀ {xs : List (Nat × Operand)} {ps : List (Nat × PV)}, pevParts env xs = some ps → ∃ vs, evParts e xs = some vs ∧ All2 (PartR s) ps vs
  | [], _, h => by simp [pevParts] at h; subst h; exact ⟨[], rfl, trivial⟩
  | (i, x) :: r, _, h => by
    simp only [pevParts] at h
    obtain ⟨p, h1, h⟩ := ob h
    obtain ⟨l, h2, h⟩ := ob h
    simp at h; subst h
    obtain ⟨v, e1, r1⟩ := pev_rel he h1
    obtain ⟨vs, e2, r2⟩ := pevParts_rel he h2
    exact ⟨(i, v) :: vs, by simp [evParts, e1, e2, obind], ⟨rfl, r1⟩, r2⟩

theorem Rep.mono {N M : Nat → Prop} {H : Heap} (h : ∀ z, N z → M z) (t : Ty) {x : t.T} {cs : List Value} (r : Rep N H t x cs) : Rep M H t x cs :=
  Rep.frame (fun z hz _ => ⟨h z hz, rfl⟩) t r

def Any : Nat → Prop := fun _ => True

theorem Rep.any {N : Nat → Prop} {H : Heap} (t : Ty) {x : t.T} {cs : List Value} (r : Rep N H t x cs) : Rep Any H t x cs := r.mono (fun _ _ => trivial) t

theorem getElem_cut {α : Type} (xs : List α) (off n i : Nat) (h : i < ((xs.drop off).take n).length) : ((xs.drop off).take n)[i] = xs[off + i]'(by simp at h; omega) := by
  simp

/-- A value that leads to rows. -/
def RowP (b : Nat) (p : PV) : Prop := (∃ off n, p = .osl b off n) ∨ ∃ i ver t x, p = .rw b i ver t x

theorem content_arr {s : S} (hs : StR s) {b off : Nat} {n : Option Nat} {v : Value} (hr : LR0 s (.osl b off n) v) {ver : Nat} {rw' : Bool} {u : Ty} {xs : List u.T} (hb : lget s.L b = some ⟨ver, rw', .arr u xs⟩) {t : Ty} {x : List t.T} (h : content s.L (.osl b off n) t = some x) {M : Nat → Prop} (h2 : ∀ m, PV.osl b off n = .osl b off n → s.μ b = some m → M m.z) (h3 : ∀ z, s.N z → M z) : Rep M s.H (.sl t) x [v] := by
  unfold content at h
  simp only [hb] at h
  obtain ⟨e, hx⟩ := tcast_some h
  injection e with e; subst e
  simp at hx; subst hx
  obtain ⟨hlb, hr⟩ := hr
  have hB := hs.blk b _ hb
  unfold BR at hB; simp only at hB
  cases hm : s.μ b with
  | none =>
    rw [hm] at hr hB; obtain ⟨rfl, h5, rfl⟩ := hr
    subst hB
    have : cut ([] : List u.T) 0 n = [] := by cases n <;> simp [cut]
    rw [this]; unfold Rep; exact .inl ⟨rfl, rfl⟩
  | some m =>
    rw [hm] at hr hB
    obtain ⟨g1, g2, k, g3, g4, g5, g6, g7⟩ := hB
    have g4 := g4.1
    obtain ⟨a1, a2⟩ := hr
    have hlen : (cut xs off n).length = n.getD (m.n - off) := by
      cases n with
      | none => simp [cut, g2]
      | some l => simp [cut] at a1 ⊢; omega
    have hle : off + (cut xs off n).length ≤ xs.length := by rw [hlen]; omega
    have hget : ∀ i (hi : i < (cut xs off n).length), (cut xs off n)[i] = xs[off + i]'(by omega) := by
      intro i hi
      cases n with
      | none => simp [cut]
      | some l => simp [cut]
    unfold Rep
    refine .inr (.inr ⟨m.z, m.sh + off * u.size, k, ?_, h2 m rfl hm, g3, ?_, fun i hi => ?_⟩)
    · rw [a2, hlen, g1]
    · have : (off + (cut xs off n).length) * u.size ≤ xs.length * u.size := Nat.mul_le_mul_right _ hle
      rw [Nat.add_mul] at this; omega
    · rw [hget i hi]
      have := g5 (off + i) (by omega)
      rw [Nat.add_mul, ← Nat.add_assoc] at this
      exact Rep.mono h3 u this

theorem content_rep {s : S} (hs : StR s) {p : PV} {v : Value} (hr : LR0 s p v) {t : Ty} {x : List t.T} (h : content s.L p t = some x) : Rep Any s.H (.sl t) x [v] ∧ ∀ M : Nat → Prop, (∀ st u y, p = .ro st u y → ∀ z, s.NN st z → M z) → (∀ b off n m, p = .osl b off n → s.μ b = some m → M m.z) → (∀ b z i, RowP b p → s.Kid z = some (b, i) → M z) → (∀ z, s.N z → M z) → Rep M s.H (.sl t) x [v] := by
  suffices key : ∀ M : Nat → Prop, (∀ st u y, p = .ro st u y → ∀ z, s.NN st z → M z) → (∀ b off n m, p = .osl b off n → s.μ b = some m → M m.z) → (∀ b z i, RowP b p → s.Kid z = some (b, i) → M z) → (∀ z, s.N z → M z) → Rep M s.H (.sl t) x [v] from
    ⟨key Any (fun _ _ _ _ _ _ => trivial) (fun _ _ _ _ _ _ => trivial) (fun _ _ _ _ _ => trivial) (fun _ _ => trivial), key⟩
  intro M h1 h2 hK h3
  unfold content at h
  split at h
  · simp at h; subst h; obtain rfl := hr; unfold Rep; exact .inl ⟨rfl, rfl⟩
  · rename_i st u y
    obtain ⟨e, hx⟩ := tcast_some h
    injection e with e; subst e
    simp at hx; subst hx
    exact Rep.mono (h1 st u y rfl) (.sl u) hr
  · rename_i b off n
    split at h
    · rename_i ver rw u xs hb
      exact content_arr hs hr hb (by unfold content; simp only [hb]; exact h) (fun m _ hm => h2 b off n m rfl hm) h3
    · rename_i ver u xs hb
      obtain ⟨e, hx⟩ := tcast_some h
      injection e with e; subst e
      simp at hx; subst hx
      obtain ⟨hlb, hr⟩ := hr
      have hB := hs.blk b _ hb
      unfold BR at hB; simp only at hB
      obtain ⟨_, r1, hB⟩ := hB
      cases hm : s.μ b with
      | none =>
        rw [hm] at hr hB; obtain ⟨rfl, h5, rfl⟩ := hr
        subst hB
        have : cut ([] : List (List u.T)) 0 n = [] := by cases n <;> simp [cut]
        rw [this]; unfold Rep; exact .inl ⟨rfl, rfl⟩
      | some m =>
        rw [hm] at hr hB
        obtain ⟨g1, g2, k, g3, g4, g5, g6, g7⟩ := hB
        have g4 := g4.1
        obtain ⟨a1, a2⟩ := hr
        have hlen : (cut xs off n).length = n.getD (m.n - off) := by
          cases n with
          | none => simp [cut, g2]
          | some l => simp [cut] at a1 ⊢; omega
        have hle : off + (cut xs off n).length ≤ xs.length := by rw [hlen]; omega
        have hget : ∀ i (hi : i < (cut xs off n).length), (cut xs off n)[i] = xs[off + i]'(by omega) := by
          intro i hi
          cases n with
          | none => simp [cut]
          | some l => simp [cut]
        unfold Rep
        refine .inr (.inr ⟨m.z, m.sh + off, k, ?_, h2 b off n m rfl hm, g3, ?_, fun i hi => ?_⟩)
        · rw [a2, hlen, g1, Nat.mul_one]; rfl
        · have : (cut xs off n).length * (Ty.sl u).size = (cut xs off n).length := Nat.mul_one _
          show m.sh + off + (cut xs off n).length * (Ty.sl u).size ≤ _
          rw [this]; omega
        · rw [hget i hi]
          obtain ⟨w, q1, q2⟩ := g7 (off + i) (by omega) (by simp)
          have : (k.cells.drop (m.sh + off + i * (Ty.sl u).size)).take (Ty.sl u).size = [w] := by
            rw [show (Ty.sl u).size = 1 from rfl, Nat.mul_one, show m.sh + off + i = m.sh + (off + i) by omega]
            obtain ⟨hl, he⟩ := List.getElem?_eq_some_iff.1 q1
            rw [List.drop_eq_getElem_cons hl, List.take_succ_cons, List.take_zero, he]
          rw [this]
          exact q2.rep r1 (fun z hz => hK b z _ (.inl ⟨off, n, rfl⟩) hz)
    · simp at h
  · rename_i b i ver u y
    split at h
    · rename_i v' t' xs' h' hb
      split at h
      · rename_i hv
        have hv := Nat.eq_of_beq_eq_true hv
        obtain ⟨e, hx⟩ := tcast_some h
        injection e with e; subst e
        simp at hx; subst hx
        obtain ⟨_, _, hr⟩ := hr
        obtain ⟨r1, r2, _⟩ := (hr _ hb).2 hv
        exact r2.rep r1 (fun z hz => hK b z i (.inr ⟨i, ver, u, y, rfl⟩) hz)
      · simp at h
    · simp at h
  · simp at h

theorem LRs.one {s : S} {p : PV} {vs : List Value} (h : LRs s [p] vs) : ∃ v, vs = [v] ∧ LR0 s p v := by
  match vs, h with
  | [v], h => exact ⟨v, rfl, h.1⟩

theorem Rep.pairMk {N : Nat → Prop} {H : Heap} {a b : Ty} {x : a.T} {y : b.T} {cs : List Value} (h1 : Rep N H a x (cs.take a.size)) (h2 : Rep N H b y (cs.drop a.size)) : Rep N H (.pair a b) (x, y) cs := by
  unfold Rep; exact ⟨h1, h2⟩

/-- A value read off its cells, with nothing changed. -/
theorem refl_M {s : S} (hs : StR s) {M : Nat → Prop} (hN : ∀ z, s.N z → M z) : ∀ (t : Ty) {cs : List PV} {vs : List Value} {x : t.T} {L' : LS}, (∀ b off n m B, PV.osl b off n ∈ cs → lget s.L b = some B → s.μ b = some m → M m.z) → (∀ p ∈ cs, ∀ b z i, RowP b p → s.Kid z = some (b, i) → M z) → LRs s cs vs → refl false t cs s.L = some (x, L') → L' = s.L ∧ Rep M s.H t x vs
  | .int k, cs, vs, x, L', hM, hK, hr, h => by
    unfold refl at h; split at h
    · split at h <;> simp at h
      obtain ⟨v, rfl, hv⟩ := hr.one
      obtain rfl := hv
      obtain ⟨rfl, rfl⟩ := h
      rename_i e; subst e
      exact ⟨rfl, by unfold Rep; rfl⟩
    · simp at h
  | .bool, cs, vs, x, L', hM, hK, hr, h => by
    unfold refl at h; split at h
    · simp at h
      obtain ⟨v, rfl, hv⟩ := hr.one
      obtain rfl := hv
      obtain ⟨rfl, rfl⟩ := h
      exact ⟨rfl, by unfold Rep; rfl⟩
    · simp at h
  | .str, cs, vs, x, L', hM, hK, hr, h => by
    unfold refl at h; split at h
    · simp at h
      obtain ⟨v, rfl, hv⟩ := hr.one
      obtain rfl := hv
      obtain ⟨rfl, rfl⟩ := h
      exact ⟨rfl, by unfold Rep; rfl⟩
    · simp at h
  | .sl t, cs, vs, x, L', hM, hK, hr, h => by
    unfold refl at h; split at h
    · obtain ⟨y, h1, h⟩ := ob h
      simp at h; obtain ⟨h2, h3⟩ := h
      obtain ⟨v, rfl, hv⟩ := hr.one
      subst h2
      exact ⟨h3.symm, (content_rep hs hv h1).2 M (fun st u y e z hz => hN z hz.1) (fun b off n m e hm => (by
        subst e
        unfold content at h1; simp only at h1
        cases hb : lget s.L b with
        | none => simp [hb] at h1
        | some B => exact hM b off n m B (by simp) hb hm)) (fun b z i e hz => hK _ (by simp) b z i e hz) hN⟩
    · simp at h
  | .pair a b, cs, vs, x, L', hM, hK, hr, h => by
    unfold refl at h
    obtain ⟨r, h1, h⟩ := ob h
    obtain ⟨q, h2, h⟩ := ob h
    simp at h; obtain ⟨e1, e2⟩ := h
    obtain ⟨a1, a2⟩ := refl_M hs hN a (fun b off n m B hm => hM b off n m B (List.mem_of_mem_take hm)) (fun p hp => hK p (List.mem_of_mem_take hp)) (All2.take a.size hr) (by rw [h1])
    rw [a1] at h2
    obtain ⟨b1, b2⟩ := refl_M hs hN b (fun b off n m B hm => hM b off n m B (List.mem_of_mem_drop hm)) (fun p hp => hK p (List.mem_of_mem_drop hp)) (All2.drop a.size hr) (by rw [h2])
    subst e1 e2
    exact ⟨b1, Rep.pairMk a2 b2⟩

theorem refl_any {s : S} (hs : StR s) (t : Ty) {cs : List PV} {vs : List Value} {x : t.T} {L' : LS} (hr : LRs s cs vs) (h : refl false t cs s.L = some (x, L')) : L' = s.L ∧ Rep Any s.H t x vs :=
  refl_M hs (fun _ _ => trivial) t (fun _ _ _ _ _ _ _ _ => trivial) (fun _ _ _ _ _ _ _ => trivial) hr h

theorem osl_arr {s : S} (hs : StR s) {b off : Nat} {n : Option Nat} {t : Ty} {x : List t.T} (h : content s.L (.osl b off n) t = some x) : ∀ B, lget s.L b = some B → okF B.body := by
  intro B hb
  unfold content at h; simp only [hb] at h
  obtain ⟨v, r, bo⟩ := B
  cases bo with
  | cells cs => simp at h
  | arr u xs => trivial
  | rows u xs ho =>
    cases ho with
    | none => trivial
    | some i => simp at h

/-- The same, where rows are asked for only as such. -/
theorem content_fz {s : S} (hs : StR s) {p : PV} {v : Value} (hr : LR0 s p v) {t : Ty} {x : List t.T} (h : content s.L p t = some x) (M : Nat → Prop) (h1 : ∀ st u y, p = .ro st u y → ∀ z, s.NN st z → M z) (h2 : ∀ b off n m, p = .osl b off n → s.μ b = some m → M m.z)
    (hK : ∀ b t xs B z i, (∃ off n, p = .osl b off n) → lget s.L b = some B → B.body = .rows t xs none → s.Kid z = some (b, i) → M z) (hW : ∀ b j ver t x, p ≠ .rw b j ver t x) (h3 : ∀ z, s.N z → M z) : Rep M s.H (.sl t) x [v] := by
  by_cases hq : ∃ b off n B t' xs, p = .osl b off n ∧ lget s.L b = some B ∧ B.body = .rows t' xs none
  · obtain ⟨b, off, n, B, t', xs, rfl, hb, hbo⟩ := hq
    refine (content_rep hs hr h).2 M h1 h2 (fun b' z i e hz => ?_) h3
    rcases e with ⟨off', n', e⟩ | ⟨j, ver, u, y, e⟩
    · injection e with e1 e2 e3; subst e1
      exact hK _ t' xs B z i ⟨off, n, rfl⟩ hb hbo hz
    · simp at e
  · -- no rows: their kids are not asked for
    have key : ∀ b off n, p = .osl b off n → ∀ B, lget s.L b = some B → ∃ u xs, B.body = .arr u xs := by
      rintro b off n rfl B hb
      unfold content at h; simp only [hb] at h
      obtain ⟨ve, r, bo⟩ := B
      cases bo with
      | cells cs => simp at h
      | arr u xs => exact ⟨u, xs, rfl⟩
      | rows u xs ho =>
        cases ho with
        | none => exact absurd ⟨b, off, n, _, u, xs, rfl, hb, rfl⟩ hq
        | some i => simp at h
    by_cases hp : ∃ b off n, p = .osl b off n
    · obtain ⟨b, off, n, rfl⟩ := hp
      cases hb : lget s.L b with
      | none => unfold content at h; simp [hb] at h
      | some B =>
        obtain ⟨u, xs, hbo⟩ := key b off n rfl B hb
        have h' := h
        unfold content at h'; simp only [hb] at h'
        obtain ⟨ve, r, bo⟩ := B
        simp only at hbo; subst hbo
        exact content_arr hs hr hb h (h2 b off n) h3
    · refine (content_rep hs hr h).2 M h1 h2 (fun b z i e hz => ?_) h3
      rcases e with ⟨off, n, e⟩ | ⟨j, ver, u, y, e⟩
      · exact absurd ⟨b, off, n, e⟩ hp
      · exact absurd e (hW b j ver u y)

/-- A value read off its cells, what is owned in it frozen. -/
theorem refl_fz : ∀ (t : Ty) {s : S} {cs : List PV} {vs : List Value} {x : t.T} {L' : LS}, StR s → LRs s cs vs → refl true t cs s.L = some (x, L') →
    ∃ s', s'.L = L' ∧ s'.H = s.H ∧ s'.μ = s.μ ∧ Keep s s' ∧ StR s' ∧ Rep s'.N s'.H t x vs ∧ (∀ z, Own s' z → Own s z) ∧ s'.Lim = s.Lim
  | .int k, s, cs, vs, x, L', hs, hr, h => by
    obtain ⟨rfl, r⟩ := refl_any (x := x) (L' := L') hs (.int k) hr (by unfold refl at h ⊢; exact h)
    exact ⟨s, rfl, rfl, rfl, Keep.refl s, hs, Rep.flat (.int k) rfl r, fun _ h => h, rfl⟩
  | .bool, s, cs, vs, x, L', hs, hr, h => by
    obtain ⟨rfl, r⟩ := refl_any (x := x) (L' := L') hs .bool hr (by unfold refl at h ⊢; exact h)
    exact ⟨s, rfl, rfl, rfl, Keep.refl s, hs, Rep.flat .bool rfl r, fun _ h => h, rfl⟩
  | .str, s, cs, vs, x, L', hs, hr, h => by
    obtain ⟨rfl, r⟩ := refl_any (x := x) (L' := L') hs .str hr (by unfold refl at h ⊢; exact h)
    exact ⟨s, rfl, rfl, rfl, Keep.refl s, hs, Rep.flat .str rfl r, fun _ h => h, rfl⟩
  | .sl t, s, cs, vs, x, L', hs, hr, h => by
    unfold refl at h; split at h
    · rename_i p
      obtain ⟨y, h1, h⟩ := ob h
      have hcf : canFz p = true := by
        cases hq : canFz p with
        | true => rfl
        | false => simp [hq] at h
      simp [hcf] at h; obtain ⟨h2, h3⟩ := h
      obtain ⟨v, rfl, hv⟩ := hr.one
      subst h2
      by_cases hp : ∃ b off n, p = .osl b off n
      · obtain ⟨b, off, n, rfl⟩ := hp
        obtain ⟨s', e1, e2, e3, hk, hs', hN, ho, hl, hN2⟩ := hs.freezeB b (osl_arr hs h1)
        refine ⟨s', by rw [e1, ← h3]; rfl, e2, e3, hk, hs', ?_, ho, hl⟩
        have hv' := hk.LR0 hv
        have hc : ∃ B, lget s.L b = some B := by
          unfold content at h1; simp only at h1
          cases hb : lget s.L b with
          | none => simp [hb] at h1
          | some B => exact ⟨B, rfl⟩
        obtain ⟨B, hb⟩ := hc
        rw [e2]
        refine content_fz hs hv h1 _ (fun st u z e => by simp at e) (fun b' off' n' m e hm => ?_) (fun b' t' xs' B' z i e hb' hbo hz => ?_) (fun b' j' v' t' x' e => by simp at e) (fun z hz => ⟨fun hoz => hz.1 (ho z hoz), by rw [hk.ban]; exact hz.2⟩)
        · injection e with e _ _; subst e
          exact hN B m hb hm
        · obtain ⟨off', n', e⟩ := e
          injection e with e _ _; subst e
          exact hN2 B' t' xs' hb' hbo z i hz
      · refine ⟨s, ?_, rfl, rfl, Keep.refl s, hs, ?_, fun _ h => h, rfl⟩
        · rw [← h3]; unfold freeze; split
          · exact absurd ⟨_, _, _, rfl⟩ hp
          · rfl
        · exact (content_rep hs hv h1).2 _ (fun st u z e q hq => hq.1) (fun b off n m e => absurd ⟨b, off, n, e⟩ hp) (fun b z i e _ => by
            rcases e with ⟨off, n, e⟩ | ⟨j, ver, t', x', e⟩
            · exact absurd ⟨b, off, n, e⟩ hp
            · subst e; simp [canFz] at hcf) (fun z hz => hz)
    · simp at h
  | .pair a b, s, cs, vs, x, L', hs, hr, h => by
    unfold refl at h
    obtain ⟨r, h1, h⟩ := ob h
    obtain ⟨q, h2, h⟩ := ob h
    simp at h; obtain ⟨e1, e2⟩ := h
    obtain ⟨s1, l1, g1, u1, k1, t1, r1, o1, m1⟩ := refl_fz a (x := r.1) (L' := r.2) hs (All2.take a.size hr) (by rw [h1])
    rw [← l1] at h2
    obtain ⟨s2, l2, g2, u2, k2, t2, r2, o2, m2⟩ := refl_fz b (x := q.1) (L' := q.2) t1 (All2.drop a.size (k1.LRs hr)) (by rw [h2])
    subst e1 e2
    exact ⟨s2, l2, g2.trans g1, u2.trans u1, k1.trans k2, t2, Rep.pairMk (k2.repN r1) r2, fun z hz => o1 z (o2 z hz), m2.trans m1⟩

theorem S.NN_clk {s : S} {z : Nat} (h : s.N z) : s.NN s.L.clk z := ⟨h, fun c h1 h2 => absurd h1 (by omega)⟩

theorem reflN_any {s : S} (hs : StR s) (u : Ty) : ∀ {n : Nat} {cs : List PV} {vs : List Value} {xs : List u.T}, LRs s cs vs → reflN u n cs s.L = some xs →
    xs.length = n ∧ n * u.size ≤ vs.length ∧ ∀ i (h : i < xs.length), Rep Any s.H u xs[i] ((vs.drop (i * u.size)).take u.size)
  | 0, cs, vs, xs, hr, h => by simp [reflN] at h; subst h; simp
  | n + 1, cs, vs, xs, hr, h => by
    simp only [reflN] at h
    obtain ⟨x, h1, h⟩ := ob h
    obtain ⟨r, h2, h⟩ := ob h
    simp at h; subst h
    obtain ⟨e1, r1⟩ := refl_any (x := x.1) (L' := x.2) hs u (All2.take u.size hr) (by rw [h1])
    obtain ⟨a1, a2, a3⟩ := reflN_any hs u (All2.drop u.size hr) h2
    have hl := Rep.len _ r1
    simp only [List.length_take, List.length_drop] at hl a2
    refine ⟨by simp [a1], by rw [Nat.add_mul, Nat.one_mul]; omega, fun i hi => ?_⟩
    cases i with
    | zero => simpa using r1
    | succ i =>
      have := a3 i (by simpa using hi)
      rw [List.drop_drop] at this
      simp only [List.getElem_cons_succ]
      rw [Nat.add_mul, Nat.one_mul, Nat.add_comm (i * u.size)]; exact this

theorem reify_rel {s : S} {st : Nat} : ∀ (t : Ty) {x : t.T} {cs : List Value}, Rep (s.NN st) s.H t x cs → LRs s (reify st t x) cs
  | .int k, x, cs, h => by unfold Rep at h; subst h; exact ⟨rfl, trivial⟩
  | .bool, x, cs, h => by unfold Rep at h; subst h; exact ⟨rfl, trivial⟩
  | .str, x, cs, h => by unfold Rep at h; subst h; exact ⟨rfl, trivial⟩
  | .sl t, x, cs, h => by
    have h' := h
    have hl := Rep.len (.sl t) h
    match cs, hl with
    | [v], _ => exact ⟨h', trivial⟩
  | .os t, x, cs, h => by unfold Rep at h; obtain ⟨v, rfl, hv⟩ := h; exact ⟨hv, trivial⟩
  | .pair a b, x, cs, h => by
    unfold Rep at h
    unfold reify
    have := All2.append (reify_rel a h.1) (reify_rel b h.2)
    rw [List.take_append_drop] at this; exact this

/-- The value whose cells these are. -/
def IsVal (t : Ty) (cs : List Value) (v : Value) : Prop := match t with
  | .pair _ _ => v = .agg ⟨cs⟩
  | _ => cs = [v]

theorem wrap_rel {s : S} {st : Nat} {t : Ty} {x : t.T} {cs : List Value} {v : Value} (hv : IsVal t cs v) (h : Rep (s.NN st) s.H t x cs) : AR s (wrapV t (reify st t x)) v := by
  have hr := reify_rel t h
  cases t with
  | pair a b => obtain rfl := hv; exact ⟨cs, rfl, hr⟩
  | int k => obtain rfl := hv; exact AR.of hr.1
  | bool => obtain rfl := hv; exact AR.of hr.1
  | str => obtain rfl := hv; exact AR.of hr.1
  | sl t => obtain rfl := hv; exact AR.of hr.1
  | os t => obtain rfl := hv; exact AR.of hr.1

theorem drop_take_drop {α : Type} (l : List α) (a b n : Nat) : (((l.drop a)).drop b).take n = (l.drop (a + b)).take n := by rw [List.drop_drop]

theorem sub_rep {N : Nat → Prop} {H : Heap} : ∀ (t u : Ty) {o : Nat} {x : t.T} {y : u.T} {cs : List Value}, sub t u o x = some y → Rep N H t x cs → Rep N H u y ((cs.drop o).take u.size) ∧ o + u.size ≤ t.size := by
  intro t
  induction t with
  | pair a b iha ihb =>
    intro u o x y cs h r
    have hlen := Rep.len _ r
    unfold sub at h
    split at h
    · rename_i h1 h2
      have ho := Nat.eq_of_beq_eq_true h1
      have hu := Ty.beq_eq h2
      subst hu ho
      have := tcast_self h
      subst this
      simp only [List.drop_zero, Nat.zero_add]
      rw [List.take_of_length_le (by omega)]
      exact ⟨r, Nat.le_refl _⟩
    · unfold Rep at r
      split at h
      · rename_i h1
        have ho : o < a.size := blt_lt h1
        obtain ⟨g1, g2⟩ := iha u h r.1
        refine ⟨?_, by simp [Ty.size]; omega⟩
        have : ((cs.take a.size).drop o).take u.size = (cs.drop o).take u.size := by
          rw [List.drop_take, List.take_take, Nat.min_eq_left (by omega)]
        rw [this] at g1; exact g1
      · rename_i h1
        have ho : ¬ o < a.size := by intro hlt; rw [lt_blt hlt] at h1; simp at h1
        obtain ⟨g1, g2⟩ := ihb u h r.2
        refine ⟨?_, by simp [Ty.size]; omega⟩
        rw [drop_take_drop, show a.size + (o - a.size) = o by omega] at g1; exact g1
  | int k =>
    intro u o x y cs h r
    unfold sub at h; split at h
    · rename_i h1
      have ho := Nat.eq_of_beq_eq_true h1; subst ho
      have e := tcast_eq h; subst e
      have := tcast_self h; subst this
      have hlen := Rep.len _ r
      simp only [List.drop_zero, Nat.zero_add]
      rw [List.take_of_length_le (by omega)]; exact ⟨r, Nat.le_refl _⟩
    · simp at h
  | bool =>
    intro u o x y cs h r
    unfold sub at h; split at h
    · rename_i h1
      have ho := Nat.eq_of_beq_eq_true h1; subst ho
      have e := tcast_eq h; subst e
      have := tcast_self h; subst this
      have hlen := Rep.len _ r
      simp only [List.drop_zero, Nat.zero_add]
      rw [List.take_of_length_le (by omega)]; exact ⟨r, Nat.le_refl _⟩
    · simp at h
  | str =>
    intro u o x y cs h r
    unfold sub at h; split at h
    · rename_i h1
      have ho := Nat.eq_of_beq_eq_true h1; subst ho
      have e := tcast_eq h; subst e
      have := tcast_self h; subst this
      have hlen := Rep.len _ r
      simp only [List.drop_zero, Nat.zero_add]
      rw [List.take_of_length_le (by omega)]; exact ⟨r, Nat.le_refl _⟩
    · simp at h
  | sl t _ =>
    intro u o x y cs h r
    unfold sub at h; split at h
    · rename_i h1
      have ho := Nat.eq_of_beq_eq_true h1; subst ho
      have e := tcast_eq h; subst e
      have := tcast_self h; subst this
      have hlen := Rep.len _ r
      simp only [List.drop_zero, Nat.zero_add]
      rw [List.take_of_length_le (by omega)]; exact ⟨r, Nat.le_refl _⟩
    · simp at h
  | os t _ =>
    intro u o x y cs h r
    unfold sub at h; split at h
    · rename_i h1
      have ho := Nat.eq_of_beq_eq_true h1; subst ho
      have e := tcast_eq h; subst e
      have := tcast_self h; subst this
      have hlen := Rep.len _ r
      simp only [List.drop_zero, Nat.zero_add]
      rw [List.take_of_length_le (by omega)]; exact ⟨r, Nat.le_refl _⟩
    · simp at h

/-- Cells laid over cells. -/
def lay (cs : List Value) (o : Nat) (ds : List Value) : List Value := cs.take o ++ ds ++ cs.drop (o + ds.length)

theorem upd_rep {N : Nat → Prop} {H : Heap} : ∀ (t u : Ty) {o : Nat} {x x' : t.T} {y : u.T} {cs ds : List Value}, upd t u o x y = some x' → Rep N H t x cs → Rep N H u y ds → Rep N H t x' (lay cs o ds) ∧ o + u.size ≤ t.size := by
  intro t
  induction t with
  | pair a b iha ihb =>
    intro u o x x' y cs ds h r ry
    have hlen := Rep.len _ r
    have hld := Rep.len _ ry
    unfold upd at h
    split at h
    · rename_i h1 h2
      have ho := Nat.eq_of_beq_eq_true h1
      have hu := Ty.beq_eq h2
      subst hu ho
      have := tcast_self h
      subst this
      have : lay cs 0 ds = ds := by unfold lay; simp; omega
      rw [this]
      exact ⟨ry, by omega⟩
    · have r0 := r
      unfold Rep at r
      have hla := Rep.len _ r.1
      have hlb := Rep.len _ r.2
      have hlt : cs.length = a.size + b.size := by simpa [Ty.size] using hlen
      split at h
      · rename_i h1
        have ho : o < a.size := blt_lt h1
        obtain ⟨z, g, h⟩ := ob h
        simp at h; subst h
        obtain ⟨g1, g2⟩ := iha u g r.1 ry
        have hl1 := Rep.len _ g1
        refine ⟨?_, by simp [Ty.size]; omega⟩
        have e : lay cs o ds = lay (cs.take a.size) o ds ++ cs.drop a.size := by
          unfold lay
          have e1 : cs.take o = (cs.take a.size).take o := by rw [List.take_take, Nat.min_eq_left (by omega)]
          have e2 : cs.drop (o + ds.length) = (cs.take a.size).drop (o + ds.length) ++ cs.drop a.size := by
            conv => lhs; rw [← List.take_append_drop a.size cs]
            rw [List.drop_append_of_le_length (by simp; omega)]
          rw [e2, ← e1]; simp [List.append_assoc]
        rw [e]
        refine Rep.pairMk ?_ ?_
        · rw [List.take_append_of_le_length (by omega), List.take_of_length_le (by omega)]; exact g1
        · rw [List.drop_append_of_le_length (by omega), List.drop_of_length_le (by omega)]; simpa using r.2
      · rename_i h1
        have ho : ¬ o < a.size := by intro hlt; rw [lt_blt hlt] at h1; simp at h1
        obtain ⟨z, g, h⟩ := ob h
        simp at h; subst h
        obtain ⟨g1, g2⟩ := ihb u g r.2 ry
        have hl1 := Rep.len _ g1
        refine ⟨?_, by simp [Ty.size]; omega⟩
        have e : lay cs o ds = cs.take a.size ++ lay (cs.drop a.size) (o - a.size) ds := by
          unfold lay
          have e1 : cs.take o = cs.take a.size ++ (cs.drop a.size).take (o - a.size) := by
            conv => lhs; rw [← List.take_append_drop a.size cs]
            rw [List.take_append, List.length_take, Nat.min_eq_left (by omega), List.take_of_length_le (by simp; omega)]
          have e2 : (cs.drop a.size).drop (o - a.size + ds.length) = cs.drop (o + ds.length) := by
            rw [List.drop_drop]; congr 1; omega
          rw [e1, e2]; simp [List.append_assoc]
        rw [e]
        have hta : (cs.take a.size).length = a.size := by simp; omega
        refine Rep.pairMk ?_ ?_
        · rw [List.take_append_of_le_length (by omega), List.take_of_length_le (by omega)]; exact r.1
        · rw [List.drop_append_of_le_length (by omega), List.drop_of_length_le (by omega)]; simpa using g1
  | int k =>
    intro u o x x' y cs ds h r ry
    unfold upd at h; split at h
    · rename_i h1
      have ho := Nat.eq_of_beq_eq_true h1; subst ho
      have e := tcast_eq h; subst e
      have := tcast_self h; subst this
      have hlen := Rep.len _ r; have hld := Rep.len _ ry
      have : lay cs 0 ds = ds := by unfold lay; simp; omega
      rw [this]; exact ⟨ry, by omega⟩
    · simp at h
  | bool =>
    intro u o x x' y cs ds h r ry
    unfold upd at h; split at h
    · rename_i h1
      have ho := Nat.eq_of_beq_eq_true h1; subst ho
      have e := tcast_eq h; subst e
      have := tcast_self h; subst this
      have hlen := Rep.len _ r; have hld := Rep.len _ ry
      have : lay cs 0 ds = ds := by unfold lay; simp; omega
      rw [this]; exact ⟨ry, by omega⟩
    · simp at h
  | str =>
    intro u o x x' y cs ds h r ry
    unfold upd at h; split at h
    · rename_i h1
      have ho := Nat.eq_of_beq_eq_true h1; subst ho
      have e := tcast_eq h; subst e
      have := tcast_self h; subst this
      have hlen := Rep.len _ r; have hld := Rep.len _ ry
      have : lay cs 0 ds = ds := by unfold lay; simp; omega
      rw [this]; exact ⟨ry, by omega⟩
    · simp at h
  | sl t _ =>
    intro u o x x' y cs ds h r ry
    unfold upd at h; split at h
    · rename_i h1
      have ho := Nat.eq_of_beq_eq_true h1; subst ho
      have e := tcast_eq h; subst e
      have := tcast_self h; subst this
      have hlen := Rep.len _ r; have hld := Rep.len _ ry
      have : lay cs 0 ds = ds := by unfold lay; simp; omega
      rw [this]; exact ⟨ry, by omega⟩
    · simp at h
  | os t _ =>
    intro u o x x' y cs ds h r ry
    unfold upd at h; split at h
    · rename_i h1
      have ho := Nat.eq_of_beq_eq_true h1; subst ho
      have e := tcast_eq h; subst e
      have := tcast_self h; subst this
      have hlen := Rep.len _ r; have hld := Rep.len _ ry
      have : lay cs 0 ds = ds := by unfold lay; simp; omega
      rw [this]; exact ⟨ry, by omega⟩
    · simp at h

section view
variable {β : Type}

theorem fitL_view {s : S} {z : Value} {p : PV} {v : Value} (hr : AR s p v) (h : fitL z p = true) (K : Value → Option β) : viewL z v K = K v := by
  unfold fitL at h
  split at h <;> try contradiction
  all_goals simp only [AR] at hr
  · obtain rfl := hr; have : _ = _ := of_decide_eq_true h; simp [viewL, vInt, this]
  · obtain rfl := hr; rfl
  · obtain rfl := hr; rfl
  · obtain rfl := hr; rfl
  · have h' := hr
    simp only [LR0] at h'; unfold Rep at h'
    rcases h' with ⟨_, e⟩ | ⟨_, _, _, e⟩ | ⟨_, _, _, e, _⟩ <;> (simp at e; subst e; rfl)
  · obtain ⟨_, r⟩ := hr
    split at r
    · rw [r.2.2]; rfl
    · rw [r.2]; rfl
  · obtain ⟨_, r, _⟩ := hr
    rcases r with ⟨_, rfl⟩ | ⟨_, _, rfl⟩ <;> rfl
  · obtain rfl := hr; rfl
  · rename_i a _ _; obtain ⟨_, m, _, _, rfl⟩ := hr; cases a <;> rfl
  · rename_i a _ _ _; obtain ⟨_, m, _, rfl⟩ := hr; cases a <;> rfl
  · rename_i a _ _ _; obtain ⟨z, o, k, rfl, _⟩ := hr; cases a <;> rfl
  · rename_i a _ _ _ _; obtain ⟨_, ⟨_, _, rfl⟩, _⟩ := hr; cases a <;> rfl
  · rename_i a _ _ _ _ _; obtain ⟨_, m, _, _, rfl⟩ := hr; cases a <;> rfl
  · obtain ⟨a', b', rfl, _⟩ := hr; rfl

theorem fitLs_view {s : S} : ∀ {zs : List Value} {ps : List PV} {vs : List Value}, LRs s ps vs → fitLs zs ps = true → ∀ K : List Value → Option β, viewLs zs vs K = K vs
  | [], [], [], _, _, K => rfl
  | z :: zs, p :: ps, v :: vs, hr, h, K => by
    simp only [fitLs, Bool.and_eq_true] at h
    simp only [viewLs, vCons]
    rw [fitL_view (AR.of hr.1) h.1, fitLs_view hr.2 h.2]
  | [], _ :: _, _, _, h, _ => by simp [fitLs] at h
  | _ :: _, [], _, _, h, _ => by simp [fitLs] at h

theorem fitA_view {s : S} {z : Value} {p : PV} {v : Value} (hr : AR s p v) (h : fitA z p = true) (K : Value → Option β) : viewA z v K = K v := by
  unfold fitA at h
  split at h
  · obtain ⟨vs, rfl, r⟩ := hr
    simp only [viewA, vAgg]
    rw [fitLs_view r h]
  · simp at h
  · rename_i hn _
    have : viewA z v K = viewL z v K := by unfold viewA; split <;> first | rfl | (rename_i cs; exact absurd rfl (hn _))
    rw [this]; exact fitL_view hr h K

theorem fitAs_view {s : S} : ∀ {zs : List Value} {ps : List PV} {vs : List Value}, All2 (AR s) ps vs → fitAs zs ps = true → ∀ K : List Value → Option β, viewAs zs vs K = K vs
  | [], [], [], _, _, K => rfl
  | z :: zs, p :: ps, v :: vs, hr, h, K => by
    simp only [fitAs, Bool.and_eq_true] at h
    simp only [viewAs, vCons]
    rw [fitA_view hr.1 h.1, fitAs_view hr.2 h.2]
  | [], _ :: _, _, _, h, _ => by simp [fitAs] at h
  | _ :: _, [], _, _, h, _ => by simp [fitAs] at h

theorem fitA_notup {z : Value} {cs : List PV} : fitA z (.tup cs) = false := by
  unfold fitA; split <;> first | rfl | contradiction | (unfold fitL; split <;> first | rfl | contradiction)

theorem fitT_view {s : S} {z : Value} {p : PV} {v : Value} (hr : ER s p v) (h : fitT z p = true) (K : Value → Option β) : viewT z v K = K v := by
  unfold fitT at h
  split at h
  · obtain ⟨vs, rfl, r⟩ := hr
    simp only [viewT, vTup]
    rw [fitAs_view r h]
  · simp at h
  · rename_i hn _
    have : viewT z v K = viewA z v K := by unfold viewT; split <;> first | rfl | (rename_i cs; exact absurd rfl (hn _))
    rw [this]
    have hr' : AR s p v := by
      cases p with
      | tup cs => rw [fitA_notup] at h; simp at h
      | _ => exact hr
    exact fitA_view hr' h K

end view

theorem sc1_rel {s : S} {p : PV} {v v' : Value} (hr : AR s p v) (h : sc1 p = some v') : v = v' := by
  unfold sc1 at h
  split at h <;> simp at h <;> subst h <;> exact hr
theorem scs_rel {s : S} : ∀ {ps : List PV} {vs vs' : List Value}, LRs s ps vs → scs ps = some vs' → vs = vs'
  | [], [], _, _, h => by simp [scs] at h; exact h.symm
  | p :: ps, v :: vs, _, hr, h => by
    simp only [scs] at h
    obtain ⟨x, h1, h⟩ := ob h
    obtain ⟨l, h2, h⟩ := ob h
    simp at h; subst h
    rw [sc1_rel (AR.of hr.1) h1, scs_rel hr.2 h2]
theorem sc_rel {s : S} {p : PV} {v v' : Value} (hr : ER s p v) (h : sc p = some v') : v = v' := by
  unfold sc at h
  split at h
  · obtain ⟨l, h1, h⟩ := ob h
    simp at h; subst h
    obtain ⟨vs, rfl, r⟩ := hr
    rw [scs_rel r h1]
  · rename_i hn
    have hr' : AR s p v := by
      cases p with
      | tup cs => simp [sc1] at h
      | _ => exact hr
    exact sc1_rel hr' h

def Scal : Value → Prop
  | .int _ _ => True
  | .bool _ => True
  | .string _ => True
  | _ => False

theorem ofS_rel {s : S} {v : Value} (h : Scal v) : ER s (ofS v) v := by
  cases v <;> first | exact absurd h id | rfl

theorem binA_nat {β : Type} (P : Program) (op : BinOp) (t : TypeId) (v u : Value) (K : Value → Option β) : binA P op t v u K = obind (binA P op t v u some) K := by
  unfold binA
  split
  · split
    · unfold shiftOp oif; split <;> rfl
    · unfold shiftOp oif; split <;> rfl
    · split
      · unfold intOp; split <;> first | rfl | (unfold oif; split <;> rfl)
      · rfl
  · unfold strOp; split <;> first | rfl | (unfold oif; split <;> rfl)
  · split
    · unfold eqOp; split <;> rfl
    · rfl
  · split
    · rename_i h; cases eqA P 20 t _ _ with
      | none => rfl
      | some r => simp only [obind]; unfold eqOp; split <;> rfl
    · rfl
  · split
    · unfold eqOp; split <;> rfl
    · rfl
  · split
    · unfold eqOp; split <;> rfl
    · rfl
  · rfl

theorem binA_scal {P : Program} {op : BinOp} {t : TypeId} {v u r : Value} (h : binA P op t v u some = some r) : Scal r := by
  have e : ∀ {op : BinOp} {b : Bool} {r : Value}, eqOp op b some = some r → Scal r := by
    intro op b r h; unfold eqOp at h; split at h <;> simp at h <;> subst h <;> trivial
  have o : ∀ {b : Bool} {x : Option Value} {r : Value}, oif b none x = some r → x = some r := by
    intro b x r h; unfold oif at h; split at h <;> simp_all
  unfold binA at h
  split at h
  · split at h
    · have := o h; simp at this; subst this; trivial
    · have := o h; simp at this; subst this; trivial
    · split at h
      · unfold intOp at h; split at h <;> first | (simp at h; subst h; trivial) | (have := o h; simp at this; subst this; trivial) | simp at h
      · simp at h
  · unfold strOp at h
    split at h <;> first | (simp at h; subst h; trivial) | (unfold oif at h; split at h <;> simp at h; subst h; trivial) | simp at h
  · split at h
    · exact e h
    · simp at h
  · split at h
    · obtain ⟨b, _, h⟩ := ob h; exact e h
    · simp at h
  · split at h
    · exact e h
    · simp at h
  · split at h
    · exact e h
    · simp at h
  · simp at h

theorem unA_nat {β : Type} (op : UnOp) (v : Value) (K : Value → Option β) : unA op v K = obind (unA op v some) K := by
  unfold unA; split <;> rfl
theorem unA_scal {op : UnOp} {v r : Value} (h : unA op v some = some r) : Scal r := by
  unfold unA at h; split at h <;> simp at h <;> subst h <;> trivial

theorem vecTy_size (u : Ty) : ∀ n : Nat, (vecTy (n + 1) u).size = (n + 1) * u.size
  | 0 => by simp [vecTy]
  | n + 1 => by
    have := vecTy_size u n
    simp only [vecTy, Ty.size, this]
    rw [Nat.add_mul (n + 1) 1, Nat.one_mul, Nat.add_comm]

theorem tyG_pair {P : Program} {n : Nat} {t : TypeId} {w : Ty} (h : tyG P n t = some w) : (∃ d a b, P.underlying t = some d ∧ ((∃ fs, d = .struct fs) ∨ ∃ k e, d = .array k e) ∧ w = .pair a b) ∨ (∃ d, P.underlying t = some d ∧ (∀ fs, d ≠ .struct fs) ∧ (∀ n e, d ≠ .array n e) ∧ ∀ a b, w ≠ .pair a b) := by
  cases n with
  | zero => simp [tyG] at h
  | succ n =>
    unfold tyG at h
    split at h
    · rename_i hu; simp at h; subst h; exact .inr ⟨_, hu, by simp, by simp, by simp⟩
    · rename_i hu; simp at h; subst h; exact .inr ⟨_, hu, by simp, by simp, by simp⟩
    · rename_i hu; simp at h; subst h; exact .inr ⟨_, hu, by simp, by simp, by simp⟩
    · rename_i hu
      replace h := ob h; obtain ⟨u, _, h⟩ := h
      simp at h; subst h; exact .inr ⟨_, hu, by simp, by simp, by simp⟩
    · rename_i fs hu
      split at h
      · unfold tyFs at h
        replace h := ob h; obtain ⟨a, _, h⟩ := h
        replace h := ob h; obtain ⟨b, _, h⟩ := h
        simp at h; subst h; exact .inl ⟨_, a, b, hu, .inl ⟨_, rfl⟩, rfl⟩
      · simp at h
    · rename_i k e hu
      replace h := ob h; obtain ⟨u, _, h⟩ := h
      split at h
      · rename_i hk
        simp only [Bool.and_eq_true] at hk
        have hk2 := Nat.le_of_ble_eq_true hk.1
        simp at h; subst h
        match k, hk2 with
        | k + 2, _ => exact .inl ⟨_, u, vecTy (k + 1) u, hu, .inr ⟨_, _, rfl⟩, rfl⟩
      · simp at h
    · simp at h

end Go.Pv
