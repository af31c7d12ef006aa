/-
  Calls: what is handed over, and what comes back.
  Conditions: the state is a good one; the callee agrees.
-/
import Derived.Test.YtmjhgkmiafemfaaVOp4
set_option linter.all false
namespace Go.Pv
open Go.Ev

inductive Kd where
  | fz
  | os
  | cb

def PM.kd : PM → Kd
  | .ro => .fz
  | .mv => .os
  | .io => .os
  | .ps => .cb

def kdR : Bool → Kd
  | true => .os
  | false => .fz

/-- An owned slice handed over. -/
def OwnS (N : Nat → Prop) (H : Heap) (lim : Nat) (u : Ty) (x : List u.T) (w : Value) (ids : List Nat) : Prop :=
  (ids = [] ∧ x = [] ∧ w = .slice none 0 0) ∨ ∃ z o k, ids = [z] ∧ w = .slice (some ⟨z, o, none⟩) x.length u.size ∧ hget H z = some k ∧ k.ro = false ∧ lim ≤ z ∧ Fit o (x.length * u.size) k.cells ∧ RL N H u x ((k.cells.drop o).take (x.length * u.size))

/-- A typed value handed over, and the blocks that go along. -/
def HR (N : Nat → Prop) (H : Heap) (lim : Nat) (kd : Kd) (v : TV) (w : Value) (ids : List Nat) : Prop :=
  match kd with
  | .fz => ids = [] ∧ ∃ cs, IsVal v.1 cs w ∧ Rep N H v.1 v.2 cs
  | .cb => ∃ z k, ids = [z] ∧ w = .pointer (some ⟨z, 0, none⟩) ∧ hget H z = some k ∧ k.ro = false ∧ lim ≤ z ∧ Rep N H v.1 v.2 k.cells
  | .os => ∃ u x, v = ⟨.sl u, x⟩ ∧ OwnS N H lim u x w ids

theorem HR.frame {N M : Nat → Prop} {H G : Heap} {lim : Nat} {kd : Kd} {v : TV} {w : Value} {ids : List Nat} (h : HR N H lim kd v w ids) (hf : ∀ z, N z → z < H.length → M z ∧ hget G z = hget H z) (hi : ∀ z ∈ ids, hget G z = hget H z) : HR M G lim kd v w ids := by
  unfold HR at h ⊢
  cases kd with
  | fz => obtain ⟨h1, cs, h2, h3⟩ := h; exact ⟨h1, cs, h2, Rep.frame hf _ h3⟩
  | cb =>
    obtain ⟨z, k, rfl, h2, h3, h4, h5, h6⟩ := h
    exact ⟨z, k, rfl, h2, by rw [hi z (by simp)]; exact h3, h4, h5, Rep.frame hf _ h6⟩
  | os =>
    obtain ⟨u, x, rfl, h | ⟨z, o, k, rfl, h2, h3, h4, h5, h6, h7⟩⟩ := h
    · exact ⟨u, x, rfl, .inl h⟩
    · exact ⟨u, x, rfl, .inr ⟨z, o, k, rfl, h2, by rw [hi z (by simp)]; exact h3, h4, h5, h6, h7.frame hf⟩⟩

/-- No slice in what a block that is handed over holds. -/
def flatK : Kd → Ty → Bool
  | .fz, t => t.flat
  | .cb, t => t.flat
  | .os, .sl u => u.flat
  | .os, _ => true

theorem HR.flat {N M : Nat → Prop} {H : Heap} {lim : Nat} {kd : Kd} {v : TV} {w : Value} {ids : List Nat} (h : HR N H lim kd v w ids) (hf : flatK kd v.1 = true) : HR M H lim kd v w ids := by
  unfold HR at h ⊢
  cases kd with
  | fz => obtain ⟨h1, cs, h2, h3⟩ := h; exact ⟨h1, cs, h2, Rep.flat _ hf h3⟩
  | cb => obtain ⟨z, k, rfl, h2, h3, h4, h5, h6⟩ := h; exact ⟨z, k, rfl, h2, h3, h4, h5, Rep.flat _ hf h6⟩
  | os =>
    obtain ⟨u, x, rfl, h | ⟨z, o, k, rfl, h2, h3, h4, h5, h6, h7⟩⟩ := h
    · exact ⟨u, x, rfl, .inl h⟩
    · exact ⟨u, x, rfl, .inr ⟨z, o, k, rfl, h2, h3, h4, h5, h6, ⟨h7.1, fun i hi => Rep.flat _ hf (h7.2 i hi)⟩⟩⟩

theorem HR.lt {N : Nat → Prop} {H : Heap} {lim : Nat} {kd : Kd} {v : TV} {w : Value} {ids : List Nat} (h : HR N H lim kd v w ids) : ∀ z ∈ ids, z < H.length := by
  unfold HR at h
  cases kd with
  | fz => obtain ⟨rfl, _⟩ := h; simp
  | cb => obtain ⟨z, k, rfl, h2, h3, _⟩ := h; intro q hq; simp at hq; subst hq; exact hget_lt h3
  | os =>
    obtain ⟨u, x, rfl, ⟨rfl, _⟩ | ⟨z, o, k, rfl, h2, h3, _⟩⟩ := h
    · simp
    · intro q hq; simp at hq; subst hq; exact hget_lt h3

def HRs (N : Nat → Prop) (H : Heap) (lim : Nat) : List Kd → List TV → List Value → List (List Nat) → Prop
  | [], [], [], [] => True
  | k :: ks, v :: vs, w :: ws, i :: is => HR N H lim k v w i ∧ HRs N H lim ks vs ws is
  | _, _, _, _ => False

theorem HRs.frame {N M : Nat → Prop} {H G : Heap} {lim : Nat} (hf : ∀ z, N z → z < H.length → M z ∧ hget G z = hget H z) : ∀ {ks : List Kd} {vs : List TV} {ws : List Value} {is : List (List Nat)}, HRs N H lim ks vs ws is → (∀ z ∈ is.flatten, hget G z = hget H z) → HRs M G lim ks vs ws is
  | [], [], [], [], _, _ => trivial
  | _ :: _, _ :: _, _ :: _, _ :: _, h, hi => ⟨h.1.frame hf (fun z hz => hi z (by simp [hz])), HRs.frame hf h.2 (fun z hz => hi z (by simp at hz ⊢; exact .inr hz))⟩

/-- The kinds and values of what comes back beside the results. -/
def outKd : List (PM × Ty) → List Kd
  | [] => []
  | (.io, _) :: r => .os :: outKd r
  | (.ps, _) :: r => .cb :: outKd r
  | _ :: r => outKd r

def outVs : List (PM × Ty) → List Value → List Value
  | [], _ => []
  | (.io, _) :: r, w :: ws => w :: outVs r ws
  | (.ps, _) :: r, w :: ws => w :: outVs r ws
  | _ :: r, _ :: ws => outVs r ws
  | _ :: _, [] => []

def outIds : List (PM × Ty) → List (List Nat) → List (List Nat)
  | [], _ => []
  | (.io, _) :: r, w :: ws => w :: outIds r ws
  | (.ps, _) :: r, w :: ws => w :: outIds r ws
  | _ :: r, _ :: ws => outIds r ws
  | _ :: _, [] => []

/-- A function by value and the same in the first interpreter. -/
def FnOk (sig : Sig) (call : TupT sig.ptys → Option (TupT sig.rtys)) (callE : List Value → Nat → Heap → Option (Value × Heap)) (lim : Nat) : Prop :=
  ∀ a r, call a = some r → ∀ (H : Heap) (Ban : Nat → Prop) (ws : List Value) (idss : List (List Nat)),
    (∀ z, Ban z → z < H.length) → lim ≤ H.length → idss.flatten.Nodup → (∀ z ∈ idss.flatten, ¬ Ban z) →
    HRs (fun z => z ∉ idss.flatten ∧ ¬ Ban z) H lim (sig.params.map fun p => p.1.kd) (unT sig.ptys a) ws idss →
    ∃ v H' rvs rids, callE ws lim H = some (v, H') ∧ v = oneOf rvs ∧ H.length ≤ H'.length ∧ (∀ z, z < H.length → z ∉ idss.flatten → hget H' z = hget H z) ∧
      (rids.flatten ++ (outIds sig.params idss).flatten).Nodup ∧ (∀ z ∈ rids.flatten, z ∈ idss.flatten ∨ H.length ≤ z) ∧ (∀ z ∈ rids.flatten, ¬ Ban z) ∧
      HRs (fun z => z ∉ rids.flatten ++ (outIds sig.params idss).flatten ∧ ¬ Ban z) H' lim (sig.results.map fun q => kdR q.1) ((unT sig.rtys r).take sig.results.length) rvs rids ∧
      HRs (fun z => z ∉ rids.flatten ++ (outIds sig.params idss).flatten ∧ ¬ Ban z) H' lim (outKd sig.params) ((unT sig.rtys r).drop sig.results.length) (outVs sig.params ws) (outIds sig.params idss)

theorem unT_mkT : ∀ (ts : List Ty) {vs : List TV} {a : TupT ts}, mkT ts vs = some a → unT ts a = vs
  | [], [], a, h => rfl
  | [t], [v], a, h => by
    have e := tcast_eq h
    obtain ⟨t', x⟩ := v
    simp only at e; subst e
    have := tcast_self h
    simp only [unT]; rw [← this]
  | t :: u :: r, v :: vs, a, h => by
    simp only [mkT] at h
    replace h := ob h; obtain ⟨x, h1, h⟩ := h
    replace h := ob h; obtain ⟨y, h2, h⟩ := h
    simp at h; subst h
    have e := tcast_eq h1
    obtain ⟨t', x'⟩ := v
    simp only at e; subst e
    have := tcast_self h1
    simp only [unT]; rw [unT_mkT (u :: r) h2, ← this]
  | [], _ :: _, a, h => by simp [mkT] at h
  | [t], [], a, h => by simp [mkT] at h
  | [t], _ :: _ :: _, a, h => by simp [mkT] at h
  | _ :: _ :: _, [], a, h => by simp [mkT] at h

/-- An owned slice taken out of the store. -/
theorem outOne_own {s : S} (hs : StR s) {t : Ty} {p : PV} {w : Value} (hr : ER s p w) {x : TV} {L' : LS} (h : outOne true t p s.L = some (x, L')) :
    x.1 = t ∧ ∃ s' ids, s'.L = L' ∧ s'.H = s.H ∧ s'.μ = s.μ ∧ Keep s s' ∧ StR s' ∧ HR s'.N s'.H s.lim .os x w ids ∧ (∀ z, s'.Lim z ↔ s.Lim z ∨ z ∈ ids) ∧ (∀ z ∈ ids, ¬ s.Lim z) ∧ ids.Nodup ∧ (∀ z, Own s' z ↔ Own s z) := by
  unfold outOne at h
  split at h
  · rename_i e; simp at e
  · split at h
    · rename_i u
      split at h
      · simp at h; obtain ⟨rfl, rfl⟩ := h
        obtain rfl : w = _ := hr
        exact ⟨rfl, s, [], rfl, rfl, rfl, Keep.refl s, hs, ⟨u, [], rfl, .inl ⟨rfl, rfl, rfl⟩⟩, by simp, by simp, by simp, fun _ => Iff.rfl⟩
      · rename_i b off no
        split at h
        · rename_i ver wt xs hb
          replace h := ob h; obtain ⟨y, h1, h⟩ := h
          simp at h; obtain ⟨rfl, rfl⟩ := h
          have e0 := tcast_eq h1
          injection e0 with e0; subst e0
          have := tcast_self h1; subst this
          have hr : LR0 s (.osl b off no) w := hr
          obtain ⟨hlb, hr⟩ := hr
          obtain ⟨s1, l1, g1, u1, k1, t1, hl, ho⟩ := hs.kill hb rfl false
          have g1' : s1.H = s.H := g1
          refine ⟨rfl, s1, (match s.μ b with | none => [] | some m => [m.z]), l1, g1', u1, k1, t1, ?_, ?_, ?_, ?_, ho⟩
          · cases hm : s.μ b with
            | none =>
              rw [hm] at hr; obtain ⟨rfl, _, rfl⟩ := hr
              have hx := arr_nil hs hb hm; subst hx
              have : cut ([] : List wt.T) 0 no = [] := by cases no <;> simp [cut]
              exact ⟨wt, _, rfl, .inl ⟨rfl, this, rfl⟩⟩
            | some m =>
              rw [hm] at hr; obtain ⟨g0, rfl⟩ := hr
              obtain ⟨a1, a2, k, a3, a4, a5, a6, a7⟩ := arr_info hs hb hm
              have hcut : cut xs off no = (xs.drop off).take (no.getD (m.n - off)) := by
                cases no with
                | none => simp only [cut, Option.getD_none]; rw [List.take_of_length_le (by simp; omega)]
                | some l => rfl
              have hle : off + no.getD (m.n - off) ≤ xs.length := by omega
              have hlen : (cut xs off no).length = no.getD (m.n - off) := by rw [hcut]; simp; omega
              have h1 := RL.sub a4 a5 hle
              rw [← hcut] at h1
              refine ⟨wt, _, rfl, .inr ⟨m.z, m.sh + off * wt.size, k, rfl, ?_, by rw [g1']; exact a3, (a6 rfl).1, (a6 rfl).2, ?_, ?_⟩⟩
              · rw [hlen, a1]
              · rw [hlen]; exact (arr_fit hs hb hm a3).sub (by rw [← Nat.add_mul]; exact Nat.mul_le_mul_right _ hle)
              · rw [hlen]; exact h1.frame (fun z hz hl => ⟨k1.N hl hz, k1.fr z hl hz.1⟩)
          · intro z; rw [hl z]
            cases s.μ b with
            | none => simp
            | some m => simp [eq_comm]
          · cases hm : s.μ b with
            | none => simp
            | some m => intro z hz; simp at hz; subst hz; exact hs.lm b _ m hb hm
          · cases s.μ b <;> simp
        · simp at h
      · simp at h
    · simp at h

theorem isVal_of {s : S} {t : Ty} {p : PV} {w : Value} (hr : ER s p w) (ho : okV p = true) (hs : shapeOk t p = true) : IsVal t w.cells.toList w := by
  have leaf : ∀ v, LR0 s p v → v.cells.toList = [v] := by
    intro v hv
    have := hv.cell
    cases v <;> first | rfl | simp [isCell] at this
  cases p with
  | tup cs => simp [okV] at ho
  | fn f a b => simp [okV] at ho
  | undef => simp [okV] at ho
  | agg cs =>
    obtain ⟨vs, rfl, _⟩ := hr
    cases t <;> first | rfl | simp [shapeOk] at hs
  | _ =>
    have := leaf w hr
    cases t <;> first | exact this | simp [shapeOk] at hs

/-- What is lent or moved, parameter by parameter. -/
def TM (s : S) (lim : Nat) : List (PM × Ty) → List PV → List Value → List (Option TV) → List (List Nat) → Prop
  | [], [], [], [], [] => True
  | (m, t) :: ps, p :: args, w :: ws, o :: os, ids :: idss => (match m with
      | .ro => o = none ∧ ids = []
      | .mv => ∃ x, o = some x ∧ x.1 = t ∧ HR s.N s.H lim .os x w ids ∧ ∀ z ∈ ids, s.Lim z
      | .io => ∃ x b u, o = some x ∧ x.1 = t ∧ t = .sl u ∧ p = .osl b 0 none ∧ HR s.N s.H lim .os x w ids ∧ ids = (match s.μ b with | none => [] | some m => [m.z])
      | .ps => ∃ x b m, o = some x ∧ x.1 = t ∧ p = .ptr b 0 ∧ HR s.N s.H lim .cb x w ids ∧ s.μ b = some m ∧ ids = [m.z]) ∧ TM s lim ps args ws os idss
  | _, _, _, _, _ => False

theorem TM.keep {s s' : S} {lim : Nat} (hk : Keep s s') (hH : s'.H = s.H) (hu : s'.μ = s.μ) (hl : ∀ z, s.Lim z → s'.Lim z) : ∀ {ps : List (PM × Ty)} {args : List PV} {ws : List Value} {os : List (Option TV)} {idss : List (List Nat)}, TM s lim ps args ws os idss → TM s' lim ps args ws os idss
  | [], [], [], [], [], _ => trivial
  | (m, t) :: ps, p :: args, w :: ws, o :: os, ids :: idss, h => by
    have fr : ∀ {kd : Kd} {x : TV}, HR s.N s.H lim kd x w ids → HR s'.N s'.H lim kd x w ids := fun h => h.frame (fun z hz hlt => ⟨hk.N hlt hz, hk.fr z hlt hz.1⟩) (fun z _ => by rw [hH])
    refine ⟨?_, TM.keep hk hH hu hl h.2⟩
    have h1 := h.1
    cases m with
    | ro => exact h1
    | mv => obtain ⟨x, a, b, c, d⟩ := h1; exact ⟨x, a, b, fr c, fun z hz => hl z (d z hz)⟩
    | io => obtain ⟨x, b, u, a1, a2, a3, a4, a5, a6⟩ := h1; exact ⟨x, b, u, a1, a2, a3, a4, fr a5, by rw [hu]; exact a6⟩
    | ps => obtain ⟨x, b, m, a1, a2, a3, a4, a5, a6⟩ := h1; exact ⟨x, b, m, a1, a2, a3, fr a4, by rw [hu]; exact a5, a6⟩

/-- What is lent is owned at the end. -/
def LentLive (s : S) : List (PM × Ty) → List PV → Prop
  | [], _ => True
  | (.io, _) :: ps, .osl b _ _ :: args => (∃ B, lget s.L b = some B ∧ B.rw = true) ∧ LentLive s ps args
  | (.ps, _) :: ps, .ptr b _ :: args => (∃ B, lget s.L b = some B ∧ B.rw = true) ∧ LentLive s ps args
  | _ :: ps, _ :: args => LentLive s ps args
  | _ :: _, [] => True

theorem contains_not {l : List Nat} {b : Nat} (h : l.contains b = false) : b ∉ l := by
  intro hm; rw [List.contains_iff_mem.2 hm] at h; simp at h

theorem takeM_sim : ∀ {ps : List (PM × Ty)} {args : List PV} {ws : List Value} {lent lent' : List Nat} {s : S} {os : List (Option TV)} {L1 : LS}, StR s → All2 (ER s) args ws → takeM ps args lent s.L = some (os, lent', L1) →
    ∃ s1 idss, s1.L = L1 ∧ s1.H = s.H ∧ s1.μ = s.μ ∧ Keep s s1 ∧ StR s1 ∧ (∀ z, Own s1 z → Own s z) ∧ (∀ z, s.Lim z → s1.Lim z) ∧ TM s1 s.lim ps args ws os idss ∧ (∀ b, b ∈ lent → b ∈ lent') ∧
      ∀ s2, Keep s1 s2 → (∀ z, s1.Lim z → s2.Lim z) → StR s2 → s2.μ = s.μ → LentLive s2 ps args → idss.flatten.Nodup ∧ ∀ z ∈ idss.flatten, (s2.Lim z ∧ ¬ s.Lim z) ∨ ∃ b B m, b ∉ lent ∧ b ∈ lent' ∧ lget s2.L b = some B ∧ B.rw = true ∧ s2.μ b = some m ∧ m.z = z
  | [], [], [], lent, lent', s, os, L1, hs, _, h => by
    simp [takeM] at h; obtain ⟨rfl, rfl, rfl⟩ := h
    exact ⟨s, [], rfl, rfl, rfl, Keep.refl s, hs, fun _ h => h, fun _ h => h, trivial, fun _ h => h, fun s2 _ _ _ _ _ => by simp⟩
  | (m, t) :: ps, p :: args, w :: ws, lent, lent', s, os, L1, hs, hr, h => by
    obtain ⟨hr1, hr2⟩ := hr
    simp only [takeM] at h
    have mvcase : ∀ (hm : m = .mv), (obind (outOne true t p s.L) fun x => obind (takeM ps args lent x.2) fun r => some (some x.1 :: r.1, r.2.1, r.2.2)) = some (os, lent', L1) → ∃ s1 idss, s1.L = L1 ∧ s1.H = s.H ∧ s1.μ = s.μ ∧ Keep s s1 ∧ StR s1 ∧ (∀ z, Own s1 z → Own s z) ∧ (∀ z, s.Lim z → s1.Lim z) ∧ TM s1 s.lim ((m, t) :: ps) (p :: args) (w :: ws) os idss ∧ (∀ b, b ∈ lent → b ∈ lent') ∧
      ∀ s2, Keep s1 s2 → (∀ z, s1.Lim z → s2.Lim z) → StR s2 → s2.μ = s.μ → LentLive s2 ((m, t) :: ps) (p :: args) → idss.flatten.Nodup ∧ ∀ z ∈ idss.flatten, (s2.Lim z ∧ ¬ s.Lim z) ∨ ∃ b B m, b ∉ lent ∧ b ∈ lent' ∧ lget s2.L b = some B ∧ B.rw = true ∧ s2.μ b = some m ∧ m.z = z := by
      clear h
      intro hm h
      subst hm
      replace h := ob h; obtain ⟨⟨x, L2⟩, h1, h⟩ := h
      replace h := ob h; obtain ⟨⟨os', lt', L3⟩, h2, h⟩ := h
      simp at h; obtain ⟨rfl, rfl, rfl⟩ := h
      obtain ⟨hx, s1, ids, l1, g1, u1, k1, t1, hh, hl, hnl, hnd, ho⟩ := outOne_own hs hr1 h1
      simp only at h2
      rw [← l1] at h2
      obtain ⟨s2, idss, l2, g2, u2, k2, t2, o2, m2, tm2, sub2, nd2⟩ := takeM_sim t1 (All2.mono (fun _ _ => k1.ER) hr2) h2
      have hlim : s1.lim = s.lim := k1.lim
      refine ⟨s2, ids :: idss, l2, g2.trans g1, u2.trans u1, k1.trans k2, t2, fun z hz => (ho z).1 (o2 z hz), fun z hz => m2 z ((hl z).2 (.inl hz)), ⟨⟨x, rfl, hx, hh.frame (fun z hz hlt => ⟨k2.N hlt hz, k2.fr z hlt hz.1⟩) (fun z _ => by rw [g2]), fun z hz => m2 z ((hl z).2 (.inr hz))⟩, by rw [← hlim]; exact tm2⟩, sub2, ?_⟩
      intro s3 k3 m3 t3 u3 hll
      obtain ⟨n1, n2⟩ := nd2 s3 k3 m3 t3 (u3.trans u1.symm) hll
      refine ⟨?_, fun z hz => ?_⟩
      · rw [List.flatten_cons, List.nodup_append]
        refine ⟨hnd, n1, fun a ha b hb e => ?_⟩
        subst e
        have hla : s1.Lim a := (hl a).2 (.inr ha)
        rcases n2 a hb with ⟨_, h5⟩ | ⟨b', B, mm, _, _, h6, h7, h8, rfl⟩
        · exact h5 hla
        · exact t3.lm b' B mm h6 h8 (m3 _ (m2 _ hla))
      · rw [List.flatten_cons, List.mem_append] at hz
        rcases hz with hz | hz
        · exact .inl ⟨m3 z (m2 z ((hl z).2 (.inr hz))), hnl z hz⟩
        · rcases n2 z hz with ⟨h4, h5⟩ | h6
          · exact .inl ⟨h4, fun h => h5 ((hl z).2 (.inl h))⟩
          · exact .inr h6
    cases m with
    | ro =>
      simp only at h
      replace h := ob h; obtain ⟨⟨os', lt', L3⟩, h2, h⟩ := h
      simp at h; obtain ⟨rfl, rfl, rfl⟩ := h
      obtain ⟨s2, idss, l2, g2, u2, k2, t2, o2, m2, tm2, sub2, nd2⟩ := takeM_sim hs hr2 h2
      refine ⟨s2, [] :: idss, l2, g2, u2, k2, t2, o2, m2, ⟨⟨rfl, rfl⟩, tm2⟩, sub2, fun s3 k3 m3 t3 u3 hll => ?_⟩
      simpa using nd2 s3 k3 m3 t3 u3 hll
    | mv =>
      simp only at h
      split at h
      · split at h
        · simp at h
        · exact mvcase rfl h
      · exact mvcase rfl h
    | io =>
      simp only at h
      split at h
      · rename_i u b
        split at h
        · simp at h
        · rename_i hnc
          have hnc := contains_not hnc
          replace h := ob h; obtain ⟨x, h1, h⟩ := h
          replace h := ob h; obtain ⟨⟨os', lt', L3⟩, h2, h⟩ := h
          simp at h; obtain ⟨rfl, rfl, rfl⟩ := h
          obtain ⟨s2, idss, l2, g2, u2, k2, t2, o2, m2, tm2, sub2, nd2⟩ := takeM_sim hs hr2 h2
          unfold outAb at h1
          split at h1
          · rename_i ver wt xs hb
            replace h1 := ob h1; obtain ⟨y, h3, h1⟩ := h1
            simp at h1; subst h1
            have e0 := tcast_eq h3
            injection e0 with e0; subst e0
            have := tcast_self h3; subst this
            have hr1 : LR0 s (.osl b 0 none) w := hr1
            obtain ⟨hlb, hr1⟩ := hr1
            refine ⟨s2, (match s.μ b with | none => [] | some m => [m.z]) :: idss, l2, g2, u2, k2, t2, o2, m2, ⟨⟨_, b, wt, rfl, rfl, rfl, rfl, ?_, by rw [u2]⟩, tm2⟩, fun q hq => sub2 q (by simp [hq]), ?_⟩
            · cases hm : s.μ b with
              | none =>
                rw [hm] at hr1; obtain ⟨_, _, rfl⟩ := hr1
                have hx := arr_nil hs hb hm; subst hx
                exact ⟨wt, [], rfl, .inl ⟨rfl, rfl, rfl⟩⟩
              | some m =>
                rw [hm] at hr1; obtain ⟨g0, rfl⟩ := hr1
                obtain ⟨a1, a2, k, a3, a4, a5, a6, a7⟩ := arr_info hs hb hm
                refine ⟨wt, xs, rfl, .inr ⟨m.z, m.sh, k, rfl, by simp [a1, a2], by rw [g2]; exact a3, (a6 rfl).1, (a6 rfl).2, arr_fit hs hb hm a3, (RL.ofBlk a4 a5).frame (fun z hz hl => ⟨k2.N hl hz, k2.fr z hl hz.1⟩)⟩⟩
            · intro s3 k3 m3 t3 u3 hll
              obtain ⟨⟨B, hB1, hB2⟩, hll⟩ := hll
              obtain ⟨n1, n2⟩ := nd2 s3 k3 m3 t3 u3 hll
              have hbl : b ∈ lt' := sub2 b (by simp)
              cases hm : s.μ b with
              | none =>
                simp only [List.flatten_cons, List.nil_append]
                refine ⟨n1, fun z hz => ?_⟩
                rcases n2 z hz with h6 | ⟨b', B', mm, h5, h6⟩
                · exact .inl h6
                · exact .inr ⟨b', B', mm, fun h => h5 (by simp [h]), h6⟩
              | some m =>
                have hm3 : s3.μ b = some m := by rw [u3]; exact hm
                refine ⟨?_, fun z hz => ?_⟩
                · rw [List.flatten_cons, List.nodup_append]
                  refine ⟨by simp, n1, fun a ha q hq e => ?_⟩
                  simp at ha; subst ha; subst e
                  rcases n2 _ hq with ⟨h5, _⟩ | ⟨b', B', mm, h5, _, h6, h7, h8, h9⟩
                  · exact t3.lm b B m hB1 hm3 h5
                  · have := t3.inj b' b B' B mm m h6 hB1 h7 h8 hm3 h9
                    exact h5 (by simp [this])
                · rw [List.flatten_cons, List.mem_append] at hz
                  rcases hz with hz | hz
                  · simp at hz; subst hz
                    exact .inr ⟨b, B, m, hnc, hbl, hB1, hB2, hm3, rfl⟩
                  · rcases n2 z hz with h6 | ⟨b', B', mm, h5, h6⟩
                    · exact .inl h6
                    · exact .inr ⟨b', B', mm, fun h => h5 (by simp [h]), h6⟩
          · simp at h1
      · simp at h
    | ps =>
      simp only at h
      split at h
      · rename_i b
        split at h
        · simp at h
        · rename_i hnc
          have hnc := contains_not hnc
          replace h := ob h; obtain ⟨⟨x, L2⟩, h1, h⟩ := h
          replace h := ob h; obtain ⟨⟨os', lt', L3⟩, h2, h⟩ := h
          simp at h; obtain ⟨rfl, rfl, rfl⟩ := h
          unfold outCb at h1
          split at h1
          · rename_i ver cs hb
            replace h1 := ob h1; obtain ⟨⟨y, L4⟩, h3, h1⟩ := h1
            simp at h1; obtain ⟨rfl, rfl⟩ := h1
            have hB := hs.blk b _ hb
            unfold BR at hB; simp only at hB
            obtain ⟨_, m, k, hm, hsh, hk, hcs, hro, hlm⟩ := hB
            obtain ⟨s1, l1, g1, u1, k1, t1, rr1, o1, li1⟩ := refl_fz t hs hcs h3
            simp only at h2
            rw [← l1] at h2
            obtain ⟨s2, idss, l2, g2, u2, k2, t2, o2, m2, tm2, sub2, nd2⟩ := takeM_sim t1 (All2.mono (fun _ _ => k1.ER) hr2) h2
            have hlim : s1.lim = s.lim := k1.lim
            have hr1 : LR0 s (.ptr b 0) w := hr1
            obtain ⟨hlb, m', hm', _, rfl⟩ := hr1
            rw [hm] at hm'; injection hm' with hm'; subst hm'
            have hgH : s2.H = s.H := g2.trans g1
            refine ⟨s2, [m.z] :: idss, l2, hgH, u2.trans u1, k1.trans k2, t2, fun z hz => o1 z (o2 z hz), fun z hz => m2 z (by rw [li1]; exact hz), ⟨⟨_, b, m, rfl, rfl, rfl, ⟨m.z, k, rfl, rfl, by rw [hgH]; exact hk, hro, hlm, k2.repN rr1⟩, by rw [u2, u1]; exact hm, rfl⟩, by rw [← hlim]; exact tm2⟩, fun q hq => sub2 q (by simp [hq]), ?_⟩
            intro s3 k3 m3 t3 u3 hll
            obtain ⟨⟨B, hB1, hB2⟩, hll⟩ := hll
            obtain ⟨n1, n2⟩ := nd2 s3 k3 m3 t3 (u3.trans u1.symm) hll
            have hbl : b ∈ lt' := sub2 b (by simp)
            have hm3 : s3.μ b = some m := by rw [u3]; exact hm
            refine ⟨?_, fun z hz => ?_⟩
            · rw [List.flatten_cons, List.nodup_append]
              refine ⟨by simp, n1, fun a ha q hq e => ?_⟩
              simp at ha; subst ha; subst e
              rcases n2 _ hq with ⟨h5, _⟩ | ⟨b', B', mm, h5, _, h6, h7, h8, h9⟩
              · exact t3.lm b B m hB1 hm3 h5
              · have := t3.inj b' b B' B mm m h6 hB1 h7 h8 hm3 h9
                exact h5 (by simp [this])
            · rw [List.flatten_cons, List.mem_append] at hz
              rcases hz with hz | hz
              · simp at hz; subst hz
                exact .inr ⟨b, B, m, hnc, hbl, hB1, hB2, hm3, rfl⟩
              · rcases n2 z hz with ⟨h6, h7⟩ | ⟨b', B', mm, h5, h6⟩
                · exact .inl ⟨h6, by rw [li1] at h7; exact h7⟩
                · exact .inr ⟨b', B', mm, fun h => h5 (by simp [h]), h6⟩
          · simp at h1
      · simp at h
  | [], _ :: _, _, _, _, _, _, _, _, _, h => by simp [takeM] at h
  | _ :: _, [], _, _, _, _, _, _, _, _, h => by simp [takeM] at h

end Go.Pv
