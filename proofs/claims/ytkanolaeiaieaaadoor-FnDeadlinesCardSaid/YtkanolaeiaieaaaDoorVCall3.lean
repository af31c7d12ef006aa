/-
  Calls: what is handed over, and what comes back.
  Conditions: the state is a good one; the callee agrees.
  Calls: the state behind a call.
  Conditions: the state is a good one; the callee agrees.
  Calls: a call by value agrees with the call in the first interpreter.
  Conditions: the state is a good one; the callee agrees.
-/
import Derived.Test.YtkanolaeiaieaaaDoorVOp4
set_option linter.all false
namespace Go.Pv
open Go.Ev

inductive Kd where
  | fz
  | os
  | cb

def PM.kd : PM → Kd
  | .ro => .fz
  | .mv => .os
  | .io => .os
  | .ps => .cb

def kdR : Bool → Kd
  | true => .os
  | false => .fz

/-- What an array owns beside itself: its rows' blocks. -/
def InR (H : Heap) (lim : Nat) : (u : Ty) → List u.T → List Value → List Nat → Prop
  | .os t, xs, cs, ks => t.flat = true ∧ ks.Nodup ∧ (∀ z ∈ ks, ∃ k, hget H z = some k) ∧ ∃ Kf : Nat → Option Nat, (∀ z i, Kf z = some i → z ∈ ks) ∧ ∀ i (hi : i < xs.length), ∃ v, cs[i]? = some v ∧ RowC (fun z => Kf z = some i) H lim t xs[i] v
  | .int _, _, _, ks => ks = []
  | .bool, _, _, ks => ks = []
  | .str, _, _, ks => ks = []
  | .sl _, _, _, ks => ks = []
  | .pair _ _, _, _, ks => ks = []

theorem InR.frame {H G : Heap} {lim : Nat} : ∀ {u : Ty} {xs : List u.T} {cs : List Value} {ks : List Nat}, InR H lim u xs cs ks → (∀ z ∈ ks, hget G z = hget H z) → InR G lim u xs cs ks
  | .os t, xs, cs, ks, h, hg => by
    obtain ⟨h1, h2, h3, Kf, h4, h5⟩ := h
    refine ⟨h1, h2, fun z hz => by rw [hg z hz]; exact h3 z hz, Kf, h4, fun i hi => ?_⟩
    obtain ⟨v, q1, q2⟩ := h5 i hi
    exact ⟨v, q1, q2.mono h1 (fun z hz => ⟨hz, hg z (h4 z i hz)⟩)⟩
  | .int _, _, _, _, h, _ => h
  | .bool, _, _, _, h, _ => h
  | .str, _, _, _, h, _ => h
  | .sl _, _, _, _, h, _ => h
  | .pair _ _, _, _, _, h, _ => h

theorem InR.lt {H : Heap} {lim : Nat} : ∀ {u : Ty} {xs : List u.T} {cs : List Value} {ks : List Nat}, InR H lim u xs cs ks → ∀ z ∈ ks, z < H.length
  | .os t, xs, cs, ks, h => by
    obtain ⟨_, _, h3, _⟩ := h
    intro z hz; obtain ⟨k, hk⟩ := h3 z hz; exact hget_lt hk
  | .int _, _, _, _, h => by rw [show _ = [] from h]; simp
  | .bool, _, _, _, h => by rw [show _ = [] from h]; simp
  | .str, _, _, _, h => by rw [show _ = [] from h]; simp
  | .sl _, _, _, _, h => by rw [show _ = [] from h]; simp
  | .pair _ _, _, _, _, h => by rw [show _ = [] from h]; simp

theorem InR.flat {H : Heap} {lim : Nat} : ∀ {u : Ty} {xs : List u.T} {cs : List Value} {ks : List Nat}, u.flat = true → InR H lim u xs cs ks → ks = []
  | .os t, xs, cs, ks, f, h => by simp [Ty.flat] at f
  | .int _, _, _, _, _, h => h
  | .bool, _, _, _, _, h => h
  | .str, _, _, _, _, h => h
  | .sl _, _, _, _, _, h => h
  | .pair _ _, _, _, _, _, h => h

theorem InR.ofNo {H : Heap} {lim : Nat} : ∀ {u : Ty} {xs : List u.T} {cs : List Value}, (∀ t, u ≠ .os t) → InR H lim u xs cs []
  | .os t, _, _, f => absurd rfl (f t)
  | .int _, _, _, _ => rfl
  | .bool, _, _, _ => rfl
  | .str, _, _, _ => rfl
  | .sl _, _, _, _ => rfl
  | .pair _ _, _, _, _ => rfl

theorem InR.noOs {H : Heap} {lim : Nat} : ∀ {u : Ty} {xs : List u.T} {cs : List Value} {ks : List Nat}, u.isOs = false → InR H lim u xs cs ks → ks = []
  | .os t, xs, cs, ks, f, h => by simp [Ty.isOs] at f
  | .int _, _, _, _, _, h => h
  | .bool, _, _, _, _, h => h
  | .str, _, _, _, _, h => h
  | .sl _, _, _, _, _, h => h
  | .pair _ _, _, _, _, _, h => h

/-- An owned slice handed over. -/
def OwnS (N : Nat → Prop) (H : Heap) (lim : Nat) (u : Ty) (x : List u.T) (w : Value) (ids : List Nat) : Prop :=
  (ids = [] ∧ x = [] ∧ w = .slice none 0 0) ∨ ∃ z o k ks, ids = z :: ks ∧ z ∉ ks ∧ w = .slice (some ⟨z, o, none⟩) x.length u.size ∧ hget H z = some k ∧ k.ro = false ∧ lim ≤ z ∧ Fit o (x.length * u.size) k.cells ∧ RL N H u x ((k.cells.drop o).take (x.length * u.size)) ∧ InR H lim u x ((k.cells.drop o).take (x.length * u.size)) ks

theorem OwnS.cell {N : Nat → Prop} {H : Heap} {lim : Nat} {u : Ty} {x : List u.T} {w : Value} {ids : List Nat} (h : OwnS N H lim u x w ids) : isCell w = true ∧ sameLeaf w w = true := by
  rcases h with ⟨_, _, rfl⟩ | ⟨z, o, k, ks, _, _, rfl, _⟩ <;> simp [isCell, sameLeaf]

theorem OwnS.frame {N M : Nat → Prop} {H G : Heap} {lim : Nat} {u : Ty} {x : List u.T} {w : Value} {ids : List Nat} (h : OwnS N H lim u x w ids) (hf : ∀ z, N z → z < H.length → M z ∧ hget G z = hget H z) (hi : ∀ z ∈ ids, hget G z = hget H z) : OwnS M G lim u x w ids := by
  rcases h with h | ⟨z, o, k, ks, rfl, h0, h2, h3, h4, h5, h6, h7, h8⟩
  · exact .inl h
  · exact .inr ⟨z, o, k, ks, rfl, h0, h2, by rw [hi z (by simp)]; exact h3, h4, h5, h6, h7.frame hf, h8.frame (fun y hy => hi y (by simp [hy]))⟩

/-- An array of owned slices says nothing of the frozen ones. -/
theorem RL.rows {N M : Nat → Prop} {H G : Heap} {t : Ty} {xs : List (Ty.os t).T} {c : List Value} (h : RL N H (.os t) xs c) : RL M G (.os t) xs c :=
  ⟨h.1, fun i hi => h.2 i hi⟩

theorem OwnS.flat {N M : Nat → Prop} {H : Heap} {lim : Nat} {u : Ty} {x : List u.T} {w : Value} {ids : List Nat} (h : OwnS N H lim u x w ids) (hf : (u.flat || u.rowT) = true) : OwnS M H lim u x w ids := by
  rcases h with h | ⟨z, o, k, ks, rfl, h0, h2, h3, h4, h5, h6, h7, h8⟩
  · exact .inl h
  · refine .inr ⟨z, o, k, ks, rfl, h0, h2, h3, h4, h5, h6, ?_, h8⟩
    cases hu : u.flat with
    | true => exact ⟨h7.1, fun i hi => Rep.flat _ hu (h7.2 i hi)⟩
    | false =>
      rw [hu] at hf
      cases u with
      | os t => exact h7.rows
      | _ => simp [Ty.rowT] at hf

theorem OwnS.lt {N : Nat → Prop} {H : Heap} {lim : Nat} {u : Ty} {x : List u.T} {w : Value} {ids : List Nat} (h : OwnS N H lim u x w ids) : ∀ z ∈ ids, z < H.length := by
  rcases h with ⟨rfl, _⟩ | ⟨z, o, k, ks, rfl, h0, h2, h3, _, _, _, _, h8⟩
  · simp
  · intro q hq
    rcases List.mem_cons.1 hq with rfl | hq
    · exact hget_lt h3
    · exact h8.lt q hq

/-- How cells stand for a typed value, and the blocks that it owns. -/
def RepO (N : Nat → Prop) (H : Heap) (lim : Nat) : (t : Ty) → t.T → List Value → List Nat → Prop
  | .os u, x, cs, ids => ∃ w, cs = [w] ∧ OwnS N H lim u x w ids
  | .pair a b, x, cs, ids => ∃ i j, ids = i ++ j ∧ RepO N H lim a x.1 (cs.take a.size) i ∧ RepO N H lim b x.2 (cs.drop a.size) j
  | .int k, x, cs, ids => ids = [] ∧ Rep N H (.int k) x cs
  | .bool, x, cs, ids => ids = [] ∧ Rep N H .bool x cs
  | .str, x, cs, ids => ids = [] ∧ Rep N H .str x cs
  | .sl t, x, cs, ids => ids = [] ∧ Rep N H (.sl t) x cs

theorem RepO.rep {N : Nat → Prop} {H : Heap} {lim : Nat} : ∀ (t : Ty) {x : t.T} {cs : List Value} {ids : List Nat}, RepO N H lim t x cs ids → Rep N H t x cs
  | .int k, _, _, _, h => h.2
  | .bool, _, _, _, h => h.2
  | .str, _, _, _, h => h.2
  | .sl t, _, _, _, h => h.2
  | .os u, _, _, _, h => by obtain ⟨w, rfl, ho⟩ := h; exact ⟨w, rfl, ho.cell⟩
  | .pair a b, x, cs, ids, h => by
    obtain ⟨i, j, _, h1, h2⟩ := h
    unfold Rep
    exact ⟨RepO.rep a h1, RepO.rep b h2⟩

theorem RepO.of {N : Nat → Prop} {H : Heap} {lim : Nat} : ∀ (t : Ty) {x : t.T} {cs : List Value}, t.hasOs = false → Rep N H t x cs → RepO N H lim t x cs []
  | .int k, _, _, _, h => ⟨rfl, h⟩
  | .bool, _, _, _, h => ⟨rfl, h⟩
  | .str, _, _, _, h => ⟨rfl, h⟩
  | .sl t, _, _, _, h => ⟨rfl, h⟩
  | .os u, _, _, f, h => by simp [Ty.hasOs] at f
  | .pair a b, x, cs, f, h => by
    simp only [Ty.hasOs, Bool.or_eq_false_iff] at f
    unfold Rep at h
    exact ⟨[], [], rfl, RepO.of a f.1 h.1, RepO.of b f.2 h.2⟩

theorem RepO.nil {N : Nat → Prop} {H : Heap} {lim : Nat} : ∀ (t : Ty) {x : t.T} {cs : List Value} {ids : List Nat}, t.hasOs = false → RepO N H lim t x cs ids → ids = []
  | .int k, _, _, _, _, h => h.1
  | .bool, _, _, _, _, h => h.1
  | .str, _, _, _, _, h => h.1
  | .sl t, _, _, _, _, h => h.1
  | .os u, _, _, _, f, h => by simp [Ty.hasOs] at f
  | .pair a b, x, cs, ids, f, h => by
    simp only [Ty.hasOs, Bool.or_eq_false_iff] at f
    obtain ⟨i, j, rfl, h1, h2⟩ := h
    rw [RepO.nil a f.1 h1, RepO.nil b f.2 h2]; rfl

theorem RepO.frame {N M : Nat → Prop} {H G : Heap} {lim : Nat} (hf : ∀ z, N z → z < H.length → M z ∧ hget G z = hget H z) : ∀ (t : Ty) {x : t.T} {cs : List Value} {ids : List Nat}, RepO N H lim t x cs ids → (∀ z ∈ ids, hget G z = hget H z) → RepO M G lim t x cs ids
  | .int k, _, _, _, h, _ => ⟨h.1, Rep.frame hf _ h.2⟩
  | .bool, _, _, _, h, _ => ⟨h.1, Rep.frame hf _ h.2⟩
  | .str, _, _, _, h, _ => ⟨h.1, Rep.frame hf _ h.2⟩
  | .sl t, _, _, _, h, _ => ⟨h.1, Rep.frame hf _ h.2⟩
  | .os u, _, _, _, h, hi => by obtain ⟨w, rfl, ho⟩ := h; exact ⟨w, rfl, ho.frame hf hi⟩
  | .pair a b, x, cs, ids, h, hi => by
    obtain ⟨i, j, rfl, h1, h2⟩ := h
    exact ⟨i, j, rfl, RepO.frame hf a h1 (fun z hz => hi z (by simp [hz])), RepO.frame hf b h2 (fun z hz => hi z (by simp [hz]))⟩

theorem RepO.flat {N M : Nat → Prop} {H : Heap} {lim : Nat} : ∀ (t : Ty) {x : t.T} {cs : List Value} {ids : List Nat}, t.nosl = true → RepO N H lim t x cs ids → RepO M H lim t x cs ids
  | .int k, _, _, _, _, h => ⟨h.1, Rep.flat _ rfl h.2⟩
  | .bool, _, _, _, _, h => ⟨h.1, Rep.flat _ rfl h.2⟩
  | .str, _, _, _, _, h => ⟨h.1, Rep.flat _ rfl h.2⟩
  | .sl t, _, _, _, f, h => by simp [Ty.nosl] at f
  | .os u, _, _, _, f, h => by obtain ⟨w, rfl, ho⟩ := h; exact ⟨w, rfl, ho.flat f⟩
  | .pair a b, x, cs, ids, f, h => by
    simp only [Ty.nosl, Bool.and_eq_true] at f
    obtain ⟨i, j, rfl, h1, h2⟩ := h
    exact ⟨i, j, rfl, RepO.flat a f.1 h1, RepO.flat b f.2 h2⟩

theorem RepO.lt {N : Nat → Prop} {H : Heap} {lim : Nat} : ∀ (t : Ty) {x : t.T} {cs : List Value} {ids : List Nat}, RepO N H lim t x cs ids → ∀ z ∈ ids, z < H.length
  | .int k, _, _, _, h => by rw [h.1]; simp
  | .bool, _, _, _, h => by rw [h.1]; simp
  | .str, _, _, _, h => by rw [h.1]; simp
  | .sl t, _, _, _, h => by rw [h.1]; simp
  | .os u, _, _, _, h => by obtain ⟨w, rfl, ho⟩ := h; exact ho.lt
  | .pair a b, x, cs, ids, h => by
    obtain ⟨i, j, rfl, h1, h2⟩ := h
    intro z hz
    rcases List.mem_append.1 hz with hz | hz
    · exact RepO.lt a h1 z hz
    · exact RepO.lt b h2 z hz

theorem refl_noOs {fz : Bool} : ∀ (t : Ty) {cs : List PV} {L : LS} {r : t.T × LS}, refl fz t cs L = some r → t.hasOs = false
  | .int k, _, _, _, _ => rfl
  | .bool, _, _, _, _ => rfl
  | .str, _, _, _, _ => rfl
  | .sl t, _, _, _, _ => rfl
  | .os u, _, _, _, h => by simp [refl] at h
  | .pair a b, cs, L, r, h => by
    unfold refl at h
    obtain ⟨x, h1, h⟩ := ob h
    obtain ⟨y, h2, h⟩ := ob h
    simp only [Ty.hasOs, Bool.or_eq_false_iff]
    exact ⟨refl_noOs a h1, refl_noOs b h2⟩

/-- A typed value handed over, and the blocks that go along. -/
def HR (N : Nat → Prop) (H : Heap) (lim : Nat) (kd : Kd) (v : TV) (w : Value) (ids : List Nat) : Prop :=
  match kd with
  | .fz => ∃ cs, IsVal v.1 cs w ∧ RepO N H lim v.1 v.2 cs ids
  | .cb => ∃ z k j, ids = z :: j ∧ w = .pointer (some ⟨z, 0, none⟩) ∧ hget H z = some k ∧ k.ro = false ∧ lim ≤ z ∧ RepO N H lim v.1 v.2 k.cells j
  | .os => ∃ u x, v = ⟨.sl u, x⟩ ∧ OwnS N H lim u x w ids

theorem HR.frame {N M : Nat → Prop} {H G : Heap} {lim : Nat} {kd : Kd} {v : TV} {w : Value} {ids : List Nat} (h : HR N H lim kd v w ids) (hf : ∀ z, N z → z < H.length → M z ∧ hget G z = hget H z) (hi : ∀ z ∈ ids, hget G z = hget H z) : HR M G lim kd v w ids := by
  unfold HR at h ⊢
  cases kd with
  | fz => obtain ⟨cs, h2, h3⟩ := h; exact ⟨cs, h2, RepO.frame hf _ h3 hi⟩
  | cb =>
    obtain ⟨z, k, j, rfl, h2, h3, h4, h5, h6⟩ := h
    exact ⟨z, k, j, rfl, h2, by rw [hi z (by simp)]; exact h3, h4, h5, RepO.frame hf _ h6 (fun z hz => hi z (by simp [hz]))⟩
  | os =>
    obtain ⟨u, x, rfl, h⟩ := h
    exact ⟨u, x, rfl, h.frame hf hi⟩

/-- No slice in what a block that is handed over holds. -/
def flatK : Kd → Ty → Bool
  | .fz, t => t.nosl
  | .cb, t => t.nosl
  | .os, .sl u => u.flat || u.rowT
  | .os, _ => true

theorem HR.flat {N M : Nat → Prop} {H : Heap} {lim : Nat} {kd : Kd} {v : TV} {w : Value} {ids : List Nat} (h : HR N H lim kd v w ids) (hf : flatK kd v.1 = true) : HR M H lim kd v w ids := by
  unfold HR at h ⊢
  cases kd with
  | fz => obtain ⟨cs, h2, h3⟩ := h; exact ⟨cs, h2, RepO.flat _ hf h3⟩
  | cb => obtain ⟨z, k, j, rfl, h2, h3, h4, h5, h6⟩ := h; exact ⟨z, k, j, rfl, h2, h3, h4, h5, RepO.flat _ hf h6⟩
  | os =>
    obtain ⟨u, x, rfl, h⟩ := h
    exact ⟨u, x, rfl, h.flat hf⟩

theorem HR.lt {N : Nat → Prop} {H : Heap} {lim : Nat} {kd : Kd} {v : TV} {w : Value} {ids : List Nat} (h : HR N H lim kd v w ids) : ∀ z ∈ ids, z < H.length := by
  unfold HR at h
  cases kd with
  | fz => obtain ⟨cs, _, h⟩ := h; exact RepO.lt _ h
  | cb =>
    obtain ⟨z, k, j, rfl, h2, h3, _, _, h6⟩ := h
    intro q hq
    rcases List.mem_cons.1 hq with rfl | hq
    · exact hget_lt h3
    · exact RepO.lt _ h6 q hq
  | os =>
    obtain ⟨u, x, rfl, h⟩ := h
    exact h.lt

def HRs (N : Nat → Prop) (H : Heap) (lim : Nat) : List Kd → List TV → List Value → List (List Nat) → Prop
  | [], [], [], [] => True
  | k :: ks, v :: vs, w :: ws, i :: is => HR N H lim k v w i ∧ HRs N H lim ks vs ws is
  | _, _, _, _ => False

theorem HRs.frame {N M : Nat → Prop} {H G : Heap} {lim : Nat} (hf : ∀ z, N z → z < H.length → M z ∧ hget G z = hget H z) : ∀ {ks : List Kd} {vs : List TV} {ws : List Value} {is : List (List Nat)}, HRs N H lim ks vs ws is → (∀ z ∈ is.flatten, hget G z = hget H z) → HRs M G lim ks vs ws is
  | [], [], [], [], _, _ => trivial
  | _ :: _, _ :: _, _ :: _, _ :: _, h, hi => ⟨h.1.frame hf (fun z hz => hi z (by simp [hz])), HRs.frame hf h.2 (fun z hz => hi z (by simp at hz ⊢; exact .inr hz))⟩

/-- The kinds and values of what comes back beside the results. -/
def outKd : List (PM × Ty) → List Kd
  | [] => []
  | (.io, _) :: r => .os :: outKd r
  | (.ps, _) :: r => .cb :: outKd r
  | _ :: r => outKd r

def outVs : List (PM × Ty) → List Value → List Value
  | [], _ => []
  | (.io, _) :: r, w :: ws => w :: outVs r ws
  | (.ps, _) :: r, w :: ws => w :: outVs r ws
  | _ :: r, _ :: ws => outVs r ws
  | _ :: _, [] => []

def outIds : List (PM × Ty) → List (List Nat) → List (List Nat)
  | [], _ => []
  | (.io, _) :: r, w :: ws => w :: outIds r ws
  | (.ps, _) :: r, w :: ws => w :: outIds r ws
  | _ :: r, _ :: ws => outIds r ws
  | _ :: _, [] => []

/-- A function by value and the same in the first interpreter. -/
def FnOk (sig : Sig) (call : TupT sig.ptys → Option (TupT sig.rtys)) (callE : List Value → Nat → Heap → Option (Value × Heap)) (lim : Nat) : Prop :=
  ∀ a r, call a = some r → ∀ (H : Heap) (Ban : Nat → Prop) (ws : List Value) (idss : List (List Nat)),
    (∀ z, Ban z → z < H.length) → lim ≤ H.length → idss.flatten.Nodup → (∀ z ∈ idss.flatten, ¬ Ban z) →
    HRs (fun z => z ∉ idss.flatten ∧ ¬ Ban z) H lim (sig.params.map fun p => p.1.kd) (unT sig.ptys a) ws idss →
    ∃ v H' rvs rids oids, callE ws lim H = some (v, H') ∧ v = oneOf rvs ∧ H.length ≤ H'.length ∧ (∀ z, z < H.length → z ∉ idss.flatten → hget H' z = hget H z) ∧
      (rids.flatten ++ oids.flatten).Nodup ∧ (∀ z ∈ rids.flatten ++ oids.flatten, z ∈ idss.flatten ∨ H.length ≤ z) ∧ (∀ z ∈ rids.flatten ++ oids.flatten, ¬ Ban z) ∧
      HRs (fun z => z ∉ rids.flatten ++ oids.flatten ∧ ¬ Ban z) H' lim (sig.results.map fun q => kdR q.1) ((unT sig.rtys r).take sig.results.length) rvs rids ∧
      HRs (fun z => z ∉ rids.flatten ++ oids.flatten ∧ ¬ Ban z) H' lim (outKd sig.params) ((unT sig.rtys r).drop sig.results.length) (outVs sig.params ws) oids

theorem unT_mkT : ∀ (ts : List Ty) {vs : List TV} {a : TupT ts}, mkT ts vs = some a → unT ts a = vs
  | [], [], a, h => rfl
  | [t], [v], a, h => by
    have e := tcast_eq h
    obtain ⟨t', x⟩ := v
    simp only at e; subst e
    have := tcast_self h
    simp only [unT]; rw [← this]
  | t :: u :: r, v :: vs, a, h => by
    simp only [mkT] at h
    replace h := ob h; obtain ⟨x, h1, h⟩ := h
    replace h := ob h; obtain ⟨y, h2, h⟩ := h
    simp at h; subst h
    have e := tcast_eq h1
    obtain ⟨t', x'⟩ := v
    simp only at e; subst e
    have := tcast_self h1
    simp only [unT]; rw [unT_mkT (u :: r) h2, ← this]
  | [], _ :: _, a, h => by simp [mkT] at h
  | [t], [], a, h => by simp [mkT] at h
  | [t], _ :: _ :: _, a, h => by simp [mkT] at h
  | _ :: _ :: _, [], a, h => by simp [mkT] at h

/-- The kids of a block, listed. -/
def kidsOf (s : S) (b : Nat) : List Nat := (List.range s.H.length).filter fun z => match s.Kid z with | some p => p.1 == b | none => false

theorem kidsOf_mem {s : S} (hs : StR s) {b z : Nat} : z ∈ kidsOf s b ↔ ∃ i, s.Kid z = some (b, i) := by
  unfold kidsOf
  rw [List.mem_filter, List.mem_range]
  constructor
  · rintro ⟨_, h⟩
    split at h
    · rename_i p hp
      have : p.1 = b := by simpa using h
      exact ⟨p.2, by rw [hp, ← this]⟩
    · simp at h
  · rintro ⟨i, h⟩
    exact ⟨(hs.kl z _ h).1, by rw [h]; simp⟩

theorem kidsOf_nodup (s : S) (b : Nat) : (kidsOf s b).Nodup := List.Pairwise.filter _ List.nodup_range

/-- An owned slice taken out of the store. -/
theorem takeO_own {s : S} (hs : StR s) {u : Ty} {p : PV} {w : Value} (hr : LR0 s p w) {x : List u.T} {L' : LS} (h : takeO u p s.L = some (x, L')) :
    ∃ s' ids, s'.L = L' ∧ s'.H = s.H ∧ s'.μ = s.μ ∧ Keep s s' ∧ StR s' ∧ OwnS s'.N s'.H s.lim u x w ids ∧ (∀ z, s'.Lim z ↔ s.Lim z ∨ z ∈ ids) ∧ (∀ z ∈ ids, ¬ s.Lim z) ∧ ids.Nodup ∧ (∀ z, Own s' z ↔ Own s z) := by
  unfold takeO at h
  split at h
  · simp at h; obtain ⟨rfl, rfl⟩ := h
    obtain rfl : w = _ := hr
    exact ⟨s, [], rfl, rfl, rfl, Keep.refl s, hs, .inl ⟨rfl, rfl, rfl⟩, by simp, by simp, by simp, fun _ => Iff.rfl⟩
  · rename_i b off no
    split at h
    · rename_i ver wt xs hb
      split at h
      · simp at h
      rename_i hnos0
      replace h := ob h; obtain ⟨y, h1, h⟩ := h
      simp at h; obtain ⟨rfl, rfl⟩ := h
      have e0 := tcast_eq h1
      injection e0 with e0; subst e0
      have := tcast_self h1; subst this
      have hr : LR0 s (.osl b off no) w := hr
      obtain ⟨hlb, hr⟩ := hr
      obtain ⟨s1, l1, g1, u1, k1, t1, hl, ho⟩ := hs.kill hb rfl false
      have g1' : s1.H = s.H := g1
      have hnos : ∀ t, wt ≠ .os t := fun t e => by subst e; simp [Ty.isOs] at hnos0
      refine ⟨s1, (match s.μ b with | none => [] | some m => [m.z]), l1, g1', u1, k1, t1, ?_, ?_, ?_, ?_, ho⟩
      · cases hm : s.μ b with
        | none =>
          rw [hm] at hr; obtain ⟨rfl, _, rfl⟩ := hr
          have hx := arr_nil hs hb hm; subst hx
          have : cut ([] : List wt.T) 0 no = [] := by cases no <;> simp [cut]
          exact .inl ⟨rfl, this, rfl⟩
        | some m =>
          rw [hm] at hr; obtain ⟨g0, rfl⟩ := hr
          obtain ⟨a1, a2, k, a3, a4, a5, a6, a7⟩ := arr_info hs hb hm
          have hcut : cut xs off no = (xs.drop off).take (no.getD (m.n - off)) := by
            cases no with
            | none => simp only [cut, Option.getD_none]; rw [List.take_of_length_le (by simp; omega)]
            | some l => rfl
          have hle : off + no.getD (m.n - off) ≤ xs.length := by omega
          have hlen : (cut xs off no).length = no.getD (m.n - off) := by rw [hcut]; simp; omega
          have h1 := RL.sub a4 a5 hle
          rw [← hcut] at h1
          refine .inr ⟨m.z, m.sh + off * wt.size, k, [], rfl, by simp, ?_, by rw [g1']; exact a3, (a6 rfl).1, (a6 rfl).2, ?_, ?_, InR.ofNo hnos⟩
          · rw [hlen, a1]
          · rw [hlen]; exact (arr_fit hs hb hm a3).sub (by rw [← Nat.add_mul]; exact Nat.mul_le_mul_right _ hle)
          · rw [hlen]; exact h1.frame (fun z hz hl => ⟨k1.N hl hz, k1.fr z hl hz.1⟩)
      · intro z; rw [hl z]
        cases s.μ b with
        | none => simp
        | some m => simp [eq_comm]
      · cases hm : s.μ b with
        | none => simp
        | some m => intro z hz; simp at hz; subst hz; exact hs.lm b _ m hb hm
      · cases s.μ b <;> simp
    · rename_i ver wt xs hb
      split at h
      · replace h := ob h; obtain ⟨y, h1, h⟩ := h
        simp at h; obtain ⟨rfl, rfl⟩ := h
        have e0 := tcast_eq h1
        injection e0 with e0; subst e0
        have := tcast_self h1; subst this
        have hr : LR0 s (.osl b 0 none) w := hr
        obtain ⟨hlb, hr⟩ := hr
        obtain ⟨_, hfl, hrow⟩ := rows_info hs hb
        rcases hrow with ⟨hm, hx⟩ | ⟨m, k, hm, a1, a2, a3, a4, a5, a6, a7⟩
        · rw [hm] at hr; obtain ⟨_, _, rfl⟩ := hr
          obtain ⟨s1, l1, g1, u1, k1, t1, hl, ho⟩ := hs.kill hb rfl false
          have g1' : s1.H = s.H := g1
          refine ⟨s1, [], l1, g1', u1, k1, t1, .inl ⟨rfl, hx, rfl⟩, fun z => ?_, by simp, by simp, ho⟩
          rw [hl z, hm]; simp
        · obtain ⟨s1, l1, g1, u1, k1, t1, hl, ho, _⟩ := hs.killR hb rfl false
          have g1' : s1.H = s.H := g1
          have hkn : ∀ z ∈ kidsOf s b, ¬ s.Lim z := fun z hz => by
            obtain ⟨i, hi⟩ := (kidsOf_mem hs).1 hz; exact (hs.kl z _ hi).2.2.1
          have hka : ∀ z ∈ kidsOf s b, ∃ k, hget s1.H z = some k := fun z hz => by
            obtain ⟨i, hi⟩ := (kidsOf_mem hs).1 hz; rw [g1']; exact hs.ka z _ hi
          rw [hm] at hr; obtain ⟨_, rfl⟩ := hr
          refine ⟨s1, m.z :: kidsOf s b, l1, g1', u1, k1, t1, ?_, fun z => ?_, fun z hz => ?_, ?_, ho⟩
          · refine .inr ⟨m.z, m.sh, k, kidsOf s b, rfl, ?_, ?_, by rw [g1']; exact a3, a5, a6, by rw [show (Ty.os wt).size = 1 from rfl, Nat.mul_one]; exact a4, ?_, hfl, kidsOf_nodup s b, hka, (fun z => match s.Kid z with | some p => if p.1 = b then some p.2 else none | none => none), fun z i hz => ?_, fun i hi => ?_⟩
            · intro hz
              obtain ⟨i, hi⟩ := (kidsOf_mem hs).1 hz
              exact hs.kid_ne hi hb hm rfl
            · simp [a1, a2, Ty.size]
            · rw [show (Ty.os wt).size = 1 from rfl, Nat.mul_one]
              refine ⟨by rw [List.length_take, List.length_drop, show (Ty.os wt).size = 1 from rfl]; have := a4.1; omega, fun i hi => ?_⟩
              obtain ⟨v, q1, q2⟩ := a7 i hi (by simp)
              refine ⟨v, ?_, ?_⟩
              · rw [show (Ty.os wt).size = 1 from rfl, Nat.mul_one]
                apply List.ext_getElem?; intro q
                rw [seg_get]
                by_cases hq : q < 1
                · rw [if_pos hq, show q = 0 by omega, List.getElem?_take_of_lt (by omega), List.getElem?_drop]; simpa using q1
                · rw [if_neg hq, List.getElem?_eq_none (by simp; omega)]
              · rcases q2 with ⟨_, rfl⟩ | ⟨_, _, _, rfl, _⟩ <;> simp [isCell, sameLeaf]
            · replace hz : (match s.Kid z with | some p => if p.1 = b then some p.2 else none | none => none) = some i := hz
              split at hz
              · rename_i p hp
                split at hz
                · rename_i e; exact (kidsOf_mem hs).2 ⟨p.2, by rw [hp, ← e]⟩
                · simp at hz
              · simp at hz
            · obtain ⟨v, q1, q2⟩ := a7 i hi (by simp)
              refine ⟨v, ?_, q2.mono hfl (fun z hz => ⟨by show (match s.Kid z with | some p => if p.1 = b then some p.2 else none | none => none) = some i; rw [hz]; simp, by rw [g1']⟩)⟩
              rw [show (Ty.os wt).size = 1 from rfl, Nat.mul_one, List.getElem?_take_of_lt hi, List.getElem?_drop]; exact q1
          · rw [hl z, List.mem_cons, kidsOf_mem hs, hm]
            simp [eq_comm]
          · rcases List.mem_cons.1 hz with rfl | hz
            · exact hs.lm b _ m hb hm
            · exact hkn z hz
          · refine List.nodup_cons.2 ⟨fun hz => ?_, kidsOf_nodup s b⟩
            obtain ⟨i, hi⟩ := (kidsOf_mem hs).1 hz
            exact hs.kid_ne hi hb hm rfl
      · simp at h
    · simp at h
  · rename_i b i ver wt x0
    split at h
    · rename_i v' t xs hb
      split at h
      · rename_i hv
        have hv := Nat.eq_of_beq_eq_true hv
        replace h := ob h; obtain ⟨y, h1, h⟩ := h
        simp at h; obtain ⟨rfl, rfl⟩ := h
        have e0 := tcast_eq h1
        injection e0 with e0; subst e0
        have := tcast_self h1; subst this
        obtain ⟨hlb, _, hval⟩ : LR0 s (.rw b i ver wt x0) w := hr
        obtain ⟨hfl, hrow, _⟩ := (hval _ hb).2 hv
        have hno : ∀ t, wt ≠ .os t := fun t e => by subst e; simp [Ty.flat] at hfl
        rcases hrow with ⟨rfl, rfl⟩ | ⟨z, oo, k, rfl, q1, q2, q3, q4, q5, q6⟩
        · obtain ⟨s1, l1, g1, u1, k1, t1, hl, ho⟩ := hs.detach (i := i) hb none (fun z h => by simp at h)
          refine ⟨s1, [], l1, g1, u1, k1, t1, .inl ⟨rfl, rfl, rfl⟩, fun z => ?_, by simp, by simp, ho⟩
          rw [hl z]; simp
        · obtain ⟨s1, l1, g1, u1, k1, t1, hl, ho⟩ := hs.detach (i := i) hb (some z) (fun y h => by injection h with h; subst h; exact q1)
          refine ⟨s1, [z], l1, g1, u1, k1, t1, .inr ⟨z, oo, k, [], rfl, by simp, rfl, by rw [g1]; exact q2, q3, q4, q5, ?_, InR.ofNo hno⟩, fun y => ?_, fun y hy => ?_, by simp, ho⟩
          · refine ⟨by rw [List.length_take, List.length_drop]; have := q5.1; omega, fun j hj => ?_⟩
            have hm := mul_lt (k := wt.size) hj
            have e2 : seg ((k.cells.drop oo).take (x0.length * wt.size)) (j * wt.size) wt.size = (k.cells.drop (oo + j * wt.size)).take wt.size := by
              unfold seg; rw [List.drop_take, List.take_take, Nat.min_eq_left (by omega), List.drop_drop]
            rw [e2]; exact Rep.flat wt hfl (q6 j hj)
          · rw [hl y]; simp [eq_comm]
          · simp at hy; subst hy; exact (hs.kl y _ q1).2.2.1
      · simp at h
    · simp at h
  · simp at h

theorem outOne_own {s : S} (hs : StR s) {t : Ty} {p : PV} {w : Value} (hr : ER s p w) {x : TV} {L' : LS} (h : outOne true t p s.L = some (x, L')) :
    x.1 = t ∧ ∃ s' ids, s'.L = L' ∧ s'.H = s.H ∧ s'.μ = s.μ ∧ Keep s s' ∧ StR s' ∧ HR s'.N s'.H s.lim .os x w ids ∧ (∀ z, s'.Lim z ↔ s.Lim z ∨ z ∈ ids) ∧ (∀ z ∈ ids, ¬ s.Lim z) ∧ ids.Nodup ∧ (∀ z, Own s' z ↔ Own s z) := by
  unfold outOne at h
  split at h
  · rename_i e; simp at e
  · split at h
    · rename_i u
      obtain ⟨⟨y, L1⟩, h1, h⟩ := ob h
      simp at h; obtain ⟨rfl, rfl⟩ := h
      have hr2 : LR0 s p w := by
        have h4' := h1
        unfold takeO at h4'
        split at h4'
        · exact hr
        · exact hr
        · exact hr
        · simp at h4'
      obtain ⟨s', ids, a1, a2, a3, a4, a5, a6, a7⟩ := takeO_own hs hr2 h1
      exact ⟨rfl, s', ids, a1, a2, a3, a4, a5, ⟨u, y, rfl, a6⟩, a7⟩
    · simp at h

theorem wrapO_rel {s : S} {t : Ty} {ps : List PV} {cs : List Value} {v : Value} (hv : IsVal t cs v) (h : LRs s ps cs) : AR s (wrapV t ps) v := by
  have leaf : ∀ w, cs = [w] → ∃ p, ps = [p] ∧ LR0 s p w := by
    rintro w rfl
    match ps, h with
    | [p], h => exact ⟨p, rfl, h.1⟩
  cases t with
  | pair a b => obtain rfl := hv; exact ⟨cs, rfl, h⟩
  | int k => obtain ⟨p, rfl, hp⟩ := leaf v hv; exact AR.of hp
  | bool => obtain ⟨p, rfl, hp⟩ := leaf v hv; exact AR.of hp
  | str => obtain ⟨p, rfl, hp⟩ := leaf v hv; exact AR.of hp
  | sl t => obtain ⟨p, rfl, hp⟩ := leaf v hv; exact AR.of hp
  | os t => obtain ⟨p, rfl, hp⟩ := leaf v hv; exact AR.of hp

theorem takeO_out {u : Ty} {v : PV} {L L' : LS} {x : List u.T} (h : takeO u v L = some (x, L')) : outOne true (.sl u) v L = some (⟨.sl u, x⟩, L') := by
  unfold outOne; simp only [h, obind]

/-- A value taken out of the store, with what it owns. -/
theorem takeC_sim : ∀ (t : Ty) {s : S} {cs : List PV} {vs : List Value} {x : t.T} {L' : LS}, StR s → LRs s cs vs → takeC t cs s.L = some (x, L') →
    ∃ s' ids, s'.L = L' ∧ s'.H = s.H ∧ s'.μ = s.μ ∧ Keep s s' ∧ StR s' ∧ RepO s'.N s'.H s.lim t x vs ids ∧ (∀ z, s'.Lim z ↔ s.Lim z ∨ z ∈ ids) ∧ (∀ z ∈ ids, ¬ s.Lim z) ∧ ids.Nodup ∧ (∀ z, Own s' z → Own s z)
  | .int k, s, cs, vs, x, L', hs, hr, h => by
    obtain ⟨s', a1, a2, a3, a4, a5, a6, a7, a8⟩ := refl_fz (.int k) hs hr h
    exact ⟨s', [], a1, a2, a3, a4, a5, ⟨rfl, a6⟩, by simp [a8], by simp, by simp, a7⟩
  | .bool, s, cs, vs, x, L', hs, hr, h => by
    obtain ⟨s', a1, a2, a3, a4, a5, a6, a7, a8⟩ := refl_fz .bool hs hr h
    exact ⟨s', [], a1, a2, a3, a4, a5, ⟨rfl, a6⟩, by simp [a8], by simp, by simp, a7⟩
  | .str, s, cs, vs, x, L', hs, hr, h => by
    obtain ⟨s', a1, a2, a3, a4, a5, a6, a7, a8⟩ := refl_fz .str hs hr h
    exact ⟨s', [], a1, a2, a3, a4, a5, ⟨rfl, a6⟩, by simp [a8], by simp, by simp, a7⟩
  | .sl t, s, cs, vs, x, L', hs, hr, h => by
    obtain ⟨s', a1, a2, a3, a4, a5, a6, a7, a8⟩ := refl_fz (.sl t) hs hr h
    exact ⟨s', [], a1, a2, a3, a4, a5, ⟨rfl, a6⟩, by simp [a8], by simp, by simp, a7⟩
  | .os u, s, cs, vs, x, L', hs, hr, h => by
    unfold takeC at h; split at h
    · rename_i p
      obtain ⟨v, rfl, hv⟩ := hr.one
      obtain ⟨_, s1, ids, l1, g1, u1, k1, t1, hh, hl, hnl, hnd, ho⟩ := outOne_own hs (ER.of0 hv) (takeO_out h)
      obtain ⟨u', x', e, hh⟩ := hh
      injection e with e1 e2
      injection e1 with e1; subst e1
      replace e2 := eq_of_heq e2; subst e2
      exact ⟨s1, ids, l1, g1, u1, k1, t1, ⟨v, rfl, hh⟩, hl, hnl, hnd, fun z hz => (ho z).1 hz⟩
    · simp at h
  | .pair a b, s, cs, vs, x, L', hs, hr, h => by
    unfold takeC at h
    obtain ⟨r, h1, h⟩ := ob h
    obtain ⟨q, h2, h⟩ := ob h
    simp at h; obtain ⟨e1, e2⟩ := h
    obtain ⟨s1, i, l1, g1, u1, k1, t1, r1, m1, n1, d1, o1⟩ := takeC_sim a (x := r.1) (L' := r.2) hs (All2.take a.size hr) (by rw [h1])
    rw [← l1] at h2
    obtain ⟨s2, j, l2, g2, u2, k2, t2, r2, m2, n2, d2, o2⟩ := takeC_sim b (x := q.1) (L' := q.2) t1 (All2.drop a.size (k1.LRs hr)) (by rw [h2])
    subst e1 e2
    have hlim : s1.lim = s.lim := k1.lim
    refine ⟨s2, i ++ j, l2, g2.trans g1, u2.trans u1, k1.trans k2, t2, ⟨i, j, rfl, RepO.frame (fun z hz hlt => ⟨k2.N hlt hz, by rw [g2]⟩) a r1 (fun z _ => by rw [g2]), by rw [← hlim]; exact r2⟩, fun z => ?_, fun z hz => ?_, ?_, fun z hz => o1 z (o2 z hz)⟩
    · rw [m2, m1, List.mem_append]; constructor
      · rintro ((h | h) | h) <;> simp [h]
      · rintro (h | h | h) <;> simp [h]
    · rcases List.mem_append.1 hz with hz | hz
      · exact n1 z hz
      · exact fun h => n2 z hz ((m1 z).2 (.inl h))
    · rw [List.nodup_append]
      exact ⟨d1, d2, fun p hp q hq e => by subst e; exact n2 p hq ((m1 p).2 (.inr hp))⟩

theorem mkBody_no : ∀ {u : Ty} (x : List u.T), (∀ t, u = .os t → t.flat = false) → mkBody u x = .arr u x
  | .os t, x, h => by simp only [mkBody, h t rfl]
  | .int _, _, _ => rfl
  | .bool, _, _ => rfl
  | .str, _, _ => rfl
  | .sl _, _, _ => rfl
  | .pair _ _, _, _ => rfl

/-- An owned slice put in. -/
theorem giveO_sim {s : S} (hs : StR s) {u : Ty} {x : List u.T} {w : Value} {ids : List Nat} (ho : OwnS s.N s.H s.lim u x w ids) (hl : ∀ z ∈ ids, s.Lim z) :
    ∃ s', s'.L = lpush s.L (mkBody u x) ∧ s'.H = s.H ∧ Keep s s' ∧ StR s' ∧ LR0 s' (.osl s.L.bl.length 0 none) w ∧ (∀ z, s.N z → s'.N z) ∧ (∀ z, s.Lim z → z ∉ ids → s'.Lim z) := by
  by_cases hu : ∃ t, u = .os t ∧ t.flat = true
  · obtain ⟨t, rfl, hf⟩ := hu
    have hmk : mkBody (.os t) x = .rows t x none := by simp only [mkBody, hf]
    rw [hmk]
    rcases ho with ⟨rfl, rfl, rfl⟩ | ⟨z, oo, k, ks, rfl, q0, rfl, q1, q2, q3, q4, q5, q6, q7, q8, Kf, q9, q10⟩
    · obtain ⟨s1, e1, e2, e3, k1, t1, l1, _, n1⟩ := hs.push0R t hf
      refine ⟨s1, e1, e2, k1, t1, ⟨by rw [e1, lpush_len]; omega, ?_⟩, n1, fun z hz _ => by rw [l1]; exact hz⟩
      rw [e3]; simp
    · have hz : s.Lim z := hl z (by simp)
      rw [show (Ty.os t).size = 1 from rfl, Nat.mul_one] at q4 q5 q10
      obtain ⟨s1, e1, e2, e3, k1, t1, l1, o1⟩ := hs.adoptR (.rows t x none) ⟨z, oo, 1, x.length⟩ hz Kf (fun y i e => ⟨hl y (by simp [q9 y i e]), fun h => q0 (by subst h; exact q9 _ i e), q8 y (q9 y i e)⟩) (fun s' hk hm hH hkid => by
        unfold BR; simp only [hm]
        refine ⟨trivial, hf, trivial, trivial, k, by rw [hH]; exact q1, q4, q2, by rw [hk.lim]; exact q3, fun i hi _ => ?_⟩
        obtain ⟨v, p1, p2⟩ := q10 i hi
        refine ⟨v, ?_, ?_⟩
        · rw [List.getElem?_take_of_lt hi, List.getElem?_drop] at p1; exact p1
        · rw [hk.lim]; exact p2.mono hf (fun y hy => ⟨hkid y i hy, by rw [hH]⟩))
      refine ⟨s1, e1, e2, k1, t1, ⟨by rw [e1, lpush_len]; omega, ?_⟩, fun z' hz' => ⟨fun h => hz'.1 ((o1 z').1 h), by rw [k1.ban]; exact hz'.2⟩, fun z' hz' hn => (l1 z').2 ⟨hz', fun e => hn (by simp [e]), ?_⟩⟩
      · rw [e3]; simp [Ty.size]
      · cases e : Kf z' with
        | none => rfl
        | some i => exact absurd (List.mem_cons_of_mem _ (q9 z' i e)) hn
  · have hno : ∀ t, u = .os t → t.flat = false := fun t e => by
      cases h : t.flat with
      | false => rfl
      | true => exact absurd ⟨t, e, h⟩ hu
    rw [mkBody_no x hno]
    rcases ho with ⟨rfl, rfl, rfl⟩ | ⟨z, oo, k, ks, rfl, q0, rfl, q1, q2, q3, q4, q5, q6⟩
    · obtain ⟨s1, e1, e2, e3, k1, t1, l1, n1⟩ := hs.push0 u
      refine ⟨s1, e1, e2, k1, t1, ⟨by rw [e1, lpush_len]; omega, ?_⟩, n1, fun z hz _ => by rw [l1]; exact hz⟩
      rw [e3]; simp
    · have hz : s.Lim z := hl z (by simp)
      obtain ⟨s1, e1, e2, e3, k1, t1, l1, o1⟩ := hs.adopt (.arr u x) ⟨z, oo, u.size, x.length⟩ hz (fun s' hk hm hH hNi => by
        unfold BR; simp only [hm]
        refine ⟨trivial, trivial, k, by rw [hH]; exact q1, q4, fun i hi => ?_, fun _ => ⟨q2, by rw [hk.lim]; exact q3⟩, fun e => absurd e (by decide)⟩
        have := q5.2 i hi
        have hmi := mul_lt (k := u.size) hi
        unfold seg at this; rw [List.drop_take, List.take_take, Nat.min_eq_left (by omega), List.drop_drop] at this
        rw [hH]; exact Rep.mono (fun z hz => (hNi z).2 hz) _ this)
      refine ⟨s1, e1, e2, k1, t1, ⟨by rw [e1, lpush_len]; omega, ?_⟩, fun z' hz' => ⟨fun h => hz'.1 ((o1 z').1 h), by rw [k1.ban]; exact hz'.2⟩, fun z' hz' hn => (l1 z').2 ⟨hz', fun e => hn (by simp [e])⟩⟩
      rw [e3]; simp

theorem giveC_get : ∀ (t : Ty) {x : t.T} {L : LS}, L.bl.length ≤ (giveC t x L).2.bl.length ∧ ∀ b, b < L.bl.length → lget (giveC t x L).2 b = lget L b
  | .int k, _, L => ⟨Nat.le_refl _, fun _ _ => rfl⟩
  | .bool, _, L => ⟨Nat.le_refl _, fun _ _ => rfl⟩
  | .str, _, L => ⟨Nat.le_refl _, fun _ _ => rfl⟩
  | .sl t, _, L => ⟨Nat.le_refl _, fun _ _ => rfl⟩
  | .os u, x, L => by
    simp only [giveC]
    exact ⟨by rw [lpush_len]; omega, fun b hb => lget_push hb⟩
  | .pair a c, x, L => by
    simp only [giveC]
    obtain ⟨a1, a2⟩ := giveC_get a (x := x.1) (L := L)
    obtain ⟨b1, b2⟩ := giveC_get c (x := x.2) (L := (giveC a x.1 L).2)
    exact ⟨Nat.le_trans a1 b1, fun b hb => by rw [b2 b (Nat.lt_of_lt_of_le hb a1), a2 b hb]⟩

/-- A value put in, with what it owns. -/
theorem giveC_sim : ∀ (t : Ty) {s : S} {x : t.T} {vs : List Value} {ids : List Nat}, StR s → RepO s.N s.H s.lim t x vs ids → (∀ z ∈ ids, s.Lim z) → ids.Nodup →
    ∃ s', s'.L = (giveC t x s.L).2 ∧ s'.H = s.H ∧ Keep s s' ∧ StR s' ∧ LRs s' (giveC t x s.L).1 vs ∧ (∀ z, s.N z → s'.N z) ∧ (∀ z, s.Lim z → z ∉ ids → s'.Lim z)
  | .int k, s, x, vs, ids, hs, hr, _, _ => ⟨s, rfl, rfl, Keep.refl s, hs, reify_rel (.int k) (Rep.mono (fun z hz => S.NN_clk hz) _ hr.2), fun _ h => h, fun _ h _ => h⟩
  | .bool, s, x, vs, ids, hs, hr, _, _ => ⟨s, rfl, rfl, Keep.refl s, hs, reify_rel .bool (Rep.mono (fun z hz => S.NN_clk hz) _ hr.2), fun _ h => h, fun _ h _ => h⟩
  | .str, s, x, vs, ids, hs, hr, _, _ => ⟨s, rfl, rfl, Keep.refl s, hs, reify_rel .str (Rep.mono (fun z hz => S.NN_clk hz) _ hr.2), fun _ h => h, fun _ h _ => h⟩
  | .sl t, s, x, vs, ids, hs, hr, _, _ => ⟨s, rfl, rfl, Keep.refl s, hs, reify_rel (.sl t) (Rep.mono (fun z hz => S.NN_clk hz) _ hr.2), fun _ h => h, fun _ h _ => h⟩
  | .os u, s, x, vs, ids, hs, hr, hl, hn => by
    obtain ⟨w, rfl, ho⟩ := hr
    obtain ⟨s1, a1, a2, a3, a4, a5, a6, a7⟩ := giveO_sim hs ho hl
    exact ⟨s1, a1, a2, a3, a4, ⟨a5, trivial⟩, a6, a7⟩
  | .pair a b, s, x, vs, ids, hs, hr, hl, hn => by
    obtain ⟨i, j, rfl, r1, r2⟩ := hr
    rw [List.nodup_append] at hn
    obtain ⟨n1, n2, n3⟩ := hn
    obtain ⟨s1, a1, a2, a3, a4, a5, a6, a7⟩ := giveC_sim a hs r1 (fun z hz => hl z (by simp [hz])) n1
    obtain ⟨s2, b1, b2, b3, b4, b5, b6, b7⟩ := giveC_sim b a4 (RepO.frame (H := s.H) (G := s1.H) (M := s1.N) (fun z hz _ => ⟨a6 z hz, by rw [a2]⟩) b (by rw [a3.lim]; exact r2) (fun z _ => by rw [a2])) (fun z hz => a7 z (hl z (by simp [hz])) (fun h => n3 z h z hz rfl)) n2
    simp only [giveC]
    rw [a1] at b1 b5
    refine ⟨s2, b1, b2.trans a2, a3.trans b3, b4, ?_, fun z hz => b6 z (a6 z hz), fun z hz hm => b7 z (a7 z hz (fun h => hm (by simp [h]))) (fun h => hm (by simp [h]))⟩
    have := All2.append (b3.LRs a5) b5
    rw [List.take_append_drop] at this
    exact this

theorem isVal_of {s : S} {t : Ty} {p : PV} {w : Value} (hr : ER s p w) (ho : okV p = true) (hs : shapeOk t p = true) : IsVal t w.cells.toList w := by
  have leaf : ∀ v, LR0 s p v → v.cells.toList = [v] := by
    intro v hv
    have := hv.cell
    cases v <;> first | rfl | simp [isCell] at this
  cases p with
  | tup cs => simp [okV] at ho
  | fn f a b => simp [okV] at ho
  | undef => simp [okV] at ho
  | agg cs =>
    obtain ⟨vs, rfl, _⟩ := hr
    cases t <;> first | rfl | simp [shapeOk] at hs
  | _ =>
    have := leaf w hr
    cases t <;> first | exact this | simp [shapeOk] at hs

/-- What is lent or moved, parameter by parameter. -/
def TM (s : S) (lim : Nat) : List (PM × Ty) → List PV → List Value → List (Option TV) → List (List Nat) → Prop
  | [], [], [], [], [] => True
  | (m, t) :: ps, p :: args, w :: ws, o :: os, ids :: idss => (match m with
      | .ro => o = none ∧ ids = []
      | .mv => ∃ x, o = some x ∧ x.1 = t ∧ HR s.N s.H lim .os x w ids ∧ ∀ z ∈ ids, s.Lim z
      | .io => ∃ x b u, o = some x ∧ x.1 = t ∧ t = .sl u ∧ p = .osl b 0 none ∧ HR s.N s.H lim .os x w ids ∧ ids = (match s.μ b with | none => [] | some m => [m.z])
      | .ps => ∃ x b m j, o = some x ∧ x.1 = t ∧ p = .ptr b 0 ∧ HR s.N s.H lim .cb x w ids ∧ s.μ b = some m ∧ ids = m.z :: j ∧ ∀ z ∈ j, s.Lim z) ∧ TM s lim ps args ws os idss
  | _, _, _, _, _ => False

theorem TM.keep {s s' : S} {lim : Nat} (hk : Keep s s') (hH : s'.H = s.H) (hu : s'.μ = s.μ) (hl : ∀ z, s.Lim z → s'.Lim z) : ∀ {ps : List (PM × Ty)} {args : List PV} {ws : List Value} {os : List (Option TV)} {idss : List (List Nat)}, TM s lim ps args ws os idss → TM s' lim ps args ws os idss
  | [], [], [], [], [], _ => trivial
  | (m, t) :: ps, p :: args, w :: ws, o :: os, ids :: idss, h => by
    have fr : ∀ {kd : Kd} {x : TV}, HR s.N s.H lim kd x w ids → HR s'.N s'.H lim kd x w ids := fun h => h.frame (fun z hz hlt => ⟨hk.N hlt hz, hk.fr z hlt hz.1⟩) (fun z _ => by rw [hH])
    refine ⟨?_, TM.keep hk hH hu hl h.2⟩
    have h1 := h.1
    cases m with
    | ro => exact h1
    | mv => obtain ⟨x, a, b, c, d⟩ := h1; exact ⟨x, a, b, fr c, fun z hz => hl z (d z hz)⟩
    | io => obtain ⟨x, b, u, a1, a2, a3, a4, a5, a6⟩ := h1; exact ⟨x, b, u, a1, a2, a3, a4, fr a5, by rw [hu]; exact a6⟩
    | ps => obtain ⟨x, b, m, j, a1, a2, a3, a4, a5, a6, a7⟩ := h1; exact ⟨x, b, m, j, a1, a2, a3, fr a4, by rw [hu]; exact a5, a6, fun z hz => hl z (a7 z hz)⟩

/-- What is lent is owned at the end. -/
def LentLive (s : S) : List (PM × Ty) → List PV → Prop
  | [], _ => True
  | (.io, _) :: ps, .osl b _ _ :: args => (∃ B, lget s.L b = some B ∧ B.rw = true) ∧ LentLive s ps args
  | (.ps, _) :: ps, .ptr b _ :: args => (∃ B, lget s.L b = some B ∧ B.rw = true) ∧ LentLive s ps args
  | _ :: ps, _ :: args => LentLive s ps args
  | _ :: _, [] => True

theorem contains_not {l : List Nat} {b : Nat} (h : l.contains b = false) : b ∉ l := by
  intro hm; rw [List.contains_iff_mem.2 hm] at h; simp at h

theorem takeM_sim : ∀ {ps : List (PM × Ty)} {args : List PV} {ws : List Value} {lent lent' : List Nat} {s : S} {os : List (Option TV)} {L1 : LS}, StR s → All2 (ER s) args ws → takeM ps args lent s.L = some (os, lent', L1) →
    ∃ s1 idss, s1.L = L1 ∧ s1.H = s.H ∧ s1.μ = s.μ ∧ Keep s s1 ∧ StR s1 ∧ (∀ z, Own s1 z → Own s z) ∧ (∀ z, s.Lim z → s1.Lim z) ∧ TM s1 s.lim ps args ws os idss ∧ (∀ b, b ∈ lent → b ∈ lent') ∧
      ∀ s2, Keep s1 s2 → (∀ z, s1.Lim z → s2.Lim z) → StR s2 → s2.μ = s.μ → LentLive s2 ps args → idss.flatten.Nodup ∧ ∀ z ∈ idss.flatten, (s2.Lim z ∧ ¬ s.Lim z) ∨ ∃ b B m, b ∉ lent ∧ b ∈ lent' ∧ lget s2.L b = some B ∧ B.rw = true ∧ s2.μ b = some m ∧ m.z = z
  | [], [], [], lent, lent', s, os, L1, hs, _, h => by
    simp [takeM] at h; obtain ⟨rfl, rfl, rfl⟩ := h
    exact ⟨s, [], rfl, rfl, rfl, Keep.refl s, hs, fun _ h => h, fun _ h => h, trivial, fun _ h => h, fun s2 _ _ _ _ _ => by simp⟩
  | (m, t) :: ps, p :: args, w :: ws, lent, lent', s, os, L1, hs, hr, h => by
    obtain ⟨hr1, hr2⟩ := hr
    simp only [takeM] at h
    have mvcase : ∀ (hm : m = .mv), (obind (outOne true t p s.L) fun x => obind (takeM ps args lent x.2) fun r => some (some x.1 :: r.1, r.2.1, r.2.2)) = some (os, lent', L1) → ∃ s1 idss, s1.L = L1 ∧ s1.H = s.H ∧ s1.μ = s.μ ∧ Keep s s1 ∧ StR s1 ∧ (∀ z, Own s1 z → Own s z) ∧ (∀ z, s.Lim z → s1.Lim z) ∧ TM s1 s.lim ((m, t) :: ps) (p :: args) (w :: ws) os idss ∧ (∀ b, b ∈ lent → b ∈ lent') ∧
      ∀ s2, Keep s1 s2 → (∀ z, s1.Lim z → s2.Lim z) → StR s2 → s2.μ = s.μ → LentLive s2 ((m, t) :: ps) (p :: args) → idss.flatten.Nodup ∧ ∀ z ∈ idss.flatten, (s2.Lim z ∧ ¬ s.Lim z) ∨ ∃ b B m, b ∉ lent ∧ b ∈ lent' ∧ lget s2.L b = some B ∧ B.rw = true ∧ s2.μ b = some m ∧ m.z = z := by
      clear h
      intro hm h
      subst hm
      replace h := ob h; obtain ⟨⟨x, L2⟩, h1, h⟩ := h
      replace h := ob h; obtain ⟨⟨os', lt', L3⟩, h2, h⟩ := h
      simp at h; obtain ⟨rfl, rfl, rfl⟩ := h
      obtain ⟨hx, s1, ids, l1, g1, u1, k1, t1, hh, hl, hnl, hnd, ho⟩ := outOne_own hs hr1 h1
      simp only at h2
      rw [← l1] at h2
      obtain ⟨s2, idss, l2, g2, u2, k2, t2, o2, m2, tm2, sub2, nd2⟩ := takeM_sim t1 (All2.mono (fun _ _ => k1.ER) hr2) h2
      have hlim : s1.lim = s.lim := k1.lim
      refine ⟨s2, ids :: idss, l2, g2.trans g1, u2.trans u1, k1.trans k2, t2, fun z hz => (ho z).1 (o2 z hz), fun z hz => m2 z ((hl z).2 (.inl hz)), ⟨⟨x, rfl, hx, hh.frame (fun z hz hlt => ⟨k2.N hlt hz, k2.fr z hlt hz.1⟩) (fun z _ => by rw [g2]), fun z hz => m2 z ((hl z).2 (.inr hz))⟩, by rw [← hlim]; exact tm2⟩, sub2, ?_⟩
      intro s3 k3 m3 t3 u3 hll
      obtain ⟨n1, n2⟩ := nd2 s3 k3 m3 t3 (u3.trans u1.symm) hll
      refine ⟨?_, fun z hz => ?_⟩
      · rw [List.flatten_cons, List.nodup_append]
        refine ⟨hnd, n1, fun a ha b hb e => ?_⟩
        subst e
        have hla : s1.Lim a := (hl a).2 (.inr ha)
        rcases n2 a hb with ⟨_, h5⟩ | ⟨b', B, mm, _, _, h6, h7, h8, rfl⟩
        · exact h5 hla
        · exact t3.lm b' B mm h6 h8 (m3 _ (m2 _ hla))
      · rw [List.flatten_cons, List.mem_append] at hz
        rcases hz with hz | hz
        · exact .inl ⟨m3 z (m2 z ((hl z).2 (.inr hz))), hnl z hz⟩
        · rcases n2 z hz with ⟨h4, h5⟩ | h6
          · exact .inl ⟨h4, fun h => h5 ((hl z).2 (.inl h))⟩
          · exact .inr h6
    cases m with
    | ro =>
      simp only at h
      replace h := ob h; obtain ⟨⟨os', lt', L3⟩, h2, h⟩ := h
      simp at h; obtain ⟨rfl, rfl, rfl⟩ := h
      obtain ⟨s2, idss, l2, g2, u2, k2, t2, o2, m2, tm2, sub2, nd2⟩ := takeM_sim hs hr2 h2
      refine ⟨s2, [] :: idss, l2, g2, u2, k2, t2, o2, m2, ⟨⟨rfl, rfl⟩, tm2⟩, sub2, fun s3 k3 m3 t3 u3 hll => ?_⟩
      simpa using nd2 s3 k3 m3 t3 u3 hll
    | mv =>
      simp only at h
      split at h
      · split at h
        · simp at h
        · exact mvcase rfl h
      · split at h
        · simp at h
        · exact mvcase rfl h
      · exact mvcase rfl h
    | io =>
      simp only at h
      split at h
      · rename_i u b
        split at h
        · simp at h
        · rename_i hnc
          have hnc := contains_not hnc
          replace h := ob h; obtain ⟨x, h1, h⟩ := h
          replace h := ob h; obtain ⟨⟨os', lt', L3⟩, h2, h⟩ := h
          simp at h; obtain ⟨rfl, rfl, rfl⟩ := h
          obtain ⟨s2, idss, l2, g2, u2, k2, t2, o2, m2, tm2, sub2, nd2⟩ := takeM_sim hs hr2 h2
          unfold outAb at h1
          split at h1
          · rename_i ver wt xs hb
            split at h1
            · simp at h1
            rename_i hno0
            have hno : ∀ t, wt ≠ .os t := fun t e => by subst e; simp [Ty.isOs] at hno0
            replace h1 := ob h1; obtain ⟨y, h3, h1⟩ := h1
            simp at h1; subst h1
            have e0 := tcast_eq h3
            injection e0 with e0; subst e0
            have := tcast_self h3; subst this
            have hr1 : LR0 s (.osl b 0 none) w := hr1
            obtain ⟨hlb, hr1⟩ := hr1
            refine ⟨s2, (match s.μ b with | none => [] | some m => [m.z]) :: idss, l2, g2, u2, k2, t2, o2, m2, ⟨⟨_, b, wt, rfl, rfl, rfl, rfl, ?_, by rw [u2]⟩, tm2⟩, fun q hq => sub2 q (by simp [hq]), ?_⟩
            · cases hm : s.μ b with
              | none =>
                rw [hm] at hr1; obtain ⟨_, _, rfl⟩ := hr1
                have hx := arr_nil hs hb hm; subst hx
                exact ⟨wt, [], rfl, .inl ⟨rfl, rfl, rfl⟩⟩
              | some m =>
                rw [hm] at hr1; obtain ⟨g0, rfl⟩ := hr1
                obtain ⟨a1, a2, k, a3, a4, a5, a6, a7⟩ := arr_info hs hb hm
                refine ⟨wt, xs, rfl, .inr ⟨m.z, m.sh, k, [], rfl, by simp, by simp [a1, a2], by rw [g2]; exact a3, (a6 rfl).1, (a6 rfl).2, arr_fit hs hb hm a3, (RL.ofBlk a4 a5).frame (fun z hz hl => ⟨k2.N hl hz, k2.fr z hl hz.1⟩), InR.ofNo hno⟩⟩
            · intro s3 k3 m3 t3 u3 hll
              obtain ⟨⟨B, hB1, hB2⟩, hll⟩ := hll
              obtain ⟨n1, n2⟩ := nd2 s3 k3 m3 t3 u3 hll
              have hbl : b ∈ lt' := sub2 b (by simp)
              cases hm : s.μ b with
              | none =>
                simp only [List.flatten_cons, List.nil_append]
                refine ⟨n1, fun z hz => ?_⟩
                rcases n2 z hz with h6 | ⟨b', B', mm, h5, h6⟩
                · exact .inl h6
                · exact .inr ⟨b', B', mm, fun h => h5 (by simp [h]), h6⟩
              | some m =>
                have hm3 : s3.μ b = some m := by rw [u3]; exact hm
                refine ⟨?_, fun z hz => ?_⟩
                · rw [List.flatten_cons, List.nodup_append]
                  refine ⟨by simp, n1, fun a ha q hq e => ?_⟩
                  simp at ha; subst ha; subst e
                  rcases n2 _ hq with ⟨h5, _⟩ | ⟨b', B', mm, h5, _, h6, h7, h8, h9⟩
                  · exact t3.lm b B m hB1 hm3 h5
                  · have := t3.inj b' b B' B mm m h6 hB1 h7 h8 hm3 h9
                    exact h5 (by simp [this])
                · rw [List.flatten_cons, List.mem_append] at hz
                  rcases hz with hz | hz
                  · simp at hz; subst hz
                    exact .inr ⟨b, B, m, hnc, hbl, hB1, hB2, hm3, rfl⟩
                  · rcases n2 z hz with h6 | ⟨b', B', mm, h5, h6⟩
                    · exact .inl h6
                    · exact .inr ⟨b', B', mm, fun h => h5 (by simp [h]), h6⟩
          · simp at h1
      · simp at h
    | ps =>
      simp only at h
      split at h
      · rename_i b
        split at h
        · simp at h
        · rename_i hnc
          have hnc := contains_not hnc
          replace h := ob h; obtain ⟨⟨x, L2⟩, h1, h⟩ := h
          replace h := ob h; obtain ⟨⟨os', lt', L3⟩, h2, h⟩ := h
          simp at h; obtain ⟨rfl, rfl, rfl⟩ := h
          unfold outCo at h1
          split at h1
          · rename_i ver cs hb
            replace h1 := ob h1; obtain ⟨⟨y, L4⟩, h3, h1⟩ := h1
            simp at h1; obtain ⟨rfl, rfl⟩ := h1
            have hB := hs.blk b _ hb
            unfold BR at hB; simp only at hB
            obtain ⟨_, m, k, hm, hsh, hk, hcs, hro, hlm⟩ := hB
            obtain ⟨s1, j, l1, g1, u1, k1, t1, rr1, li1, nl1, nd1, o1⟩ := takeC_sim t hs hcs h3
            simp only at h2
            rw [← l1] at h2
            obtain ⟨s2, idss, l2, g2, u2, k2, t2, o2, m2, tm2, sub2, nd2⟩ := takeM_sim t1 (All2.mono (fun _ _ => k1.ER) hr2) h2
            have hlim : s1.lim = s.lim := k1.lim
            have hr1 : LR0 s (.ptr b 0) w := hr1
            obtain ⟨hlb, m', hm', _, rfl⟩ := hr1
            rw [hm] at hm'; injection hm' with hm'; subst hm'
            have hgH : s2.H = s.H := g2.trans g1
            refine ⟨s2, (m.z :: j) :: idss, l2, hgH, u2.trans u1, k1.trans k2, t2, fun z hz => o1 z (o2 z hz), fun z hz => m2 z ((li1 z).2 (.inl hz)), ⟨⟨_, b, m, j, rfl, rfl, rfl, ⟨m.z, k, j, rfl, rfl, by rw [hgH]; exact hk, hro, hlm, RepO.frame (fun z hz hlt => ⟨k2.N hlt hz, by rw [g2]⟩) t rr1 (fun z _ => by rw [g2])⟩, by rw [u2, u1]; exact hm, rfl, fun z hz => m2 z ((li1 z).2 (.inr hz))⟩, by rw [← hlim]; exact tm2⟩, fun q hq => sub2 q (by simp [hq]), ?_⟩
            intro s3 k3 m3 t3 u3 hll
            obtain ⟨⟨B, hB1, hB2⟩, hll⟩ := hll
            obtain ⟨n1, n2⟩ := nd2 s3 k3 m3 t3 (u3.trans u1.symm) hll
            have hbl : b ∈ lt' := sub2 b (by simp)
            have hm3 : s3.μ b = some m := by rw [u3]; exact hm
            have hmj : m.z ∉ j := fun h => t3.lm b B m hB1 hm3 (m3 _ (m2 _ ((li1 _).2 (.inr h))))
            refine ⟨?_, fun z hz => ?_⟩
            · rw [List.flatten_cons, List.nodup_append]
              refine ⟨List.nodup_cons.2 ⟨hmj, nd1⟩, n1, fun a ha q hq e => ?_⟩
              subst e
              rcases List.mem_cons.1 ha with rfl | ha
              · rcases n2 _ hq with ⟨h5, _⟩ | ⟨b', B', mm, h5, _, h6, h7, h8, h9⟩
                · exact t3.lm b B m hB1 hm3 h5
                · have := t3.inj b' b B' B mm m h6 hB1 h7 h8 hm3 h9
                  exact h5 (by simp [this])
              · have hla : s1.Lim a := (li1 a).2 (.inr ha)
                rcases n2 _ hq with ⟨_, h5⟩ | ⟨b', B', mm, _, _, h6, h7, h8, rfl⟩
                · exact h5 hla
                · exact t3.lm b' B' mm h6 h8 (m3 _ (m2 _ hla))
            · rw [List.flatten_cons, List.mem_append] at hz
              rcases hz with hz | hz
              · rcases List.mem_cons.1 hz with rfl | hz
                · exact .inr ⟨b, B, m, hnc, hbl, hB1, hB2, hm3, rfl⟩
                · exact .inl ⟨m3 z (m2 z ((li1 z).2 (.inr hz))), nl1 z hz⟩
              · rcases n2 z hz with ⟨h6, h7⟩ | ⟨b', B', mm, h5, h6⟩
                · exact .inl ⟨h6, fun h => h7 ((li1 z).2 (.inl h))⟩
                · exact .inr ⟨b', B', mm, fun h => h5 (by simp [h]), h6⟩
          · simp at h1
      · simp at h
  | [], _ :: _, _, _, _, _, _, _, _, _, h => by simp [takeM] at h
  | _ :: _, [], _, _, _, _, _, _, _, _, h => by simp [takeM] at h

end Go.Pv

set_option linter.all false
namespace Go.Pv
open Go.Ev

/-- What is handed over to be read, parameter by parameter. -/
def TR (s : S) (al : Bool) (lent : List Nat) : List (PM × Ty) → List Value → List (Option TV) → List TV → Prop
  | [], [], [], [] => True
  | (_, t) :: ps, w :: ws, o :: os, v :: vs => (match o with
      | some x => v = x
      | none => v.1 = t ∧ v.1.hasOs = false ∧ ∃ cs, IsVal v.1 cs w ∧ (al = true → Rep s.N s.H v.1 v.2 cs) ∧
        (al = false → ∀ M : Nat → Prop, (∀ z, s.N z → M z) → (∀ b m B, b ∉ lent → lget s.L b = some B → s.μ b = some m → M m.z) → (∀ z b i, b ∉ lent → s.Kid z = some (b, i) → M z) → Rep M s.H v.1 v.2 cs)) ∧ TR s al lent ps ws os vs
  | _, _, _, _ => False

theorem takeR_sim {al : Bool} {lent : List Nat} : ∀ {ps : List (PM × Ty)} {args : List PV} {ws : List Value} {os : List (Option TV)} {s : S} {vs : List TV} {L2 : LS}, StR s → All2 (ER s) args ws → takeR al lent ps args os s.L = some (vs, L2) →
    ∃ s2, s2.L = L2 ∧ s2.H = s.H ∧ s2.μ = s.μ ∧ Keep s s2 ∧ StR s2 ∧ (∀ z, Own s2 z → Own s z) ∧ s2.Lim = s.Lim ∧ (al = false → s2 = s) ∧ TR s2 al lent ps ws os vs
  | [], [], [], [], s, vs, L2, hs, _, h => by
    simp [takeR] at h; obtain ⟨rfl, rfl⟩ := h
    exact ⟨s, rfl, rfl, rfl, Keep.refl s, hs, fun _ h => h, rfl, fun _ => rfl, trivial⟩
  | (m, t) :: ps, p :: args, w :: ws, o :: os, s, vs, L2, hs, hr, h => by
    obtain ⟨hr1, hr2⟩ := hr
    simp only [takeR] at h
    cases o with
    | some x =>
      simp only at h
      replace h := ob h; obtain ⟨⟨vs', L3⟩, h2, h⟩ := h
      simp at h; obtain ⟨rfl, rfl⟩ := h
      obtain ⟨s2, a1, a2, a3, a4, a5, a6, a7, a8, a9⟩ := takeR_sim hs hr2 h2
      exact ⟨s2, a1, a2, a3, a4, a5, a6, a7, a8, rfl, a9⟩
    | none =>
      simp only at h
      split at h
      · rename_i hok
        simp only [Bool.and_eq_true] at hok
        replace h := ob h; obtain ⟨⟨x, L3⟩, h1, h⟩ := h
        replace h := ob h; obtain ⟨⟨vs', L4⟩, h2, h⟩ := h
        simp at h; obtain ⟨rfl, rfl⟩ := h
        have hc := hr1.cells hok.2.1
        have hv := isVal_of (t := t) hr1 hok.2.1 hok.2.2
        cases al with
        | true =>
          obtain ⟨s1, l1, g1, u1, k1, t1, rr1, o1, li1⟩ := refl_fz t hs hc h1
          simp only at h2
          rw [← l1] at h2
          obtain ⟨s2, a1, a2, a3, a4, a5, a6, a7, a8, a9⟩ := takeR_sim t1 (All2.mono (fun _ _ => k1.ER) hr2) h2
          exact ⟨s2, a1, a2.trans g1, a3.trans u1, k1.trans a4, a5, fun z hz => o1 z (a6 z hz), a7.trans li1, by simp, ⟨rfl, refl_noOs t h1, _, hv, fun _ => a4.repN rr1, by simp⟩, a9⟩
        | false =>
          have hL : L3 = s.L := (refl_any hs t hc h1).1
          simp only at h2
          rw [hL] at h2
          obtain ⟨s2, a1, a2, a3, a4, a5, a6, a7, a8, a9⟩ := takeR_sim hs hr2 h2
          have hss := a8 rfl
          refine ⟨s2, a1, a2, a3, a4, a5, a6, a7, a8, ⟨rfl, refl_noOs t h1, _, hv, by simp, fun _ M hM hB hKi => ?_⟩, a9⟩
          rw [hss] at hM hB hKi ⊢
          refine (refl_M hs hM t (fun b off n m B hmem hb hm => hB b m B ?_ hb hm) (fun q hq b z i hp hz => hKi z b i ?_ hz) hc h1).2
          · have := List.all_eq_true.1 hok.1 _ hmem
            simp only [Bool.not_eq_true'] at this
            exact contains_not this
          · have := List.all_eq_true.1 hok.1 _ hq
            rcases hp with ⟨off, n, rfl⟩ | ⟨j, ver, t', x', rfl⟩
            · simp only [Bool.not_eq_true'] at this
              exact contains_not this
            · simp only [Bool.not_eq_true'] at this
              exact contains_not this
      · simp at h
  | [], _ :: _, _, _, _, _, _, _, _, h => by simp [takeR] at h
  | _ :: _, [], _, _, _, _, _, _, _, h => by simp [takeR] at h
  | _ :: _, _ :: _, _, [], _, _, _, _, _, h => by simp [takeR] at h
  | [], [], _, _ :: _, _, _, _, _, _, h => by simp [takeR] at h

/-- All that is handed over. -/
theorem handed {s : S} {lim : Nat} {al : Bool} {lent : List Nat} {M : Nat → Prop} (hM : ∀ z, s.N z → M z) (hB : al = false → ∀ b m B, b ∉ lent → lget s.L b = some B → s.μ b = some m → M m.z) (hKi : al = false → ∀ z b i, b ∉ lent → s.Kid z = some (b, i) → M z) :
    ∀ {ps : List (PM × Ty)} {args : List PV} {ws : List Value} {os : List (Option TV)} {idss : List (List Nat)} {vs : List TV}, TM s lim ps args ws os idss → TR s al lent ps ws os vs → HRs M s.H lim (ps.map fun p => p.1.kd) vs ws idss
  | [], [], [], [], [], [], _, _ => trivial
  | (m, t) :: ps, p :: args, w :: ws, o :: os, ids :: idss, v :: vs, h, g => by
    refine ⟨?_, handed hM hB hKi h.2 g.2⟩
    have h1 := h.1; have g1 := g.1
    have fr : ∀ {kd : Kd} {x : TV}, HR s.N s.H lim kd x w ids → HR M s.H lim kd x w ids := fun h => h.frame (fun z hz hlt => ⟨hM z hz, rfl⟩) (fun z _ => rfl)
    cases m with
    | ro =>
      obtain ⟨rfl, rfl⟩ := h1
      obtain ⟨rfl, c0, cs, c1, c2, c3⟩ := g1
      refine ⟨cs, c1, RepO.of _ c0 ?_⟩
      cases al with
      | true => exact Rep.mono hM _ (c2 rfl)
      | false => exact c3 rfl M hM (hB rfl) (hKi rfl)
    | mv => obtain ⟨x, rfl, a2, a3, a4⟩ := h1; obtain rfl : v = x := g1; exact fr a3
    | io => obtain ⟨x, b, u, rfl, a2, a3, a4, a5, a6⟩ := h1; obtain rfl : v = x := g1; exact fr a5
    | ps => obtain ⟨x, b, m, j, rfl, a2, a3, a4, a5, a6, _⟩ := h1; obtain rfl : v = x := g1; exact fr a4

def lentOf : List (PM × Ty) → List PV → List Nat
  | (.io, _) :: ps, .osl b _ _ :: args => b :: lentOf ps args
  | (.ps, _) :: ps, .ptr b _ :: args => b :: lentOf ps args
  | _ :: ps, _ :: args => lentOf ps args
  | _, _ => []

theorem takeM_lent : ∀ {ps : List (PM × Ty)} {args : List PV} {lent lent' : List Nat} {L L1 : LS} {os : List (Option TV)}, takeM ps args lent L = some (os, lent', L1) → (lentOf ps args).Nodup ∧ (∀ b ∈ lentOf ps args, b ∉ lent) ∧ (∀ b, b ∈ lent' ↔ b ∈ lent ∨ b ∈ lentOf ps args)
  | [], [], lent, lent', L, L1, os, h => by
    simp [takeM] at h; obtain ⟨rfl, rfl, rfl⟩ := h; simp [lentOf]
  | (m, t) :: ps, p :: args, lent, lent', L, L1, os, h => by
    simp only [takeM] at h
    cases m with
    | ro =>
      simp only at h
      replace h := ob h; obtain ⟨⟨os', lt', L3⟩, h2, h⟩ := h
      simp at h; obtain ⟨rfl, rfl, rfl⟩ := h
      have : lentOf ((.ro, t) :: ps) (p :: args) = lentOf ps args := by cases p <;> rfl
      rw [this]; exact takeM_lent h2
    | mv =>
      have : lentOf ((.mv, t) :: ps) (p :: args) = lentOf ps args := by cases p <;> rfl
      rw [this]
      have key : ∀ {q : PV}, (obind (outOne true t q L) fun x => obind (takeM ps args lent x.2) fun r => some (some x.1 :: r.1, r.2.1, r.2.2)) = some (os, lent', L1) → (lentOf ps args).Nodup ∧ (∀ b ∈ lentOf ps args, b ∉ lent) ∧ (∀ b, b ∈ lent' ↔ b ∈ lent ∨ b ∈ lentOf ps args) := by
        clear h
        intro q h
        replace h := ob h; obtain ⟨x, h1, h⟩ := h
        replace h := ob h; obtain ⟨⟨os', lt', L3⟩, h2, h⟩ := h
        simp at h; obtain ⟨rfl, rfl, rfl⟩ := h
        exact takeM_lent h2
      simp only at h
      split at h
      · split at h
        · simp at h
        · exact key h
      · split at h
        · simp at h
        · exact key h
      · exact key h
    | io =>
      simp only at h
      split at h
      · rename_i u b
        split at h
        · simp at h
        · rename_i hnc
          have hnc := contains_not hnc
          replace h := ob h; obtain ⟨x, h1, h⟩ := h
          replace h := ob h; obtain ⟨⟨os', lt', L3⟩, h2, h⟩ := h
          simp at h; obtain ⟨rfl, rfl, rfl⟩ := h
          obtain ⟨a1, a2, a3⟩ := takeM_lent h2
          simp only [lentOf]
          refine ⟨List.nodup_cons.2 ⟨fun hb => a2 b hb (by simp), a1⟩, fun q hq => ?_, fun q => ?_⟩
          · rcases List.mem_cons.1 hq with rfl | hq
            · exact hnc
            · exact fun h => a2 q hq (by simp [h])
          · rw [a3]; simp only [List.mem_cons]; constructor
            · rintro ((rfl | h) | h) <;> simp_all
            · rintro (h | rfl | h) <;> simp_all
      · simp at h
    | ps =>
      simp only at h
      split at h
      · rename_i b
        split at h
        · simp at h
        · rename_i hnc
          have hnc := contains_not hnc
          replace h := ob h; obtain ⟨x, h1, h⟩ := h
          replace h := ob h; obtain ⟨⟨os', lt', L3⟩, h2, h⟩ := h
          simp at h; obtain ⟨rfl, rfl, rfl⟩ := h
          obtain ⟨a1, a2, a3⟩ := takeM_lent h2
          simp only [lentOf]
          refine ⟨List.nodup_cons.2 ⟨fun hb => a2 b hb (by simp), a1⟩, fun q hq => ?_, fun q => ?_⟩
          · rcases List.mem_cons.1 hq with rfl | hq
            · exact hnc
            · exact fun h => a2 q hq (by simp [h])
          · rw [a3]; simp only [List.mem_cons]; constructor
            · rintro ((rfl | h) | h) <;> simp_all
            · rintro (h | rfl | h) <;> simp_all
      · simp at h
  | [], _ :: _, _, _, _, _, _, h => by simp [takeM] at h
  | _ :: _, [], _, _, _, _, _, h => by simp [takeM] at h

/-- A lent block before and after the call. -/
def OutB (L L' : LS) (b : Nat) (B B' : VB) : Prop := lget L b = some B ∧ B.rw = true ∧ lget L' b = some B' ∧ B'.rw = true ∧ B'.ver = B.ver + 1

theorem inAb_some {b : Nat} {v : TV} {L L' : LS} (h : inAb b v L = some L') : ∃ n u xs x, lget L b = some ⟨n, true, .arr u xs⟩ ∧ v = ⟨.sl u, x⟩ ∧ L' = lset L b ⟨n + 1, true, .arr u x⟩ := by
  unfold inAb at h
  split at h
  · rename_i n u xs t x hb
    split at h
    · rename_i he
      have := Ty.beq_eq he; subst this
      simp at h; exact ⟨n, u, xs, x, hb, rfl, h.symm⟩
    · simp at h
  · simp at h

theorem inCb_some {b : Nat} {v : TV} {L L' : LS} (h : inCb b v L = some L') : ∃ n cs, lget L b = some ⟨n, true, .cells cs⟩ ∧ cs.length = v.1.size ∧ L' = lset L b ⟨n + 1, true, .cells (reify L.clk v.1 v.2)⟩ := by
  unfold inCb at h
  split at h
  · rename_i n cs hb
    split at h
    · rename_i he
      simp at h; exact ⟨n, cs, hb, Nat.eq_of_beq_eq_true he, h.symm⟩
    · simp at h
  · simp at h

theorem inOuts_facts : ∀ {ps : List (PM × Ty)} {args : List PV} {vs : List TV} {L L' : LS}, inOuts ps args vs L = some L' → (lentOf ps args).Nodup →
    L'.bl.length = L.bl.length ∧ L'.clk = L.clk ∧ (∀ c, c ∉ lentOf ps args → lget L' c = lget L c) ∧ (∀ c ∈ lentOf ps args, ∃ B B', OutB L L' c B B')
  | [], [], [], L, L', h, _ => by
    simp [inOuts] at h; subst h; simp [lentOf]
  | (m, t) :: ps, p :: args, vs, L, L', h, hn => by
    cases m with
    | io =>
      simp only [inOuts] at h
      split at h
      · rename_i b v vs'
        replace h := ob h; obtain ⟨L1, h1, h⟩ := h
        simp only [lentOf] at hn ⊢
        obtain ⟨hn1, hn2⟩ := List.nodup_cons.1 hn
        obtain ⟨a1, a2, a3, a4⟩ := inOuts_facts h hn2
        obtain ⟨n', u, xs, x, g1, g2, rfl⟩ := inAb_some h1
        have hlb := lget_lt g1
        refine ⟨by rw [a1, lset_len], a2, fun c hc => ?_, fun c hc => ?_⟩
        · simp only [List.mem_cons, not_or] at hc
          rw [a3 c hc.2, lget_set_ne (Ne.symm hc.1)]
        · rcases List.mem_cons.1 hc with rfl | hc
          · exact ⟨_, _, g1, rfl, by rw [a3 c hn1, lget_set_self hlb], rfl, rfl⟩
          · obtain ⟨B, B', b1, b2, b3⟩ := a4 c hc
            have hne : b ≠ c := fun e => hn1 (e ▸ hc)
            rw [lget_set_ne hne] at b1
            exact ⟨B, B', b1, b2, b3⟩
      · simp at h
    | ps =>
      simp only [inOuts] at h
      split at h
      · rename_i b off v vs'
        replace h := ob h; obtain ⟨L1, h1, h⟩ := h
        simp only [lentOf] at hn ⊢
        obtain ⟨hn1, hn2⟩ := List.nodup_cons.1 hn
        obtain ⟨a1, a2, a3, a4⟩ := inOuts_facts h hn2
        obtain ⟨n', cs, g1, g2, rfl⟩ := inCb_some h1
        have hlb := lget_lt g1
        refine ⟨by rw [a1, lset_len], a2, fun c hc => ?_, fun c hc => ?_⟩
        · simp only [List.mem_cons, not_or] at hc
          rw [a3 c hc.2, lget_set_ne (Ne.symm hc.1)]
        · rcases List.mem_cons.1 hc with rfl | hc
          · exact ⟨_, _, g1, rfl, by rw [a3 c hn1, lget_set_self hlb], rfl, rfl⟩
          · obtain ⟨B, B', b1, b2, b3⟩ := a4 c hc
            have hne : b ≠ c := fun e => hn1 (e ▸ hc)
            rw [lget_set_ne hne] at b1
            exact ⟨B, B', b1, b2, b3⟩
      · simp at h
    | ro =>
      simp only [inOuts] at h
      have : lentOf ((.ro, t) :: ps) (p :: args) = lentOf ps args := by cases p <;> rfl
      rw [this] at hn ⊢; exact inOuts_facts h hn
    | mv =>
      simp only [inOuts] at h
      have : lentOf ((.mv, t) :: ps) (p :: args) = lentOf ps args := by cases p <;> rfl
      rw [this] at hn ⊢; exact inOuts_facts h hn
  | [], _ :: _, _, _, _, h, _ => by simp [inOuts] at h
  | [], [], _ :: _, _, _, h, _ => by simp [inOuts] at h
  | _ :: _, [], _, _, _, h, _ => by simp [inOuts] at h

/-- The content of a block that changes in place. -/
def CB (s : S) (lim b : Nat) (v : TV) (j : List Nat) : Prop := (∃ m k, s.μ b = some m ∧ m.sh = 0 ∧ hget s.H m.z = some k ∧ k.ro = false ∧ lim ≤ m.z ∧ RepO s.N s.H lim v.1 v.2 k.cells j) ∧ ∀ z ∈ j, s.Lim z
theorem CB.keep {s s' : S} {lim b : Nat} {v : TV} {j : List Nat} (hk : Keep s s') (hb : b < s.L.bl.length) (hH : s'.H = s.H) (hl : ∀ z, s.Lim z → s'.Lim z) (h : CB s lim b v j) : CB s' lim b v j := by
  obtain ⟨⟨m, k, h1, h2, h3, h4, h5, h6⟩, h7⟩ := h
  exact ⟨⟨m, k, by rw [hk.mu b hb]; exact h1, h2, by rw [hH]; exact h3, h4, h5, RepO.frame (fun z hz hlt => ⟨hk.N hlt hz, by rw [hH]⟩) _ h6 (fun z _ => by rw [hH])⟩, fun z hz => hl z (h7 z hz)⟩

theorem set_same {H : Heap} {z : Nat} {k : Blk} (h : hget H z = some k) : H.set z (some k) = H := by
  have hz := hget_lt h
  apply List.ext_getElem? 
  intro i
  by_cases e : z = i
  · subst e
    rw [List.getElem?_set_self hz]
    unfold hget at h
    split at h
    · rename_i q hq; rw [hq]; injection h with h; rw [h]
    · simp at h
  · rw [List.getElem?_set_ne e]

/-- What a block of cells owns put in. -/
theorem fillB_sim {s : S} (hs : StR s) {b : Nat} {v : TV} {j : List Nat} (hc : CB s s.lim b v j) (hn : j.Nodup) {L' : LS} (h : fillB b v s.L = some L') :
    ∃ s', s'.L = L' ∧ s'.H = s.H ∧ Keep s s' ∧ StR s' ∧ (∀ z, s.N z → s'.N z) ∧ (∀ z, s.Lim z → z ∉ j → s'.Lim z) := by
  unfold fillB at h
  split at h
  · injection h with h; subst h
    exact ⟨s, rfl, rfl, Keep.refl s, hs, fun _ h => h, fun _ h _ => h⟩
  · split at h
    · rename_i n cs hb
      injection h with h
      obtain ⟨⟨m, k, hm, hsh, hk, hro, hlm, hrep⟩, hl⟩ := hc
      obtain ⟨s1, a1, a2, a3, a4, a5, a6, a7⟩ := giveC_sim v.1 hs hrep hl hn
      have hlb := lget_lt hb
      have hb1 : lget s1.L b = some ⟨n, true, .cells cs⟩ := by rw [a1, (giveC_get v.1).2 b hlb]; exact hb
      have hm1 : s1.μ b = some m := by rw [a3.mu b hlb]; exact hm
      have hk1 : hget s1.H m.z = some k := by rw [a2]; exact hk
      obtain ⟨s2, b1, b2, b3, b4, b5, b6⟩ := a4.setL hb1 rfl hm1 ⟨n + 1, true, .cells (giveC v.1 v.2 s.L).1⟩ rfl rfl k (fun s' k' hm' hk' hN => by
        unfold BR; simp only
        exact ⟨trivial, m, k, hm', hsh, hk', k'.LRs a5, hro, by rw [k'.lim, a3.lim]; exact hlm⟩)
      rw [set_same hk1] at b2
      have hown : ∀ z, Own s2 z → Own s1 z ∨ s1.H.length ≤ z := b4.own
      refine ⟨s2, by rw [b1, a1]; exact h, b2.trans a2, a3.trans b4, b5, fun z hz => ?_, fun z hz hj => ?_⟩
      · have h1 := a6 z hz
        by_cases hlt : z < s1.H.length
        · exact b4.N hlt h1
        · refine ⟨fun ho => ?_, by rw [b4.ban]; exact h1.2⟩
          have := b5.own_lt ho
          rw [b2] at this; omega
      · rw [b6]; exact a7 z hz hj
    · simp at h

theorem CB.to {s s' : S} {lim b : Nat} {v : TV} {j : List Nat} (hb : s'.μ b = s.μ b) (hH : s'.H = s.H) (hN : ∀ z, s.N z → s'.N z) (hl : ∀ z ∈ j, s'.Lim z) (h : CB s lim b v j) : CB s' lim b v j := by
  obtain ⟨⟨m, k, h1, h2, h3, h4, h5, h6⟩, h7⟩ := h
  exact ⟨⟨m, k, by rw [hb]; exact h1, h2, by rw [hH]; exact h3, h4, h5, RepO.frame (fun z hz hlt => ⟨hN z hz, by rw [hH]⟩) _ h6 (fun z _ => by rw [hH])⟩, hl⟩

/-- What blocks of cells own, block by block. -/
def CBs (s : S) (lim : Nat) : List (Nat × TV) → List (List Nat) → Prop
  | [], [] => True
  | (b, v) :: r, j :: js => (b < s.L.bl.length ∧ CB s lim b v j) ∧ CBs s lim r js
  | _, _ => False

theorem CBs.to {s s' : S} {lim : Nat} (hk : Keep s s') (hH : s'.H = s.H) (hN : ∀ z, s.N z → s'.N z) : ∀ {l : List (Nat × TV)} {js : List (List Nat)}, (∀ z ∈ js.flatten, s'.Lim z) → CBs s lim l js → CBs s' lim l js
  | [], [], _, _ => trivial
  | (b, v) :: r, j :: js, hl, h => ⟨⟨Nat.lt_of_lt_of_le h.1.1 hk.nb, h.1.2.to (hk.mu b h.1.1) hH hN (fun z hz => hl z (by simp [hz]))⟩, CBs.to hk hH hN (fun z hz => hl z (by rw [List.flatten_cons, List.mem_append]; exact .inr hz)) h.2⟩

theorem fillL_sim : ∀ {l : List (Nat × TV)} {js : List (List Nat)} {s : S} {L' : LS}, StR s → CBs s s.lim l js → (∀ z ∈ js.flatten, s.Lim z) → js.flatten.Nodup → fillL l s.L = some L' →
    ∃ s', s'.L = L' ∧ s'.H = s.H ∧ Keep s s' ∧ StR s' ∧ (∀ z, s.N z → s'.N z) ∧ (∀ z, s.Lim z → z ∉ js.flatten → s'.Lim z)
  | [], js, s, L', hs, hd, hl, hn, h => by
    simp [fillL] at h; subst h
    exact ⟨s, rfl, rfl, Keep.refl s, hs, fun _ h => h, fun _ h _ => h⟩
  | (b, v) :: l, j :: js, s, L', hs, hd, hl, hn, h => by
    obtain ⟨⟨hb, hc⟩, hd2⟩ := hd
    rw [List.flatten_cons, List.nodup_append] at hn
    obtain ⟨n1, n2, n3⟩ := hn
    simp only [fillL] at h
    replace h := ob h; obtain ⟨L1, h1, h⟩ := h
    obtain ⟨s1, a1, a2, a3, a4, a5, a6⟩ := fillB_sim hs hc n1 h1
    rw [← a1] at h
    have hl2 : ∀ z ∈ js.flatten, s1.Lim z := fun z hz => a6 z (hl z (by rw [List.flatten_cons, List.mem_append]; exact .inr hz)) (fun hm => n3 z hm z hz rfl)
    obtain ⟨s2, b1, b2, b3, b4, b5, b6⟩ := fillL_sim a4 (by rw [a3.lim]; exact CBs.to a3 a2 a5 hl2 hd2) hl2 n2 h
    exact ⟨s2, b1, b2.trans a2, a3.trans b3, b4, fun z hz => b5 z (a5 z hz), fun z hz hm => by
      rw [List.flatten_cons, List.mem_append, not_or] at hm
      exact b6 z (a6 z hz hm.1) hm.2⟩
  | _ :: _, [], _, _, _, hd, _, _, _ => hd.elim

/-- The blocks that come back, and what those of cells own. -/
def headsOf : List (PM × Ty) → List (List Nat) → List Nat
  | (.io, _) :: ps, ids :: r => ids ++ headsOf ps r
  | (.ps, _) :: ps, ids :: r => ids.take 1 ++ headsOf ps r
  | (.ro, _) :: ps, r => headsOf ps r
  | (.mv, _) :: ps, r => headsOf ps r
  | _, _ => []

def tailsOf : List (PM × Ty) → List (List Nat) → List (List Nat)
  | (.io, _) :: ps, _ :: r => tailsOf ps r
  | (.ps, _) :: ps, ids :: r => ids.drop 1 :: tailsOf ps r
  | (.ro, _) :: ps, r => tailsOf ps r
  | (.mv, _) :: ps, r => tailsOf ps r
  | _, _ => []

theorem heads_tails {N : Nat → Prop} {H : Heap} {lim : Nat} : ∀ {ps : List (PM × Ty)} {vs : List TV} {ws : List Value} {oids : List (List Nat)}, HRs N H lim (outKd ps) vs ws oids →
    (∀ z, z ∈ oids.flatten ↔ z ∈ headsOf ps oids ∨ z ∈ (tailsOf ps oids).flatten) ∧ (oids.flatten.Nodup → (tailsOf ps oids).flatten.Nodup ∧ ∀ z ∈ headsOf ps oids, z ∉ (tailsOf ps oids).flatten)
  | [], [], [], [], _ => by simp [headsOf, tailsOf]
  | (m, t) :: ps, vs, ws, oids, h => by
    cases m with
    | ro => exact heads_tails (ps := ps) h
    | mv => exact heads_tails (ps := ps) h
    | io =>
      match vs, ws, oids, h with
      | v :: vs, w :: ws, ids :: oids, h =>
        obtain ⟨a1, a2⟩ := heads_tails (ps := ps) h.2
        simp only [headsOf, tailsOf, List.flatten_cons]
        refine ⟨fun z => ?_, fun hn => ?_⟩
        · rw [List.mem_append, List.mem_append, a1, or_assoc]
        · rw [List.nodup_append] at hn
          obtain ⟨b1, b2⟩ := a2 hn.2.1
          refine ⟨b1, fun z hz hz2 => ?_⟩
          rcases List.mem_append.1 hz with hz | hz
          · exact hn.2.2 z hz z ((a1 z).2 (.inr hz2)) rfl
          · exact b2 z hz hz2
    | ps =>
      match vs, ws, oids, h with
      | v :: vs, w :: ws, ids :: oids, h =>
        obtain ⟨a1, a2⟩ := heads_tails (ps := ps) h.2
        obtain ⟨z0, k, j, rfl, _⟩ := h.1
        simp only [headsOf, tailsOf, List.flatten_cons, List.take_succ_cons, List.take_zero, List.drop_succ_cons, List.drop_zero]
        refine ⟨fun z => ?_, fun hn => ?_⟩
        · simp only [List.mem_append, List.mem_cons, List.not_mem_nil, or_false]
          rw [a1 z]; constructor
          · rintro ((h | h) | (h | h)) <;> simp [h]
          · rintro ((h | h) | (h | h)) <;> simp [h]
        · rw [List.nodup_append] at hn
          obtain ⟨n1, n2, n3⟩ := hn
          obtain ⟨n4, n5⟩ := List.nodup_cons.1 n1
          obtain ⟨b1, b2⟩ := a2 n2
          refine ⟨?_, fun z hz hz2 => ?_⟩
          · rw [List.nodup_append]
            exact ⟨n5, b1, fun p hp q hq e => by subst e; exact n3 p (by simp [hp]) p ((a1 p).2 (.inr hq)) rfl⟩
          · rcases List.mem_append.1 hz with hz | hz
            · simp at hz; subst hz
              rcases List.mem_append.1 hz2 with hz2 | hz2
              · exact n4 hz2
              · exact n3 z (by simp) z ((a1 z).2 (.inr hz2)) rfl
            · rcases List.mem_append.1 hz2 with hz2 | hz2
              · exact n3 z (by simp [hz2]) z ((a1 z).2 (.inl hz)) rfl
              · exact b2 z hz hz2

end Go.Pv

set_option linter.all false
namespace Go.Pv
open Go.Ev

theorem outs_blk {s : S} {N : Nat → Prop} {H' : Heap} {lim : Nat} : ∀ {ps : List (PM × Ty)} {args : List PV} {ws : List Value} {oids : List (List Nat)} {vs : List TV} {L L' : LS}, inOuts ps args vs L = some L' → (lentOf ps args).Nodup → All2 (ER s) args ws →
    HRs N H' lim (outKd ps) vs (outVs ps ws) oids → ∀ c ∈ lentOf ps args, ∃ B', lget L' c = some B' ∧
      (∀ sA : S, sA.μ = s.μ → sA.H = H' → sA.L.clk = L.clk → sA.lim = lim → (∀ z, N z → sA.N z) → BR sA c B') ∧ ∀ m, s.μ c = some m → m.z ∈ headsOf ps oids
  | [], [], [], oids, vs, L, L', h, hn, hr, hh, c, hc => by simp [lentOf] at hc
  | (m, t) :: ps, p :: args, w :: ws, oids, vs, L, L', h, hn, hr, hh, c, hc => by
    obtain ⟨hr1, hr2⟩ := hr
    cases m with
    | ro =>
      simp only [inOuts] at h
      have e : lentOf ((.ro, t) :: ps) (p :: args) = lentOf ps args := by cases p <;> rfl
      rw [e] at hn hc
      exact outs_blk (ps := ps) h hn hr2 hh c hc
    | mv =>
      simp only [inOuts] at h
      have e : lentOf ((.mv, t) :: ps) (p :: args) = lentOf ps args := by cases p <;> rfl
      rw [e] at hn hc
      exact outs_blk (ps := ps) h hn hr2 hh c hc
    | io =>
      simp only [inOuts] at h
      split at h
      · rename_i b v vs'
        replace h := ob h; obtain ⟨L1, h1, h⟩ := h
        simp only [lentOf] at hn hc
        obtain ⟨hn1, hn2⟩ := List.nodup_cons.1 hn
        obtain ⟨a1, a2, a3, a4⟩ := inOuts_facts h hn2
        obtain ⟨n', u, xs, x, g1, rfl, rfl⟩ := inAb_some h1
        have hlb := lget_lt g1
        cases oids with
        | nil => exact absurd hh id
        | cons ids oids =>
        simp only [outKd, outVs] at hh
        obtain ⟨hh1, hh2⟩ := hh
        rcases List.mem_cons.1 hc with rfl | hc
        · have hr1 : LR0 s (.osl c 0 none) w := hr1
          obtain ⟨_, hr1⟩ := hr1
          obtain ⟨u', x', e1, ho⟩ := hh1
          injection e1 with e1 e2
          injection e1 with e1
          subst e1
          simp only [heq_eq_eq] at e2
          subst e2
          refine ⟨_, by rw [a3 c hn1, lget_set_self hlb], fun sA e1 e2 e3 e4 e5 => ?_, fun m hm => ?_⟩
          · unfold BR; simp only
            cases hm : s.μ c with
            | none =>
              rw [hm] at hr1; obtain ⟨_, _, rfl⟩ := hr1
              rw [e1, hm]; simp only
              rcases ho with ⟨_, hx, _⟩ | ⟨z, o, k, ks, _, _, e6, _⟩
              · exact hx
              · simp at e6
            | some m =>
              rw [hm] at hr1; obtain ⟨g0, rfl⟩ := hr1
              rw [e1, hm]; simp only
              rcases ho with ⟨_, _, e6⟩ | ⟨z, o, k, ks, _, _, e6, q1, q2, q3, q4, q5, _⟩
              · simp at e6
              · simp only [Option.getD_none, Nat.zero_mul, Nat.add_zero, Nat.sub_zero] at e6
                injection e6 with e6 e7 e8
                injection e6 with e6; injection e6 with e6 e9
                subst e6 e9
                refine ⟨e8, e7, k, by rw [e2]; exact q1, q4, fun i hi => ?_, fun _ => ⟨q2, by rw [e4]; exact q3⟩, fun e => absurd e (by decide)⟩
                have := q5.2 i hi
                have hmi := mul_lt (k := u.size) hi
                unfold seg at this; rw [List.drop_take, List.take_take, Nat.min_eq_left (by omega), List.drop_drop] at this
                rw [e2]; exact Rep.mono e5 _ this
          · rw [hm] at hr1; obtain ⟨g0, rfl⟩ := hr1
            rcases ho with ⟨_, _, e6⟩ | ⟨z, o, k, ks, rfl, _, e6, _⟩
            · simp at e6
            · simp only [Option.getD_none, Nat.zero_mul, Nat.add_zero, Nat.sub_zero] at e6
              injection e6 with e6 e7 e8
              injection e6 with e6; injection e6 with e6 e9
              simp [headsOf, e6]
        · obtain ⟨B', b1, b2, b3⟩ := outs_blk h hn2 hr2 hh2 c hc
          refine ⟨B', b1, b2, fun m hm => ?_⟩
          simp only [headsOf, List.mem_append]; exact .inr (b3 m hm)
      · simp at h
    | ps =>
      simp only [inOuts] at h
      split at h
      · rename_i b off v vs'
        replace h := ob h; obtain ⟨L1, h1, h⟩ := h
        simp only [lentOf] at hn hc
        obtain ⟨hn1, hn2⟩ := List.nodup_cons.1 hn
        obtain ⟨a1, a2, a3, a4⟩ := inOuts_facts h hn2
        obtain ⟨n', cs, g1, g2, rfl⟩ := inCb_some h1
        have hlb := lget_lt g1
        cases oids with
        | nil => exact absurd hh id
        | cons ids oids =>
        simp only [outKd, outVs] at hh
        obtain ⟨hh1, hh2⟩ := hh
        rcases List.mem_cons.1 hc with rfl | hc
        · have hr1 : LR0 s (.ptr c off) w := hr1
          obtain ⟨_, m, hm, hsh, rfl⟩ := hr1
          obtain ⟨z, k, j, rfl, e1, hk, hro, hlm, hrep⟩ := hh1
          injection e1 with e1; injection e1 with e1; injection e1 with e1 e2
          subst e1
          refine ⟨_, by rw [a3 c hn1, lget_set_self hlb], fun sA f1 f2 f3 f4 f5 => ?_, fun m' hm' => ?_⟩
          · unfold BR; simp only
            refine ⟨trivial, m, k, by rw [f1]; exact hm, hsh, by rw [f2]; exact hk, ?_, hro, by rw [f4]; exact hlm⟩
            rw [← f3]
            refine reify_rel _ ?_
            rw [f2]
            exact Rep.mono (fun z hz => S.NN_clk (f5 z hz)) _ hrep.rep
          · rw [hm] at hm'; injection hm' with hm'; subst hm'
            simp [headsOf]
        · obtain ⟨B', b1, b2, b3⟩ := outs_blk h hn2 hr2 hh2 c hc
          refine ⟨B', b1, b2, fun m hm => ?_⟩
          simp only [headsOf, List.mem_append]; exact .inr (b3 m hm)
      · simp at h
  | [], _ :: _, _, _, _, _, _, h, _, _, _, _, _ => by simp [inOuts] at h
  | _ :: _, [], _, _, _, _, _, h, _, _, _, _, _ => by simp [inOuts] at h

theorem outs_cbs {s : S} {N : Nat → Prop} {H' : Heap} {lim : Nat} {sA : S} (f1 : sA.μ = s.μ) (f2 : sA.H = H') (f3 : sA.L.bl.length = s.L.bl.length) (f4 : ∀ z, N z → sA.N z) : ∀ {ps : List (PM × Ty)} {args : List PV} {ws : List Value} {oids : List (List Nat)} {vs : List TV} {L L' : LS}, inOuts ps args vs L = some L' → All2 (ER s) args ws →
    HRs N H' lim (outKd ps) vs (outVs ps ws) oids → (∀ z ∈ (tailsOf ps oids).flatten, sA.Lim z) → CBs sA lim (psOuts ps args vs) (tailsOf ps oids)
  | [], [], [], oids, vs, L, L', h, hr, hh, hl => by simp [psOuts, tailsOf, CBs]
  | (m, t) :: ps, p :: args, w :: ws, oids, vs, L, L', h, hr, hh, hl => by
    obtain ⟨hr1, hr2⟩ := hr
    cases m with
    | ro => simp only [inOuts] at h; exact outs_cbs (ps := ps) f1 f2 f3 f4 h hr2 hh hl
    | mv => simp only [inOuts] at h; exact outs_cbs (ps := ps) f1 f2 f3 f4 h hr2 hh hl
    | io =>
      simp only [inOuts] at h
      split at h
      · rename_i b v vs'
        replace h := ob h; obtain ⟨L1, h1, h⟩ := h
        cases oids with
        | nil => exact absurd hh id
        | cons ids oids => exact outs_cbs (ps := ps) f1 f2 f3 f4 h hr2 hh.2 hl
      · simp at h
    | ps =>
      simp only [inOuts] at h
      split at h
      · rename_i b off v vs'
        replace h := ob h; obtain ⟨L1, h1, h⟩ := h
        cases oids with
        | nil => exact absurd hh id
        | cons ids oids =>
          obtain ⟨hh1, hh2⟩ := hh
          have hr1 : LR0 s (.ptr b off) w := hr1
          obtain ⟨hlb, m, hm, hsh, rfl⟩ := hr1
          obtain ⟨z, k, j, rfl, e1, hk, hro, hlm, hrep⟩ := hh1
          injection e1 with e1; injection e1 with e1; injection e1 with e1 e2
          subst e1
          simp only [tailsOf, List.drop_succ_cons, List.drop_zero, List.flatten_cons] at hl
          exact ⟨⟨by rw [f3]; exact hlb, ⟨m, k, by rw [f1]; exact hm, hsh, by rw [f2]; exact hk, hro, hlm, RepO.frame (fun z hz _ => ⟨f4 z hz, by rw [f2]⟩) _ hrep (fun z _ => by rw [f2])⟩, fun z hz => hl z (List.mem_append.2 (.inl hz))⟩, outs_cbs (ps := ps) f1 f2 f3 f4 h hr2 hh2 (fun z hz => hl z (List.mem_append.2 (.inr hz)))⟩
      · simp at h
  | [], _ :: _, _, _, _, _, _, h, _, _, _ => by simp [inOuts] at h
  | _ :: _, [], _, _, _, _, _, h, _, _, _ => by simp [inOuts] at h

theorem HRs.lts {N : Nat → Prop} {H : Heap} {lim : Nat} : ∀ {ks : List Kd} {vs : List TV} {ws : List Value} {is : List (List Nat)}, HRs N H lim ks vs ws is → ∀ z ∈ is.flatten, z < H.length
  | [], [], [], [], _ => by simp
  | _ :: _, _ :: _, _ :: _, _ :: _, h => by
    intro z hz
    rw [List.flatten_cons, List.mem_append] at hz
    rcases hz with hz | hz
    · exact h.1.lt z hz
    · exact HRs.lts h.2 z hz

theorem TM.len {s : S} {lim : Nat} : ∀ {ps : List (PM × Ty)} {args : List PV} {ws : List Value} {os : List (Option TV)} {idss : List (List Nat)}, TM s lim ps args ws os idss → ps.length = idss.length
  | [], [], [], [], [], _ => rfl
  | _ :: _, _ :: _, _ :: _, _ :: _, _ :: _, h => by simp [TM.len h.2]

theorem LentLive.of {s : S} : ∀ (ps : List (PM × Ty)) (args : List PV), (∀ b ∈ lentOf ps args, ∃ B, lget s.L b = some B ∧ B.rw = true) → LentLive s ps args := by
  intro ps
  induction ps with
  | nil => intro args _; cases args <;> trivial
  | cons q ps ih =>
    intro args h
    obtain ⟨m, t⟩ := q
    cases args with
    | nil => cases m <;> trivial
    | cons p args =>
      cases m with
      | ro =>
        have e1 : lentOf ((.ro, t) :: ps) (p :: args) = lentOf ps args := by cases p <;> rfl
        have e2 : LentLive s ((.ro, t) :: ps) (p :: args) = LentLive s ps args := by cases p <;> rfl
        rw [e1] at h; rw [e2]; exact ih args h
      | mv =>
        have e1 : lentOf ((.mv, t) :: ps) (p :: args) = lentOf ps args := by cases p <;> rfl
        have e2 : LentLive s ((.mv, t) :: ps) (p :: args) = LentLive s ps args := by cases p <;> rfl
        rw [e1] at h; rw [e2]; exact ih args h
      | io =>
        by_cases hp : ∃ b off n, p = .osl b off n
        · obtain ⟨b, off, n, rfl⟩ := hp
          exact ⟨h b (by simp [lentOf]), ih args (fun q hq => h q (by simp [lentOf, hq]))⟩
        · have e1 : lentOf ((.io, t) :: ps) (p :: args) = lentOf ps args := by cases p <;> first | rfl | exact absurd ⟨_, _, _, rfl⟩ hp
          have e2 : LentLive s ((.io, t) :: ps) (p :: args) = LentLive s ps args := by cases p <;> first | rfl | exact absurd ⟨_, _, _, rfl⟩ hp
          rw [e1] at h; rw [e2]; exact ih args h
      | ps =>
        by_cases hp : ∃ b off, p = .ptr b off
        · obtain ⟨b, off, rfl⟩ := hp
          exact ⟨h b (by simp [lentOf]), ih args (fun q hq => h q (by simp [lentOf, hq]))⟩
        · have e1 : lentOf ((.ps, t) :: ps) (p :: args) = lentOf ps args := by cases p <;> first | rfl | exact absurd ⟨_, _, rfl⟩ hp
          have e2 : LentLive s ((.ps, t) :: ps) (p :: args) = LentLive s ps args := by cases p <;> first | rfl | exact absurd ⟨_, _, rfl⟩ hp
          rw [e1] at h; rw [e2]; exact ih args h

/-- The state behind the call, before the results are put in. -/
theorem after_call {s : S} (hs : StR s) {lent : List Nat} {L3 : LS} {H' : Heap} {ids rids oids : Nat → Prop} {N : Nat → Prop} (Kn : Nat → Option (Nat × Nat))
    (f1 : L3.bl.length = s.L.bl.length) (f2 : L3.clk = s.L.clk) (f3 : ∀ c, c ∉ lent → lget L3 c = lget s.L c) (f4 : ∀ c ∈ lent, ∃ B B', OutB s.L L3 c B B')
    (f5 : ∀ c ∈ lent, ∃ B', lget L3 c = some B' ∧ (∀ sA : S, sA.μ = s.μ → sA.H = H' → sA.L.clk = s.L.clk → sA.lim = s.lim → sA.Kid = Kn → (∀ z, N z → sA.N z) → BR sA c B') ∧ ∀ m, s.μ c = some m → oids m.z)
    (hids : ∀ z, ids z → s.Lim z ∨ (∃ b B m, b ∈ lent ∧ lget s.L b = some B ∧ B.rw = true ∧ s.μ b = some m ∧ m.z = z) ∨ ∃ p, s.Kid z = some p ∧ ∀ B, lget s.L p.1 = some B → p.1 ∈ lent)
    (hKn : ∀ z p, Kn z = some p → p.1 < s.L.bl.length ∧ z < H'.length ∧ (∃ k, hget H' z = some k) ∧ ¬ rids z ∧ ¬ (s.Lim z ∧ ¬ ids z) ∧ (∀ c C m, lget L3 c = some C → s.μ c = some m → m.z ≠ z) ∧ (Own s z ∨ s.H.length ≤ z))
    (hKk : ∀ z b i B, b ∉ lent → lget s.L b = some B → s.Kid z = some (b, i) → Kn z = some (b, i))
    (hlen : s.H.length ≤ H'.length) (hfr : ∀ z, z < s.H.length → ¬ ids z → hget H' z = hget s.H z) (hnd : ∀ z, rids z → ¬ oids z) (hr1 : ∀ z, rids z → ids z ∨ s.H.length ≤ z) (hr2 : ∀ z, rids z → z < H'.length)
    (hN : ∀ sA : S, (∀ z, Own sA z → (∃ b B m, lget L3 b = some B ∧ B.rw = true ∧ s.μ b = some m ∧ m.z = z ∧ b ∉ lent) ∨ (s.Lim z ∧ ¬ ids z) ∨ rids z ∨ oids z ∨ ∃ p, Kn z = some p) → sA.Ban = s.Ban → ∀ z, N z → sA.N z) :
    ∃ sA, sA.L = L3 ∧ sA.H = H' ∧ sA.μ = s.μ ∧ Keep s sA ∧ StR sA ∧ (∀ z, sA.Lim z ↔ (s.Lim z ∧ ¬ ids z) ∨ rids z) ∧ ∀ z, N z → sA.N z := by
  have hidsOwn : ∀ z, ids z → Own s z := by
    intro z hz
    rcases hids z hz with h | ⟨b, B, m, _, h1, h2, h3, h4⟩ | ⟨p, hp, _⟩
    · exact .inr (.inl h)
    · exact .inl ⟨b, B, m, h1, h2, h3, h4⟩
    · exact .inr (.inr ⟨p, hp⟩)
  let sA : S := { s with L := L3, H := H', Lim := fun z => (s.Lim z ∧ ¬ ids z) ∨ rids z, Kid := Kn }
  have cls : ∀ c C, lget L3 c = some C → ∃ C0, lget s.L c = some C0 ∧ C0.rw = C.rw ∧ C0.ver ≤ C.ver ∧ (c ∉ lent → C0 = C) ∧ (C0.ver = C.ver → c ∉ lent) := by
    intro c C hC
    by_cases hc : c ∈ lent
    · obtain ⟨B, B', b1, b2, b3, b4, b5⟩ := f4 c hc
      rw [hC] at b3; injection b3 with b3; subst b3
      exact ⟨B, b1, by rw [b2, b4], by omega, fun h => absurd hc h, fun h => by omega⟩
    · rw [f3 c hc] at hC; exact ⟨C, hC, rfl, Nat.le_refl _, fun _ => rfl, fun _ => hc⟩
  have hnotids : ∀ c C m, lget s.L c = some C → s.μ c = some m → c ∉ lent → ¬ ids m.z := by
    intro c C m h1 h2 h3 h4
    rcases hids _ h4 with h | ⟨b, B, m', hb, h5, h6, h7, h8⟩ | ⟨p, hp, _⟩
    · exact hs.lm c C m h1 h2 h
    · have := hs.inj b c B C m' m h5 h1 h6 h7 h2 h8
      subst this; exact h3 hb
    · exact (hs.kl _ p hp).2.2.2 c C m h1 h2 rfl
  have hown : ∀ z, Own sA z → Own s z ∨ s.H.length ≤ z := by
    rintro z (⟨b, B, m, h1, h2, h3, rfl⟩ | (⟨h1, _⟩ | h1) | ⟨p, h1⟩)
    · obtain ⟨C0, g1, g2, _⟩ := cls b B h1
      exact .inl (.inl ⟨b, C0, m, g1, by rw [g2]; exact h2, h3, rfl⟩)
    · exact .inl (.inr (.inl h1))
    · rcases hr1 z h1 with h | h
      · exact .inl (hidsOwn z h)
      · exact .inr h
    · exact (hKn z p h1).2.2.2.2.2.2
  have hkids : ∀ z b i B, b ∉ lent → lget s.L b = some B → s.Kid z = some (b, i) → ¬ ids z := by
    intro z b i B hb hB hp hz
    obtain ⟨k1, k2, k3, k4⟩ := hs.kl z _ hp
    rcases hids z hz with h | ⟨b, B, m, _, h1, h2, h3, h4⟩ | ⟨p, hp', hl⟩
    · exact k3 h
    · exact k4 b B m h1 h3 h4
    · rw [hp] at hp'; injection hp' with hp'; subst hp'; exact hb (hl B hB)
  have hkH : ∀ z b i B, b ∉ lent → lget s.L b = some B → s.Kid z = some (b, i) → Kn z = some (b, i) ∧ hget H' z = hget s.H z := fun z b i B hb hB hp => ⟨hKk z b i B hb hB hp, hfr z (hs.kl z _ hp).1 (hkids z b i B hb hB hp)⟩
  have hsame : ∀ c C m, lget s.L c = some C → s.μ c = some m → c ∉ lent → hget H' m.z = hget s.H m.z := fun c C m h1 h2 h3 => hfr _ ((hs.blk c C h1).lt h2) (hnotids c C m h1 h2 h3)
  have hk : Keep s sA := by
    refine ⟨rfl, CK.same rfl f2, rfl, by rw [show sA.L = L3 from rfl, f1]; exact Nat.le_refl _, fun _ _ => rfl, hlen, fun z hz hn => hfr z hz (fun h => hn (hidsOwn z h)), hown, fun b B' hb hB' => ?_⟩
    obtain ⟨C0, g1, g2, g3, g4, g5⟩ := cls b B' hB'
    refine ⟨C0, g1, g3, fun e => ?_⟩
    have hnl := g5 e
    exact ⟨(g4 hnl).symm, fun m hm => hsame b C0 m g1 hm hnl, fun z i hz => hkH z b i C0 hnl g1 hz⟩
  have hNA : ∀ z, N z → sA.N z := by
    refine hN sA ?_ rfl
    rintro z (⟨b, B, m, h1, h2, h3, rfl⟩ | (h1 | h1) | h1)
    · by_cases hb : b ∈ lent
      · obtain ⟨B', _, _, b3⟩ := f5 b hb
        exact .inr (.inr (.inr (.inl (b3 m h3))))
      · exact .inl ⟨b, B, m, h1, h2, h3, rfl, hb⟩
    · exact .inr (.inl h1)
    · exact .inr (.inr (.inl h1))
    · exact .inr (.inr (.inr (.inr h1)))
  refine ⟨sA, rfl, rfl, rfl, hk, ⟨fun c C hC => ?_, fun b c C D m1 m2 h1 h2 h3 h4 h5 e => ?_, fun z hz => ⟨?_, fun ho => ?_⟩, ?_, fun b C m h1 h2 => ?_, fun z hl => ?_, fun z p hp => ?_, fun z p hp => (hKn z p hp).2.2.1⟩, fun z => Iff.rfl, hNA⟩
  rotate_right
  · obtain ⟨k1, k2, k3, k4, k5, k6, k7⟩ := hKn z p hp
    refine ⟨k2, by rw [show sA.L = L3 from rfl, f1]; exact k1, ?_, fun c C m g1 g2 => k6 c C m g1 g2⟩
    rintro (h1 | h1)
    · exact k5 h1
    · exact k4 h1
  · by_cases hc : c ∈ lent
    · obtain ⟨B', b1, b2, _⟩ := f5 c hc
      have : some B' = some C := by rw [← b1]; exact hC
      injection this with this; subst this
      exact b2 sA rfl rfl f2 rfl rfl hNA
    · have hC' : lget s.L c = some C := by rw [← f3 c hc]; exact hC
      exact (hs.blk c C hC').keep hk (lget_lt hC') (fun m hm => hsame c C m hC' hm hc) (fun z i hz => hkH z c i C hc hC' hz)
  · obtain ⟨C0, g1, g2, _⟩ := cls b C h1
    obtain ⟨D0, g3, _⟩ := cls c D h2
    exact hs.inj b c C0 D0 m1 m2 g1 g3 (by rw [g2]; exact h3) h4 h5 e
  · exact Nat.lt_of_lt_of_le (hs.ban z hz).1 hlen
  · rcases hown z ho with h | h
    · exact (hs.ban z hz).2 h
    · have := (hs.ban z hz).1; omega
  · exact Nat.le_trans hs.limH hlen
  · obtain ⟨C0, g1, g2, g3, g4, g5⟩ := cls b C h1
    rintro (⟨h5, _⟩ | h5)
    · exact hs.lm b C0 m g1 h2 h5
    · by_cases hb : b ∈ lent
      · obtain ⟨B', _, _, b3⟩ := f5 b hb
        exact hnd _ h5 (b3 m h2)
      · rcases hr1 _ h5 with h6 | h6
        · exact hnotids b C0 m g1 h2 hb h6
        · have := (hs.blk b C0 g1).lt h2; omega
  · rcases hl with ⟨h1, _⟩ | h1
    · exact Nat.lt_of_lt_of_le (hs.lml z h1) hlen
    · exact hr2 z h1

/-- The results put in. -/
theorem inRes_sim : ∀ {rs : List (Bool × Ty)} {vs : List TV} {ws : List Value} {rids : List (List Nat)} {s : S} {pvs : List PV} {L' : LS}, StR s → HRs s.N s.H s.lim (rs.map fun q => kdR q.1) vs ws rids → (∀ z ∈ rids.flatten, s.Lim z) → rids.flatten.Nodup → inRes rs vs s.L = some (pvs, L') →
    ∃ s', s'.L = L' ∧ s'.H = s.H ∧ Keep s s' ∧ StR s' ∧ All2 (AR s') pvs ws
  | [], [], [], [], s, pvs, L', hs, _, _, _, h => by
    simp [inRes] at h; obtain ⟨rfl, rfl⟩ := h
    exact ⟨s, rfl, rfl, Keep.refl s, hs, trivial⟩
  | (o, t) :: rs, v :: vs, w :: ws, ids :: rids, s, pvs, L', hs, hh, hl, hn, h => by
    obtain ⟨hh1, hh2⟩ := hh
    rw [List.flatten_cons, List.nodup_append] at hn
    obtain ⟨hn1, hn2, hn3⟩ := hn
    simp only [inRes] at h
    have next : ∀ (s1 : S) (pv : PV), Keep s s1 → StR s1 → s1.H = s.H → (∀ z, s.N z → s1.N z) → (∀ z ∈ rids.flatten, s1.Lim z) → AR s1 pv w → (obind (inRes rs vs s1.L) fun r => some (pv :: r.1, r.2)) = some (pvs, L') →
        ∃ s', s'.L = L' ∧ s'.H = s.H ∧ Keep s s' ∧ StR s' ∧ All2 (AR s') pvs (w :: ws) := by
      clear h
      intro s1 pv k1 t1 g1 n1 l1 ha h
      replace h := ob h; obtain ⟨⟨pvs', L3⟩, h2, h⟩ := h
      simp at h; obtain ⟨rfl, rfl⟩ := h
      have hh2' : HRs s1.N s1.H s1.lim (rs.map fun q => kdR q.1) vs ws rids := by
        rw [k1.lim]; exact hh2.frame (fun z hz _ => ⟨n1 z hz, by rw [g1]⟩) (fun z _ => by rw [g1])
      obtain ⟨s2, a1, a2, a3, a4, a5⟩ := inRes_sim t1 hh2' l1 hn2 h2
      exact ⟨s2, a1, a2.trans g1, k1.trans a3, a4, a3.AR ha, a5⟩
    have hl2 : ∀ z ∈ rids.flatten, s.Lim z := fun z hz => hl z (by rw [List.flatten_cons, List.mem_append]; exact .inr hz)
    cases o with
    | false =>
      obtain ⟨cs, hv, hrep⟩ := hh1
      obtain ⟨ty, x⟩ := v
      simp only [inOne] at h
      obtain ⟨s1, a1, a2, a3, a4, a5, a6, a7⟩ := giveC_sim ty hs hrep (fun z hz => hl z (by rw [List.flatten_cons, List.mem_append]; exact .inl hz)) hn1
      rw [← a1] at h
      exact next s1 _ a3 a4 a2 a6 (fun z hz => a7 z (hl2 z hz) (fun hm => hn3 z hm z hz rfl)) (wrapO_rel hv a5) h
    | true =>
      obtain ⟨u, x, rfl, ho⟩ := hh1
      simp only [inOne] at h
      obtain ⟨s1, e1, e2, k1, t1, a1, n1, l1⟩ := giveO_sim hs ho (fun z hz => hl z (by rw [List.flatten_cons, List.mem_append]; exact .inl hz))
      rw [← e1] at h
      exact next s1 _ k1 t1 e2 n1 (fun z hz => l1 z (hl2 z hz) (fun hm => hn3 z hm z hz rfl)) (AR.of a1) h

theorem unT_tys : ∀ (ts : List Ty) (a : TupT ts), (unT ts a).map (·.1) = ts
  | [], _ => rfl
  | [t], x => rfl
  | t :: u :: r, x => by simp only [unT, List.map_cons]; rw [unT_tys (u :: r) x.2]

theorem unT_len (ts : List Ty) (a : TupT ts) : (unT ts a).length = ts.length := by
  have := congrArg List.length (unT_tys ts a); simpa using this

theorem HRs.flat {N M : Nat → Prop} {H : Heap} {lim : Nat} : ∀ {ks : List Kd} {vs : List TV} {ws : List Value} {is : List (List Nat)} {ts : List Ty}, HRs N H lim ks vs ws is → vs.map (·.1) = ts → All2 (fun k t => flatK k t = true) ks ts → HRs M H lim ks vs ws is
  | [], [], [], [], _, _, _, _ => trivial
  | k :: ks, v :: vs, w :: ws, i :: is, ts, h, e, hf => by
    match ts, hf with
    | t :: ts, hf =>
      simp only [List.map_cons, List.cons.injEq] at e
      exact ⟨h.1.flat (by rw [e.1]; exact hf.1), HRs.flat h.2 e.2 hf.2⟩

theorem al_results {rs : List (Bool × Ty)} (h : (rs.any fun r => match r with | (true, .sl t) => !(t.flat || t.rowT) | (_, t) => !t.nosl) = false) : All2 (fun k t => flatK k t = true) (rs.map fun q => kdR q.1) (rs.map fun q => q.2) := by
  induction rs with
  | nil => trivial
  | cons r rs ih =>
    simp only [List.any_cons, Bool.or_eq_false_iff] at h
    refine ⟨?_, ih h.2⟩
    obtain ⟨o, t⟩ := r
    have h1 := h.1
    cases o with
    | false => simpa [kdR, flatK] using h1
    | true =>
      cases t with
      | sl u =>
        show (u.flat || u.rowT) = true
        cases hb : (u.flat || u.rowT) with
        | true => rfl
        | false => simp only [hb, Bool.not_false] at h1; exact absurd h1 (by decide)
      | _ => rfl

theorem al_params {ps : List (PM × Ty)} (h : (ps.any fun p => match p with | (.ps, t) => !t.nosl | (.io, .sl t) => !t.flat | (.mv, .sl t) => !(t.flat || t.rowT) | _ => false) = false) : All2 (fun k t => flatK k t = true) (outKd ps) (outTys ps) := by
  induction ps with
  | nil => trivial
  | cons p ps ih =>
    simp only [List.any_cons, Bool.or_eq_false_iff] at h
    obtain ⟨m, t⟩ := p
    have h1 := h.1
    cases m with
    | ro => exact ih h.2
    | mv => exact ih h.2
    | io =>
      refine ⟨?_, ih h.2⟩
      cases t with
      | sl u =>
        have h1 : (!u.flat) = false := h1
        show (u.flat || u.rowT) = true
        cases hb : u.flat with
        | true => rfl
        | false => rw [hb] at h1; exact absurd h1 (by decide)
      | _ => rfl
    | ps => exact ⟨by simpa [flatK] using h1, ih h.2⟩

theorem onePV_rel {s : S} {ps : List PV} {ws : List Value} (h : All2 (AR s) ps ws) : ER s (onePV ps) (oneOf ws) := by
  match ps, ws, h with
  | [p], [w], h => exact ER.of h.1
  | [], [], h => exact ⟨[], rfl, trivial⟩
  | p :: q :: ps, w :: x :: ws, h => exact ⟨w :: x :: ws, rfl, h⟩

section
variable {A : AnnV} {β γ : Type} {s : S} {KV : PV → LS → Option β} {KE : Value → Heap → Option γ} {r : β} {Q : γ → Prop}

/-- A call. -/
theorem call_sim {sig : Sig} {call : TupT sig.ptys → Option (TupT sig.rtys)} {callE : List Value → Nat → Heap → Option (Value × Heap)} (hF : FnOk sig call callE s.lim) (hs : StR s) {args : List PV} {ws : List Value} (hr : All2 (ER s) args ws) (hK : KOk s r KV KE Q)
    (h : (obind (takeM sig.params args [] s.L) fun m => obind (takeR sig.al m.2.1 sig.params args m.1 m.2.2) fun q => obind (mkT sig.ptys q.1) fun a => obind (call a) fun y =>
      obind (inOuts sig.params args ((unT sig.rtys y).drop sig.results.length) q.2) fun L0 => obind (fillL (psOuts sig.params args ((unT sig.rtys y).drop sig.results.length)) L0) fun L' => obind (inRes sig.results ((unT sig.rtys y).take sig.results.length) L') fun q => KV (onePV q.1) q.2) = some r) :
    ∃ y, (obind (callE ws s.lim s.H) fun q => KE q.1 q.2) = some y ∧ Q y := by
  replace h := ob h; obtain ⟨⟨os, lent, L1⟩, h1, h⟩ := h
  replace h := ob h; obtain ⟨⟨tvs, L2⟩, h2, h⟩ := h
  replace h := ob h; obtain ⟨a, h3, h⟩ := h
  replace h := ob h; obtain ⟨y, h4, h⟩ := h
  replace h := ob h; obtain ⟨L3, h5, h⟩ := h
  replace h := ob h; obtain ⟨L3b, h5b, h⟩ := h
  replace h := ob h; obtain ⟨⟨pvs, L4⟩, h6, h⟩ := h
  simp only at h2 h3 h5 h5b h6 h
  obtain ⟨s1, idss, l1, g1, u1, k1, t1, o1, m1, tm1, sub1, nd1⟩ := takeM_sim hs hr h1
  rw [← l1] at h2
  obtain ⟨s2, l2, g2, u2, k2, t2, o2, li2, sm2, tr2⟩ := takeR_sim t1 (All2.mono (fun _ _ => k1.ER) hr) h2
  rw [← l2] at h5
  obtain ⟨ln1, ln2, ln3⟩ := takeM_lent h1
  have hlent : ∀ b, b ∈ lent ↔ b ∈ lentOf sig.params args := fun b => by rw [ln3]; simp
  obtain ⟨f1, f2, f3, f4⟩ := inOuts_facts h5 ln1
  have hu : s2.μ = s.μ := u2.trans u1
  have hlive : LentLive s2 sig.params args := LentLive.of _ _ (fun b hb => by
    obtain ⟨B, B', b1, b2, _⟩ := f4 b hb; exact ⟨B, b1, b2⟩)
  obtain ⟨nd, idm⟩ := nd1 s2 k2 (fun z hz => by rw [li2]; exact hz) t2 hu hlive
  have tm2 : TM s2 s.lim sig.params args ws os idss := tm1.keep k2 g2 u2 (fun z hz => by rw [li2]; exact hz)
  have hidOwn : ∀ z ∈ idss.flatten, Own s2 z := by
    intro z hz
    rcases idm z hz with ⟨h, _⟩ | ⟨b, B, m, _, _, q1, q2, q3, q4⟩
    · exact .inr (.inl h)
    · exact .inl ⟨b, B, m, q1, q2, q3, q4⟩
  have hgH : s2.H = s.H := g2.trans g1
  have hban : s2.Ban = s.Ban := (k1.trans k2).ban
  have hlim2 : s2.lim = s.lim := (k1.trans k2).lim
  let Ban : Nat → Prop := fun z => sig.al = true ∧ ((Own s2 z ∧ z ∉ idss.flatten) ∨ s.Ban z)
  have hC1 : ∀ z, s2.N z → z ∉ idss.flatten ∧ ¬ Ban z := by
    intro z hz
    refine ⟨fun h => hz.1 (hidOwn z h), ?_⟩
    rintro ⟨_, ⟨h, _⟩ | h⟩
    · exact hz.1 h
    · exact hz.2 (by rw [hban]; exact h)
  have hC2 : sig.al = false → ∀ b m B, b ∉ lent → lget s2.L b = some B → s2.μ b = some m → m.z ∉ idss.flatten ∧ ¬ Ban m.z := by
    intro hal b m B hb hB hm
    refine ⟨fun h => ?_, fun h => absurd (hal.symm.trans h.1) (by decide)⟩
    rcases idm _ h with ⟨h, _⟩ | ⟨b', B', m', _, hb', q1, q2, q3, q4⟩
    · exact t2.lm b B m hB hm h
    · have := t2.inj b' b B' B m' m q1 hB q2 q3 hm q4
      subst this; exact hb hb'
  have hkn : ∀ z p, s2.Kid z = some p → z ∉ idss.flatten := by
    intro z p hp h
    obtain ⟨k1, k2, k3, k4⟩ := t2.kl z p hp
    rcases idm z h with ⟨h, _⟩ | ⟨b', B', m', _, hb', q1, q2, q3, q4⟩
    · exact k3 h
    · exact k4 b' B' m' q1 q3 q4
  have hC3 : sig.al = false → ∀ z b i, b ∉ lent → s2.Kid z = some (b, i) → z ∉ idss.flatten ∧ ¬ Ban z := by
    intro hal z b i _ hz
    exact ⟨hkn z _ hz, fun h => absurd (hal.symm.trans h.1) (by decide)⟩
  have hand := handed hC1 hC2 hC3 tm2 tr2
  have hun := unT_mkT sig.ptys h3
  rw [← hun] at hand
  obtain ⟨v, H', rvs, rids, oids, c1, rfl, c3, c4, c5, c6, c7, c8, c9⟩ := hF a y h4 s2.H Ban ws idss (by
      rintro z ⟨_, ⟨h, _⟩ | h⟩
      · exact t2.own_lt h
      · exact (t2.ban z (by rw [hban]; exact h)).1) (by rw [hgH]; exact hs.limH) nd (by
      rintro z hz ⟨_, ⟨_, h⟩ | h⟩
      · exact h hz
      · exact (t2.ban z (by rw [hban]; exact h)).2 (hidOwn z hz)) hand
  rw [hgH] at c1
  rw [c1]; simp only [obind]
  have hr2 : All2 (ER s2) args ws := All2.mono (fun _ _ => (k1.trans k2).ER) hr
  have hfl : sig.al = false → All2 (fun k t => flatK k t = true) (sig.results.map fun q => kdR q.1) (sig.results.map fun q => q.2) ∧ All2 (fun k t => flatK k t = true) (outKd sig.params) (outTys sig.params) := by
    intro hal
    unfold Sig.al at hal
    simp only [Bool.or_eq_false_iff] at hal
    exact ⟨al_results hal.1, al_params hal.2⟩
  -- what is owned behind the call
  let N' : Nat → Prop := fun z => z ∉ rids.flatten ++ oids.flatten ∧ ¬ Ban z
  have htys := unT_tys sig.rtys y
  have hre : ∀ M : Nat → Prop, (sig.al = true → ∀ z, N' z → M z) → HRs M H' s.lim (sig.results.map fun q => kdR q.1) ((unT sig.rtys y).take sig.results.length) rvs rids := by
    intro M hM
    cases hal : sig.al with
    | true => exact c8.frame (fun z hz _ => ⟨hM hal z hz, rfl⟩) (fun _ _ => rfl)
    | false =>
      refine c8.flat (ts := sig.results.map fun q => q.2) ?_ (hfl hal).1
      rw [List.map_take, htys]; unfold Sig.rtys
      rw [List.take_append_of_le_length (by simp), List.take_of_length_le (by simp)]
  have hou : ∀ M : Nat → Prop, (sig.al = true → ∀ z, N' z → M z) → HRs M H' s.lim (outKd sig.params) ((unT sig.rtys y).drop sig.results.length) (outVs sig.params ws) oids := by
    intro M hM
    cases hal : sig.al with
    | true => exact c9.frame (fun z hz _ => ⟨hM hal z hz, rfl⟩) (fun _ _ => rfl)
    | false =>
      refine c9.flat (ts := outTys sig.params) ?_ (hfl hal).2
      rw [List.map_drop, htys]; unfold Sig.rtys
      rw [List.drop_append_of_le_length (by simp), List.drop_of_length_le (by simp)]; simp
  let N2 : Nat → Prop := fun z => sig.al = true ∧ N' z
  have hfalse : ∀ z, False → N2 z := fun _ h => h.elim
  have hR2 := hre N2 (fun hal z hz => ⟨hal, hz⟩)
  have hO2 := hou N2 (fun hal z hz => ⟨hal, hz⟩)
  rw [List.nodup_append] at c5
  obtain ⟨ht1, ht2⟩ := heads_tails hO2
  obtain ⟨ht3, ht4⟩ := ht2 c5.2.1
  have hmem : ∀ z, (z ∈ rids.flatten ∨ z ∈ (tailsOf sig.params oids).flatten) → z ∈ rids.flatten ++ oids.flatten := by
    rintro z (h | h)
    · exact List.mem_append.2 (.inl h)
    · exact List.mem_append.2 (.inr ((ht1 z).2 (.inr h)))
  obtain ⟨sA, e1, e2, e3, k3, t3, li3, n3⟩ := after_call (Kn := s2.Kid) (N := N2) (ids := fun z => z ∈ idss.flatten) (rids := fun z => z ∈ rids.flatten ∨ z ∈ (tailsOf sig.params oids).flatten) (oids := fun z => z ∈ headsOf sig.params oids) t2 f1 f2 f3 f4 (fun c hc => by
      obtain ⟨B', b1, b2, b3⟩ := outs_blk h5 ln1 hr2 hO2 c hc
      exact ⟨B', b1, fun sA q1 q2 q3 q4 _ q5 => b2 sA q1 q2 q3 (by rw [q4, hlim2]) q5, b3⟩) (fun z hz => by
      rcases idm z hz with ⟨h, _⟩ | ⟨b, B, m, _, hb, q1, q2, q3, q4⟩
      · exact .inl h
      · exact .inr (.inl ⟨b, B, m, (hlent b).1 hb, q1, q2, q3, q4⟩)) (fun z p hp => by
      obtain ⟨k1', k2', k3', k4'⟩ := t2.kl z p hp
      have hnid := hkn z p hp
      refine ⟨k2', Nat.lt_of_lt_of_le k1' c3, by rw [c4 z k1' hnid]; exact t2.ka z p hp, fun hz => ?_, fun h => k3' h.1, fun c C m g1 g2 => ?_, .inl (.inr (.inr ⟨p, hp⟩))⟩
      · rcases c6 z (hmem z hz) with h | h
        · exact hnid h
        · omega
      · by_cases hc : c ∈ lentOf sig.params args
        · obtain ⟨B, B', b1, _⟩ := f4 c hc
          exact k4' c B m b1 g2
        · rw [f3 c hc] at g1; exact k4' c C m g1 g2) (fun z b i B _ _ hp => hp) c3 c4 (fun z hz hz' => by
      rcases hz with hz | hz
      · exact c5.2.2 z hz z ((ht1 z).2 (.inl hz')) rfl
      · exact ht4 z hz' hz) (fun z hz => c6 z (hmem z hz)) (fun z hz => by
      rcases hz with hz | hz
      · exact hR2.lts z hz
      · exact hO2.lts z ((ht1 z).2 (.inr hz))) (fun sA ho hb z hz => by
      obtain ⟨hal, hz1, hz2⟩ := hz
      simp only [List.mem_append, not_or] at hz1
      refine ⟨fun hown => ?_, fun hban' => hz2 ⟨hal, .inr (by rw [hb, hban] at hban'; exact hban')⟩⟩
      rcases ho z hown with ⟨b, B, m, q1, q2, q3, q4, q5⟩ | ⟨q1, q2⟩ | q1 | q1 | ⟨p, q1⟩
      rotate_right
      · exact hz2 ⟨hal, .inl ⟨.inr (.inr ⟨p, q1⟩), hkn z p q1⟩⟩
      · rw [f3 b q5] at q1
        refine hz2 ⟨hal, .inl ⟨.inl ⟨b, B, m, q1, q2, q3, q4⟩, fun h => ?_⟩⟩
        rcases idm z h with ⟨h, _⟩ | ⟨b', B', m', _, hb', p1, p2, p3, p4⟩
        · exact t2.lm b B m q1 q3 (q4 ▸ h)
        · have := t2.inj b' b B' B m' m p1 q1 p2 p3 q3 (p4.trans q4.symm)
          subst this; exact q5 ((hlent _).1 hb')
      · exact hz2 ⟨hal, .inl ⟨.inr (.inl q1), q2⟩⟩
      · rcases q1 with q1 | q1
        · exact hz1.1 q1
        · exact hz1.2 ((ht1 z).2 (.inr q1))
      · exact hz1.2 ((ht1 z).2 (.inl q1)))
  have hlimA : sA.lim = s.lim := k3.lim.trans hlim2
  have hcb : CBs sA sA.lim (psOuts sig.params args ((unT sig.rtys y).drop sig.results.length)) (tailsOf sig.params oids) := by
    rw [hlimA]
    exact outs_cbs (s := s2) e3 e2 (by rw [e1, f1]) n3 h5 hr2 hO2 (fun z hz => (li3 z).2 (.inr (.inr hz)))
  rw [← e1] at h5b
  obtain ⟨sB, b1, b2, b3, b4, b5, b6⟩ := fillL_sim t3 hcb (fun z hz => (li3 z).2 (.inr (.inr hz))) ht3 h5b
  rw [← b1] at h6
  have hlimB : sB.lim = s.lim := b3.lim.trans hlimA
  have hRA : HRs sB.N sB.H sB.lim (sig.results.map fun q => kdR q.1) ((unT sig.rtys y).take sig.results.length) rvs rids := by
    rw [hlimB, b2, e2]; exact hR2.frame (fun z hz _ => ⟨b5 z (n3 z hz), rfl⟩) (fun _ _ => rfl)
  obtain ⟨s4, q1, q2, q3, q4, q5⟩ := inRes_sim b4 hRA (fun z hz => b6 z ((li3 z).2 (.inr (.inl hz))) (fun h => c5.2.2 z hz z ((ht1 z).2 (.inr h)) rfl)) c5.1 h6
  rw [← q1] at h
  have := hK (onePV pvs) (oneOf rvs) s4 ((((k1.trans k2).trans k3).trans b3).trans q3) q4 (onePV_rel q5) h
  rw [q2, b2, e2] at this; exact this

end
end Go.Pv
