/-
  Calls: what is handed over, and what comes back.
  Conditions: the state is a good one; the callee agrees.
-/
import Derived.Test.YtpjlbjkeekobnaaDoorVOp4
set_option linter.all false
namespace Go.Pv
open Go.Ev

inductive Kd where
  | fz
  | os
  | cb
  | cl (g : FuncId)

def PM.kd : PM → Kd
  | .ro => .fz
  | .mv => .os
  | .io => .os
  | .ps => .cb
  | .cl g => .cl g

def kdR : Bool → Kd
  | true => .os
  | false => .fz

/-- What an array owns beside itself: its rows' blocks. -/
def InR (H : Heap) (lim : Nat) : (u : Ty) → List u.T → List Value → List Nat → Prop
  | .os t, xs, cs, ks => t.flat = true ∧ ks.Nodup ∧ (∀ z ∈ ks, ∃ k, hget H z = some k) ∧ ∃ Kf : Nat → Option Nat, (∀ z i, Kf z = some i → z ∈ ks) ∧ ∀ i (hi : i < xs.length), ∃ v, cs[i]? = some v ∧ RowC (fun z => Kf z = some i) H lim t xs[i] v
  | .int _, _, _, ks => ks = []
  | .bool, _, _, ks => ks = []
  | .str, _, _, ks => ks = []
  | .sl _, _, _, ks => ks = []
  | .pair _ _, _, _, ks => ks = []

theorem InR.frame {H G : Heap} {lim : Nat} : ∀ {u : Ty} {xs : List u.T} {cs : List Value} {ks : List Nat}, InR H lim u xs cs ks → (∀ z ∈ ks, hget G z = hget H z) → InR G lim u xs cs ks
  | .os t, xs, cs, ks, h, hg => by
    obtain ⟨h1, h2, h3, Kf, h4, h5⟩ := h
    refine ⟨h1, h2, fun z hz => by rw [hg z hz]; exact h3 z hz, Kf, h4, fun i hi => ?_⟩
    obtain ⟨v, q1, q2⟩ := h5 i hi
    exact ⟨v, q1, q2.mono h1 (fun z hz => ⟨hz, hg z (h4 z i hz)⟩)⟩
  | .int _, _, _, _, h, _ => h
  | .bool, _, _, _, h, _ => h
  | .str, _, _, _, h, _ => h
  | .sl _, _, _, _, h, _ => h
  | .pair _ _, _, _, _, h, _ => h

theorem InR.lt {H : Heap} {lim : Nat} : ∀ {u : Ty} {xs : List u.T} {cs : List Value} {ks : List Nat}, InR H lim u xs cs ks → ∀ z ∈ ks, z < H.length
  | .os t, xs, cs, ks, h => by
    obtain ⟨_, _, h3, _⟩ := h
    intro z hz; obtain ⟨k, hk⟩ := h3 z hz; exact hget_lt hk
  | .int _, _, _, _, h => by rw [show _ = [] from h]; simp
  | .bool, _, _, _, h => by rw [show _ = [] from h]; simp
  | .str, _, _, _, h => by rw [show _ = [] from h]; simp
  | .sl _, _, _, _, h => by rw [show _ = [] from h]; simp
  | .pair _ _, _, _, _, h => by rw [show _ = [] from h]; simp

theorem InR.flat {H : Heap} {lim : Nat} : ∀ {u : Ty} {xs : List u.T} {cs : List Value} {ks : List Nat}, u.flat = true → InR H lim u xs cs ks → ks = []
  | .os t, xs, cs, ks, f, h => by simp [Ty.flat] at f
  | .int _, _, _, _, _, h => h
  | .bool, _, _, _, _, h => h
  | .str, _, _, _, _, h => h
  | .sl _, _, _, _, _, h => h
  | .pair _ _, _, _, _, _, h => h

theorem InR.ofNo {H : Heap} {lim : Nat} : ∀ {u : Ty} {xs : List u.T} {cs : List Value}, (∀ t, u ≠ .os t) → InR H lim u xs cs []
  | .os t, _, _, f => absurd rfl (f t)
  | .int _, _, _, _ => rfl
  | .bool, _, _, _ => rfl
  | .str, _, _, _ => rfl
  | .sl _, _, _, _ => rfl
  | .pair _ _, _, _, _ => rfl

theorem InR.noOs {H : Heap} {lim : Nat} : ∀ {u : Ty} {xs : List u.T} {cs : List Value} {ks : List Nat}, u.isOs = false → InR H lim u xs cs ks → ks = []
  | .os t, xs, cs, ks, f, h => by simp [Ty.isOs] at f
  | .int _, _, _, _, _, h => h
  | .bool, _, _, _, _, h => h
  | .str, _, _, _, _, h => h
  | .sl _, _, _, _, _, h => h
  | .pair _ _, _, _, _, _, h => h

/-- An owned slice handed over. -/
def OwnS (N : Nat → Prop) (H : Heap) (lim : Nat) (u : Ty) (x : List u.T) (w : Value) (ids : List Nat) : Prop :=
  (ids = [] ∧ x = [] ∧ w = .slice none 0 0) ∨ ∃ z o k ks, ids = z :: ks ∧ z ∉ ks ∧ w = .slice (some ⟨z, o, none⟩) x.length u.size ∧ hget H z = some k ∧ k.ro = false ∧ lim ≤ z ∧ Fit o (x.length * u.size) k.cells ∧ RL N H u x ((k.cells.drop o).take (x.length * u.size)) ∧ InR H lim u x ((k.cells.drop o).take (x.length * u.size)) ks

theorem OwnS.cell {N : Nat → Prop} {H : Heap} {lim : Nat} {u : Ty} {x : List u.T} {w : Value} {ids : List Nat} (h : OwnS N H lim u x w ids) : isCell w = true ∧ sameLeaf w w = true := by
  rcases h with ⟨_, _, rfl⟩ | ⟨z, o, k, ks, _, _, rfl, _⟩ <;> simp [isCell, sameLeaf]

theorem OwnS.frame {N M : Nat → Prop} {H G : Heap} {lim : Nat} {u : Ty} {x : List u.T} {w : Value} {ids : List Nat} (h : OwnS N H lim u x w ids) (hf : ∀ z, N z → z < H.length → M z ∧ hget G z = hget H z) (hi : ∀ z ∈ ids, hget G z = hget H z) : OwnS M G lim u x w ids := by
  rcases h with h | ⟨z, o, k, ks, rfl, h0, h2, h3, h4, h5, h6, h7, h8⟩
  · exact .inl h
  · exact .inr ⟨z, o, k, ks, rfl, h0, h2, by rw [hi z (by simp)]; exact h3, h4, h5, h6, h7.frame hf, h8.frame (fun y hy => hi y (by simp [hy]))⟩

/-- An array of owned slices says nothing of the frozen ones. -/
theorem RL.rows {N M : Nat → Prop} {H G : Heap} {t : Ty} {xs : List (Ty.os t).T} {c : List Value} (h : RL N H (.os t) xs c) : RL M G (.os t) xs c :=
  ⟨h.1, fun i hi => h.2 i hi⟩

theorem OwnS.flat {N M : Nat → Prop} {H : Heap} {lim : Nat} {u : Ty} {x : List u.T} {w : Value} {ids : List Nat} (h : OwnS N H lim u x w ids) (hf : (u.flat || u.rowT) = true) : OwnS M H lim u x w ids := by
  rcases h with h | ⟨z, o, k, ks, rfl, h0, h2, h3, h4, h5, h6, h7, h8⟩
  · exact .inl h
  · refine .inr ⟨z, o, k, ks, rfl, h0, h2, h3, h4, h5, h6, ?_, h8⟩
    cases hu : u.flat with
    | true => exact ⟨h7.1, fun i hi => Rep.flat _ hu (h7.2 i hi)⟩
    | false =>
      rw [hu] at hf
      cases u with
      | os t => exact h7.rows
      | _ => simp [Ty.rowT] at hf

theorem OwnS.lt {N : Nat → Prop} {H : Heap} {lim : Nat} {u : Ty} {x : List u.T} {w : Value} {ids : List Nat} (h : OwnS N H lim u x w ids) : ∀ z ∈ ids, z < H.length := by
  rcases h with ⟨rfl, _⟩ | ⟨z, o, k, ks, rfl, h0, h2, h3, _, _, _, _, h8⟩
  · simp
  · intro q hq
    rcases List.mem_cons.1 hq with rfl | hq
    · exact hget_lt h3
    · exact h8.lt q hq

/-- How cells stand for a typed value, and the blocks that it owns. -/
def RepO (N : Nat → Prop) (H : Heap) (lim : Nat) : (t : Ty) → t.T → List Value → List Nat → Prop
  | .os u, x, cs, ids => ∃ w, cs = [w] ∧ OwnS N H lim u x w ids
  | .pair a b, x, cs, ids => ∃ i j, ids = i ++ j ∧ RepO N H lim a x.1 (cs.take a.size) i ∧ RepO N H lim b x.2 (cs.drop a.size) j
  | .int k, x, cs, ids => ids = [] ∧ Rep N H (.int k) x cs
  | .bool, x, cs, ids => ids = [] ∧ Rep N H .bool x cs
  | .str, x, cs, ids => ids = [] ∧ Rep N H .str x cs
  | .sl t, x, cs, ids => ids = [] ∧ Rep N H (.sl t) x cs

theorem RepO.rep {N : Nat → Prop} {H : Heap} {lim : Nat} : ∀ (t : Ty) {x : t.T} {cs : List Value} {ids : List Nat}, RepO N H lim t x cs ids → Rep N H t x cs
  | .int k, _, _, _, h => h.2
  | .bool, _, _, _, h => h.2
  | .str, _, _, _, h => h.2
  | .sl t, _, _, _, h => h.2
  | .os u, _, _, _, h => by obtain ⟨w, rfl, ho⟩ := h; exact ⟨w, rfl, ho.cell⟩
  | .pair a b, x, cs, ids, h => by
    obtain ⟨i, j, _, h1, h2⟩ := h
    unfold Rep
    exact ⟨RepO.rep a h1, RepO.rep b h2⟩

theorem RepO.of {N : Nat → Prop} {H : Heap} {lim : Nat} : ∀ (t : Ty) {x : t.T} {cs : List Value}, t.hasOs = false → Rep N H t x cs → RepO N H lim t x cs []
  | .int k, _, _, _, h => ⟨rfl, h⟩
  | .bool, _, _, _, h => ⟨rfl, h⟩
  | .str, _, _, _, h => ⟨rfl, h⟩
  | .sl t, _, _, _, h => ⟨rfl, h⟩
  | .os u, _, _, f, h => by simp [Ty.hasOs] at f
  | .pair a b, x, cs, f, h => by
    simp only [Ty.hasOs, Bool.or_eq_false_iff] at f
    unfold Rep at h
    exact ⟨[], [], rfl, RepO.of a f.1 h.1, RepO.of b f.2 h.2⟩

theorem RepO.nil {N : Nat → Prop} {H : Heap} {lim : Nat} : ∀ (t : Ty) {x : t.T} {cs : List Value} {ids : List Nat}, t.hasOs = false → RepO N H lim t x cs ids → ids = []
  | .int k, _, _, _, _, h => h.1
  | .bool, _, _, _, _, h => h.1
  | .str, _, _, _, _, h => h.1
  | .sl t, _, _, _, _, h => h.1
  | .os u, _, _, _, f, h => by simp [Ty.hasOs] at f
  | .pair a b, x, cs, ids, f, h => by
    simp only [Ty.hasOs, Bool.or_eq_false_iff] at f
    obtain ⟨i, j, rfl, h1, h2⟩ := h
    rw [RepO.nil a f.1 h1, RepO.nil b f.2 h2]; rfl

theorem RepO.frame {N M : Nat → Prop} {H G : Heap} {lim : Nat} (hf : ∀ z, N z → z < H.length → M z ∧ hget G z = hget H z) : ∀ (t : Ty) {x : t.T} {cs : List Value} {ids : List Nat}, RepO N H lim t x cs ids → (∀ z ∈ ids, hget G z = hget H z) → RepO M G lim t x cs ids
  | .int k, _, _, _, h, _ => ⟨h.1, Rep.frame hf _ h.2⟩
  | .bool, _, _, _, h, _ => ⟨h.1, Rep.frame hf _ h.2⟩
  | .str, _, _, _, h, _ => ⟨h.1, Rep.frame hf _ h.2⟩
  | .sl t, _, _, _, h, _ => ⟨h.1, Rep.frame hf _ h.2⟩
  | .os u, _, _, _, h, hi => by obtain ⟨w, rfl, ho⟩ := h; exact ⟨w, rfl, ho.frame hf hi⟩
  | .pair a b, x, cs, ids, h, hi => by
    obtain ⟨i, j, rfl, h1, h2⟩ := h
    exact ⟨i, j, rfl, RepO.frame hf a h1 (fun z hz => hi z (by simp [hz])), RepO.frame hf b h2 (fun z hz => hi z (by simp [hz]))⟩

theorem RepO.flat {N M : Nat → Prop} {H : Heap} {lim : Nat} : ∀ (t : Ty) {x : t.T} {cs : List Value} {ids : List Nat}, t.nosl = true → RepO N H lim t x cs ids → RepO M H lim t x cs ids
  | .int k, _, _, _, _, h => ⟨h.1, Rep.flat _ rfl h.2⟩
  | .bool, _, _, _, _, h => ⟨h.1, Rep.flat _ rfl h.2⟩
  | .str, _, _, _, _, h => ⟨h.1, Rep.flat _ rfl h.2⟩
  | .sl t, _, _, _, f, h => by simp [Ty.nosl] at f
  | .os u, _, _, _, f, h => by obtain ⟨w, rfl, ho⟩ := h; exact ⟨w, rfl, ho.flat f⟩
  | .pair a b, x, cs, ids, f, h => by
    simp only [Ty.nosl, Bool.and_eq_true] at f
    obtain ⟨i, j, rfl, h1, h2⟩ := h
    exact ⟨i, j, rfl, RepO.flat a f.1 h1, RepO.flat b f.2 h2⟩

theorem RepO.lt {N : Nat → Prop} {H : Heap} {lim : Nat} : ∀ (t : Ty) {x : t.T} {cs : List Value} {ids : List Nat}, RepO N H lim t x cs ids → ∀ z ∈ ids, z < H.length
  | .int k, _, _, _, h => by rw [h.1]; simp
  | .bool, _, _, _, h => by rw [h.1]; simp
  | .str, _, _, _, h => by rw [h.1]; simp
  | .sl t, _, _, _, h => by rw [h.1]; simp
  | .os u, _, _, _, h => by obtain ⟨w, rfl, ho⟩ := h; exact ho.lt
  | .pair a b, x, cs, ids, h => by
    obtain ⟨i, j, rfl, h1, h2⟩ := h
    intro z hz
    rcases List.mem_append.1 hz with hz | hz
    · exact RepO.lt a h1 z hz
    · exact RepO.lt b h2 z hz

theorem refl_noOs {fz : Bool} : ∀ (t : Ty) {cs : List PV} {L : LS} {r : t.T × LS}, refl fz t cs L = some r → t.hasOs = false
  | .int k, _, _, _, _ => rfl
  | .bool, _, _, _, _ => rfl
  | .str, _, _, _, _ => rfl
  | .sl t, _, _, _, _ => rfl
  | .os u, _, _, _, h => by simp [refl] at h
  | .pair a b, cs, L, r, h => by
    unfold refl at h
    obtain ⟨x, h1, h⟩ := ob h
    obtain ⟨y, h2, h⟩ := ob h
    simp only [Ty.hasOs, Bool.or_eq_false_iff]
    exact ⟨refl_noOs a h1, refl_noOs b h2⟩

/-- A typed value handed over, and the blocks that go along. -/
def HR (N : Nat → Prop) (H : Heap) (lim : Nat) (kd : Kd) (v : TV) (w : Value) (ids : List Nat) : Prop :=
  match kd with
  | .fz => ∃ cs, IsVal v.1 cs w ∧ RepO N H lim v.1 v.2 cs ids
  | .cb => ∃ z k j, ids = z :: j ∧ w = .pointer (some ⟨z, 0, none⟩) ∧ hget H z = some k ∧ k.ro = false ∧ lim ≤ z ∧ RepO N H lim v.1 v.2 k.cells j
  | .os => ∃ u x, v = ⟨.sl u, x⟩ ∧ OwnS N H lim u x w ids
  | .cl g => ids = [] ∧ w = .func (.func g) ⟨[]⟩ ⟨[]⟩

theorem HR.frame {N M : Nat → Prop} {H G : Heap} {lim : Nat} {kd : Kd} {v : TV} {w : Value} {ids : List Nat} (h : HR N H lim kd v w ids) (hf : ∀ z, N z → z < H.length → M z ∧ hget G z = hget H z) (hi : ∀ z ∈ ids, hget G z = hget H z) : HR M G lim kd v w ids := by
  unfold HR at h ⊢
  cases kd with
  | fz => obtain ⟨cs, h2, h3⟩ := h; exact ⟨cs, h2, RepO.frame hf _ h3 hi⟩
  | cb =>
    obtain ⟨z, k, j, rfl, h2, h3, h4, h5, h6⟩ := h
    exact ⟨z, k, j, rfl, h2, by rw [hi z (by simp)]; exact h3, h4, h5, RepO.frame hf _ h6 (fun z hz => hi z (by simp [hz]))⟩
  | os =>
    obtain ⟨u, x, rfl, h⟩ := h
    exact ⟨u, x, rfl, h.frame hf hi⟩
  | cl g => exact h

/-- No slice in what a block that is handed over holds. -/
def flatK : Kd → Ty → Bool
  | .fz, t => t.nosl
  | .cb, t => t.nosl
  | .os, .sl u => u.flat || u.rowT
  | .os, _ => true
  | .cl _, _ => true

theorem HR.flat {N M : Nat → Prop} {H : Heap} {lim : Nat} {kd : Kd} {v : TV} {w : Value} {ids : List Nat} (h : HR N H lim kd v w ids) (hf : flatK kd v.1 = true) : HR M H lim kd v w ids := by
  unfold HR at h ⊢
  cases kd with
  | fz => obtain ⟨cs, h2, h3⟩ := h; exact ⟨cs, h2, RepO.flat _ hf h3⟩
  | cb => obtain ⟨z, k, j, rfl, h2, h3, h4, h5, h6⟩ := h; exact ⟨z, k, j, rfl, h2, h3, h4, h5, RepO.flat _ hf h6⟩
  | os =>
    obtain ⟨u, x, rfl, h⟩ := h
    exact ⟨u, x, rfl, h.flat hf⟩
  | cl g => exact h

theorem HR.lt {N : Nat → Prop} {H : Heap} {lim : Nat} {kd : Kd} {v : TV} {w : Value} {ids : List Nat} (h : HR N H lim kd v w ids) : ∀ z ∈ ids, z < H.length := by
  unfold HR at h
  cases kd with
  | fz => obtain ⟨cs, _, h⟩ := h; exact RepO.lt _ h
  | cb =>
    obtain ⟨z, k, j, rfl, h2, h3, _, _, h6⟩ := h
    intro q hq
    rcases List.mem_cons.1 hq with rfl | hq
    · exact hget_lt h3
    · exact RepO.lt _ h6 q hq
  | os =>
    obtain ⟨u, x, rfl, h⟩ := h
    exact h.lt
  | cl g => rw [h.1]; simp

def HRs (N : Nat → Prop) (H : Heap) (lim : Nat) : List Kd → List TV → List Value → List (List Nat) → Prop
  | [], [], [], [] => True
  | k :: ks, v :: vs, w :: ws, i :: is => HR N H lim k v w i ∧ HRs N H lim ks vs ws is
  | _, _, _, _ => False

theorem HRs.frame {N M : Nat → Prop} {H G : Heap} {lim : Nat} (hf : ∀ z, N z → z < H.length → M z ∧ hget G z = hget H z) : ∀ {ks : List Kd} {vs : List TV} {ws : List Value} {is : List (List Nat)}, HRs N H lim ks vs ws is → (∀ z ∈ is.flatten, hget G z = hget H z) → HRs M G lim ks vs ws is
  | [], [], [], [], _, _ => trivial
  | _ :: _, _ :: _, _ :: _, _ :: _, h, hi => ⟨h.1.frame hf (fun z hz => hi z (by simp [hz])), HRs.frame hf h.2 (fun z hz => hi z (by simp at hz ⊢; exact .inr hz))⟩

/-- The kinds and values of what comes back beside the results. -/
def outKd : List (PM × Ty) → List Kd
  | [] => []
  | (.io, _) :: r => .os :: outKd r
  | (.ps, _) :: r => .cb :: outKd r
  | _ :: r => outKd r

def outVs : List (PM × Ty) → List Value → List Value
  | [], _ => []
  | (.io, _) :: r, w :: ws => w :: outVs r ws
  | (.ps, _) :: r, w :: ws => w :: outVs r ws
  | _ :: r, _ :: ws => outVs r ws
  | _ :: _, [] => []

def outIds : List (PM × Ty) → List (List Nat) → List (List Nat)
  | [], _ => []
  | (.io, _) :: r, w :: ws => w :: outIds r ws
  | (.ps, _) :: r, w :: ws => w :: outIds r ws
  | _ :: r, _ :: ws => outIds r ws
  | _ :: _, [] => []

/-- A function by value and the same in the first interpreter. -/
def FnOk (sig : Sig) (call : TupT sig.ptys → Option (TupT sig.rtys)) (callE : List Value → Nat → Heap → Option (Value × Heap)) (lim : Nat) : Prop :=
  ∀ a r, call a = some r → ∀ (H : Heap) (Ban : Nat → Prop) (ws : List Value) (idss : List (List Nat)),
    (∀ z, Ban z → z < H.length) → lim ≤ H.length → idss.flatten.Nodup → (∀ z ∈ idss.flatten, ¬ Ban z) →
    HRs (fun z => z ∉ idss.flatten ∧ ¬ Ban z) H lim (sig.params.map fun p => p.1.kd) (unT sig.ptys a) ws idss →
    ∃ v H' rvs rids oids, callE ws lim H = some (v, H') ∧ v = oneOf rvs ∧ H.length ≤ H'.length ∧ (∀ z, z < H.length → z ∉ idss.flatten → hget H' z = hget H z) ∧
      (rids.flatten ++ oids.flatten).Nodup ∧ (∀ z ∈ rids.flatten ++ oids.flatten, z ∈ idss.flatten ∨ H.length ≤ z) ∧ (∀ z ∈ rids.flatten ++ oids.flatten, ¬ Ban z) ∧
      HRs (fun z => z ∉ rids.flatten ++ oids.flatten ∧ ¬ Ban z) H' lim (sig.results.map fun q => kdR q.1) ((unT sig.rtys r).take sig.results.length) rvs rids ∧
      HRs (fun z => z ∉ rids.flatten ++ oids.flatten ∧ ¬ Ban z) H' lim (outKd sig.params) ((unT sig.rtys r).drop sig.results.length) (outVs sig.params ws) oids

theorem unT_mkT : ∀ (ts : List Ty) {vs : List TV} {a : TupT ts}, mkT ts vs = some a → unT ts a = vs
  | [], [], a, h => rfl
  | [t], [v], a, h => by
    have e := tcast_eq h
    obtain ⟨t', x⟩ := v
    simp only at e; subst e
    have := tcast_self h
    simp only [unT]; rw [← this]
  | t :: u :: r, v :: vs, a, h => by
    simp only [mkT] at h
    replace h := ob h; obtain ⟨x, h1, h⟩ := h
    replace h := ob h; obtain ⟨y, h2, h⟩ := h
    simp at h; subst h
    have e := tcast_eq h1
    obtain ⟨t', x'⟩ := v
    simp only at e; subst e
    have := tcast_self h1
    simp only [unT]; rw [unT_mkT (u :: r) h2, ← this]
  | [], _ :: _, a, h => by simp [mkT] at h
  | [t], [], a, h => by simp [mkT] at h
  | [t], _ :: _ :: _, a, h => by simp [mkT] at h
  | _ :: _ :: _, [], a, h => by simp [mkT] at h

/-- The kids of a block, listed. -/
def kidsOf (s : S) (b : Nat) : List Nat := (List.range s.H.length).filter fun z => match s.Kid z with | some p => p.1 == b | none => false

theorem kidsOf_mem {s : S} (hs : StR s) {b z : Nat} : z ∈ kidsOf s b ↔ ∃ i, s.Kid z = some (b, i) := by
  unfold kidsOf
  rw [List.mem_filter, List.mem_range]
  constructor
  · rintro ⟨_, h⟩
    split at h
    · rename_i p hp
      have : p.1 = b := by simpa using h
      exact ⟨p.2, by rw [hp, ← this]⟩
    · simp at h
  · rintro ⟨i, h⟩
    exact ⟨(hs.kl z _ h).1, by rw [h]; simp⟩

theorem kidsOf_nodup (s : S) (b : Nat) : (kidsOf s b).Nodup := List.Pairwise.filter _ List.nodup_range

/-- An owned slice taken out of the store. -/
theorem takeO_own {s : S} (hs : StR s) {u : Ty} {p : PV} {w : Value} (hr : LR0 s p w) {x : List u.T} {L' : LS} (h : takeO u p s.L = some (x, L')) :
    ∃ s' ids, s'.L = L' ∧ s'.H = s.H ∧ s'.μ = s.μ ∧ Keep s s' ∧ StR s' ∧ OwnS s'.N s'.H s.lim u x w ids ∧ (∀ z, s'.Lim z ↔ s.Lim z ∨ z ∈ ids) ∧ (∀ z ∈ ids, ¬ s.Lim z) ∧ ids.Nodup ∧ (∀ z, Own s' z ↔ Own s z) := by
  unfold takeO at h
  split at h
  · simp at h; obtain ⟨rfl, rfl⟩ := h
    obtain rfl : w = _ := hr
    exact ⟨s, [], rfl, rfl, rfl, Keep.refl s, hs, .inl ⟨rfl, rfl, rfl⟩, by simp, by simp, by simp, fun _ => Iff.rfl⟩
  · rename_i b off no
    split at h
    · rename_i ver wt xs hb
      split at h
      · simp at h
      rename_i hnos0
      replace h := ob h; obtain ⟨y, h1, h⟩ := h
      simp at h; obtain ⟨rfl, rfl⟩ := h
      have e0 := tcast_eq h1
      injection e0 with e0; subst e0
      have := tcast_self h1; subst this
      have hr : LR0 s (.osl b off no) w := hr
      obtain ⟨hlb, hr⟩ := hr
      obtain ⟨s1, l1, g1, u1, k1, t1, hl, ho⟩ := hs.kill hb rfl false
      have g1' : s1.H = s.H := g1
      have hnos : ∀ t, wt ≠ .os t := fun t e => by subst e; simp [Ty.isOs] at hnos0
      refine ⟨s1, (match s.μ b with | none => [] | some m => [m.z]), l1, g1', u1, k1, t1, ?_, ?_, ?_, ?_, ho⟩
      · cases hm : s.μ b with
        | none =>
          rw [hm] at hr; obtain ⟨rfl, _, rfl⟩ := hr
          have hx := arr_nil hs hb hm; subst hx
          have : cut ([] : List wt.T) 0 no = [] := by cases no <;> simp [cut]
          exact .inl ⟨rfl, this, rfl⟩
        | some m =>
          rw [hm] at hr; obtain ⟨g0, rfl⟩ := hr
          obtain ⟨a1, a2, k, a3, a4, a5, a6, a7⟩ := arr_info hs hb hm
          have hcut : cut xs off no = (xs.drop off).take (no.getD (m.n - off)) := by
            cases no with
            | none => simp only [cut, Option.getD_none]; rw [List.take_of_length_le (by simp; omega)]
            | some l => rfl
          have hle : off + no.getD (m.n - off) ≤ xs.length := by omega
          have hlen : (cut xs off no).length = no.getD (m.n - off) := by rw [hcut]; simp; omega
          have h1 := RL.sub a4 a5 hle
          rw [← hcut] at h1
          refine .inr ⟨m.z, m.sh + off * wt.size, k, [], rfl, by simp, ?_, by rw [g1']; exact a3, (a6 rfl).1, (a6 rfl).2, ?_, ?_, InR.ofNo hnos⟩
          · rw [hlen, a1]
          · rw [hlen]; exact (arr_fit hs hb hm a3).sub (by rw [← Nat.add_mul]; exact Nat.mul_le_mul_right _ hle)
          · rw [hlen]; exact h1.frame (fun z hz hl => ⟨k1.N hl hz, k1.fr z hl hz.1⟩)
      · intro z; rw [hl z]
        cases s.μ b with
        | none => simp
        | some m => simp [eq_comm]
      · cases hm : s.μ b with
        | none => simp
        | some m => intro z hz; simp at hz; subst hz; exact hs.lm b _ m hb hm
      · cases s.μ b <;> simp
    · rename_i ver wt xs hb
      split at h
      · replace h := ob h; obtain ⟨y, h1, h⟩ := h
        simp at h; obtain ⟨rfl, rfl⟩ := h
        have e0 := tcast_eq h1
        injection e0 with e0; subst e0
        have := tcast_self h1; subst this
        have hr : LR0 s (.osl b 0 none) w := hr
        obtain ⟨hlb, hr⟩ := hr
        obtain ⟨_, hfl, hrow⟩ := rows_info hs hb
        rcases hrow with ⟨hm, hx⟩ | ⟨m, k, hm, a1, a2, a3, a4, a5, a6, a7⟩
        · rw [hm] at hr; obtain ⟨_, _, rfl⟩ := hr
          obtain ⟨s1, l1, g1, u1, k1, t1, hl, ho⟩ := hs.kill hb rfl false
          have g1' : s1.H = s.H := g1
          refine ⟨s1, [], l1, g1', u1, k1, t1, .inl ⟨rfl, hx, rfl⟩, fun z => ?_, by simp, by simp, ho⟩
          rw [hl z, hm]; simp
        · obtain ⟨s1, l1, g1, u1, k1, t1, hl, ho, _⟩ := hs.killR hb rfl false
          have g1' : s1.H = s.H := g1
          have hkn : ∀ z ∈ kidsOf s b, ¬ s.Lim z := fun z hz => by
            obtain ⟨i, hi⟩ := (kidsOf_mem hs).1 hz; exact (hs.kl z _ hi).2.2.1
          have hka : ∀ z ∈ kidsOf s b, ∃ k, hget s1.H z = some k := fun z hz => by
            obtain ⟨i, hi⟩ := (kidsOf_mem hs).1 hz; rw [g1']; exact hs.ka z _ hi
          rw [hm] at hr; obtain ⟨_, rfl⟩ := hr
          refine ⟨s1, m.z :: kidsOf s b, l1, g1', u1, k1, t1, ?_, fun z => ?_, fun z hz => ?_, ?_, ho⟩
          · refine .inr ⟨m.z, m.sh, k, kidsOf s b, rfl, ?_, ?_, by rw [g1']; exact a3, a5, a6, by rw [show (Ty.os wt).size = 1 from rfl, Nat.mul_one]; exact a4, ?_, hfl, kidsOf_nodup s b, hka, (fun z => match s.Kid z with | some p => if p.1 = b then some p.2 else none | none => none), fun z i hz => ?_, fun i hi => ?_⟩
            · intro hz
              obtain ⟨i, hi⟩ := (kidsOf_mem hs).1 hz
              exact hs.kid_ne hi hb hm rfl
            · simp [a1, a2, Ty.size]
            · rw [show (Ty.os wt).size = 1 from rfl, Nat.mul_one]
              refine ⟨by rw [List.length_take, List.length_drop, show (Ty.os wt).size = 1 from rfl]; have := a4.1; omega, fun i hi => ?_⟩
              obtain ⟨v, q1, q2⟩ := a7 i hi (by simp)
              refine ⟨v, ?_, ?_⟩
              · rw [show (Ty.os wt).size = 1 from rfl, Nat.mul_one]
                apply List.ext_getElem?; intro q
                rw [seg_get]
                by_cases hq : q < 1
                · rw [if_pos hq, show q = 0 by omega, List.getElem?_take_of_lt (by omega), List.getElem?_drop]; simpa using q1
                · rw [if_neg hq, List.getElem?_eq_none (by simp; omega)]
              · rcases q2 with ⟨_, rfl⟩ | ⟨_, _, _, rfl, _⟩ <;> simp [isCell, sameLeaf]
            · replace hz : (match s.Kid z with | some p => if p.1 = b then some p.2 else none | none => none) = some i := hz
              split at hz
              · rename_i p hp
                split at hz
                · rename_i e; exact (kidsOf_mem hs).2 ⟨p.2, by rw [hp, ← e]⟩
                · simp at hz
              · simp at hz
            · obtain ⟨v, q1, q2⟩ := a7 i hi (by simp)
              refine ⟨v, ?_, q2.mono hfl (fun z hz => ⟨by show (match s.Kid z with | some p => if p.1 = b then some p.2 else none | none => none) = some i; rw [hz]; simp, by rw [g1']⟩)⟩
              rw [show (Ty.os wt).size = 1 from rfl, Nat.mul_one, List.getElem?_take_of_lt hi, List.getElem?_drop]; exact q1
          · rw [hl z, List.mem_cons, kidsOf_mem hs, hm]
            simp [eq_comm]
          · rcases List.mem_cons.1 hz with rfl | hz
            · exact hs.lm b _ m hb hm
            · exact hkn z hz
          · refine List.nodup_cons.2 ⟨fun hz => ?_, kidsOf_nodup s b⟩
            obtain ⟨i, hi⟩ := (kidsOf_mem hs).1 hz
            exact hs.kid_ne hi hb hm rfl
      · simp at h
    · simp at h
  · rename_i b i ver wt x0
    split at h
    · rename_i v' t xs hb
      split at h
      · rename_i hv
        have hv := Nat.eq_of_beq_eq_true hv
        replace h := ob h; obtain ⟨y, h1, h⟩ := h
        simp at h; obtain ⟨rfl, rfl⟩ := h
        have e0 := tcast_eq h1
        injection e0 with e0; subst e0
        have := tcast_self h1; subst this
        obtain ⟨hlb, _, hval⟩ : LR0 s (.rw b i ver wt x0) w := hr
        obtain ⟨hfl, hrow, _⟩ := (hval _ hb).2 hv
        have hno : ∀ t, wt ≠ .os t := fun t e => by subst e; simp [Ty.flat] at hfl
        rcases hrow with ⟨rfl, rfl⟩ | ⟨z, oo, k, rfl, q1, q2, q3, q4, q5, q6⟩
        · obtain ⟨s1, l1, g1, u1, k1, t1, hl, ho⟩ := hs.detach (i := i) hb none (fun z h => by simp at h)
          refine ⟨s1, [], l1, g1, u1, k1, t1, .inl ⟨rfl, rfl, rfl⟩, fun z => ?_, by simp, by simp, ho⟩
          rw [hl z]; simp
        · obtain ⟨s1, l1, g1, u1, k1, t1, hl, ho⟩ := hs.detach (i := i) hb (some z) (fun y h => by injection h with h; subst h; exact q1)
          refine ⟨s1, [z], l1, g1, u1, k1, t1, .inr ⟨z, oo, k, [], rfl, by simp, rfl, by rw [g1]; exact q2, q3, q4, q5, ?_, InR.ofNo hno⟩, fun y => ?_, fun y hy => ?_, by simp, ho⟩
          · refine ⟨by rw [List.length_take, List.length_drop]; have := q5.1; omega, fun j hj => ?_⟩
            have hm := mul_lt (k := wt.size) hj
            have e2 : seg ((k.cells.drop oo).take (x0.length * wt.size)) (j * wt.size) wt.size = (k.cells.drop (oo + j * wt.size)).take wt.size := by
              unfold seg; rw [List.drop_take, List.take_take, Nat.min_eq_left (by omega), List.drop_drop]
            rw [e2]; exact Rep.flat wt hfl (q6 j hj)
          · rw [hl y]; simp [eq_comm]
          · simp at hy; subst hy; exact (hs.kl y _ q1).2.2.1
      · simp at h
    · simp at h
  · simp at h

theorem outOne_own {s : S} (hs : StR s) {t : Ty} {p : PV} {w : Value} (hr : ER s p w) {x : TV} {L' : LS} (h : outOne true t p s.L = some (x, L')) :
    x.1 = t ∧ ∃ s' ids, s'.L = L' ∧ s'.H = s.H ∧ s'.μ = s.μ ∧ Keep s s' ∧ StR s' ∧ HR s'.N s'.H s.lim .os x w ids ∧ (∀ z, s'.Lim z ↔ s.Lim z ∨ z ∈ ids) ∧ (∀ z ∈ ids, ¬ s.Lim z) ∧ ids.Nodup ∧ (∀ z, Own s' z ↔ Own s z) := by
  unfold outOne at h
  split at h
  · rename_i e; simp at e
  · split at h
    · rename_i u
      obtain ⟨⟨y, L1⟩, h1, h⟩ := ob h
      simp at h; obtain ⟨rfl, rfl⟩ := h
      have hr2 : LR0 s p w := by
        have h4' := h1
        unfold takeO at h4'
        split at h4'
        · exact hr
        · exact hr
        · exact hr
        · simp at h4'
      obtain ⟨s', ids, a1, a2, a3, a4, a5, a6, a7⟩ := takeO_own hs hr2 h1
      exact ⟨rfl, s', ids, a1, a2, a3, a4, a5, ⟨u, y, rfl, a6⟩, a7⟩
    · simp at h

theorem wrapO_rel {s : S} {t : Ty} {ps : List PV} {cs : List Value} {v : Value} (hv : IsVal t cs v) (h : LRs s ps cs) : AR s (wrapV t ps) v := by
  have leaf : ∀ w, cs = [w] → ∃ p, ps = [p] ∧ LR0 s p w := by
    rintro w rfl
    match ps, h with
    | [p], h => exact ⟨p, rfl, h.1⟩
  cases t with
  | pair a b => obtain rfl := hv; exact ⟨cs, rfl, h⟩
  | int k => obtain ⟨p, rfl, hp⟩ := leaf v hv; exact AR.of hp
  | bool => obtain ⟨p, rfl, hp⟩ := leaf v hv; exact AR.of hp
  | str => obtain ⟨p, rfl, hp⟩ := leaf v hv; exact AR.of hp
  | sl t => obtain ⟨p, rfl, hp⟩ := leaf v hv; exact AR.of hp
  | os t => obtain ⟨p, rfl, hp⟩ := leaf v hv; exact AR.of hp

theorem takeO_out {u : Ty} {v : PV} {L L' : LS} {x : List u.T} (h : takeO u v L = some (x, L')) : outOne true (.sl u) v L = some (⟨.sl u, x⟩, L') := by
  unfold outOne; simp only [h, obind]

/-- A value taken out of the store, with what it owns. -/
theorem takeC_sim : ∀ (t : Ty) {s : S} {cs : List PV} {vs : List Value} {x : t.T} {L' : LS}, StR s → LRs s cs vs → takeC t cs s.L = some (x, L') →
    ∃ s' ids, s'.L = L' ∧ s'.H = s.H ∧ s'.μ = s.μ ∧ Keep s s' ∧ StR s' ∧ RepO s'.N s'.H s.lim t x vs ids ∧ (∀ z, s'.Lim z ↔ s.Lim z ∨ z ∈ ids) ∧ (∀ z ∈ ids, ¬ s.Lim z) ∧ ids.Nodup ∧ (∀ z, Own s' z → Own s z)
  | .int k, s, cs, vs, x, L', hs, hr, h => by
    obtain ⟨s', a1, a2, a3, a4, a5, a6, a7, a8⟩ := refl_fz (.int k) hs hr h
    exact ⟨s', [], a1, a2, a3, a4, a5, ⟨rfl, a6⟩, by simp [a8], by simp, by simp, a7⟩
  | .bool, s, cs, vs, x, L', hs, hr, h => by
    obtain ⟨s', a1, a2, a3, a4, a5, a6, a7, a8⟩ := refl_fz .bool hs hr h
    exact ⟨s', [], a1, a2, a3, a4, a5, ⟨rfl, a6⟩, by simp [a8], by simp, by simp, a7⟩
  | .str, s, cs, vs, x, L', hs, hr, h => by
    obtain ⟨s', a1, a2, a3, a4, a5, a6, a7, a8⟩ := refl_fz .str hs hr h
    exact ⟨s', [], a1, a2, a3, a4, a5, ⟨rfl, a6⟩, by simp [a8], by simp, by simp, a7⟩
  | .sl t, s, cs, vs, x, L', hs, hr, h => by
    obtain ⟨s', a1, a2, a3, a4, a5, a6, a7, a8⟩ := refl_fz (.sl t) hs hr h
    exact ⟨s', [], a1, a2, a3, a4, a5, ⟨rfl, a6⟩, by simp [a8], by simp, by simp, a7⟩
  | .os u, s, cs, vs, x, L', hs, hr, h => by
    unfold takeC at h; split at h
    · rename_i p
      obtain ⟨v, rfl, hv⟩ := hr.one
      obtain ⟨_, s1, ids, l1, g1, u1, k1, t1, hh, hl, hnl, hnd, ho⟩ := outOne_own hs (ER.of0 hv) (takeO_out h)
      obtain ⟨u', x', e, hh⟩ := hh
      injection e with e1 e2
      injection e1 with e1; subst e1
      replace e2 := eq_of_heq e2; subst e2
      exact ⟨s1, ids, l1, g1, u1, k1, t1, ⟨v, rfl, hh⟩, hl, hnl, hnd, fun z hz => (ho z).1 hz⟩
    · simp at h
  | .pair a b, s, cs, vs, x, L', hs, hr, h => by
    unfold takeC at h
    obtain ⟨r, h1, h⟩ := ob h
    obtain ⟨q, h2, h⟩ := ob h
    simp at h; obtain ⟨e1, e2⟩ := h
    obtain ⟨s1, i, l1, g1, u1, k1, t1, r1, m1, n1, d1, o1⟩ := takeC_sim a (x := r.1) (L' := r.2) hs (All2.take a.size hr) (by rw [h1])
    rw [← l1] at h2
    obtain ⟨s2, j, l2, g2, u2, k2, t2, r2, m2, n2, d2, o2⟩ := takeC_sim b (x := q.1) (L' := q.2) t1 (All2.drop a.size (k1.LRs hr)) (by rw [h2])
    subst e1 e2
    have hlim : s1.lim = s.lim := k1.lim
    refine ⟨s2, i ++ j, l2, g2.trans g1, u2.trans u1, k1.trans k2, t2, ⟨i, j, rfl, RepO.frame (fun z hz hlt => ⟨k2.N hlt hz, by rw [g2]⟩) a r1 (fun z _ => by rw [g2]), by rw [← hlim]; exact r2⟩, fun z => ?_, fun z hz => ?_, ?_, fun z hz => o1 z (o2 z hz)⟩
    · rw [m2, m1, List.mem_append]; constructor
      · rintro ((h | h) | h) <;> simp [h]
      · rintro (h | h | h) <;> simp [h]
    · rcases List.mem_append.1 hz with hz | hz
      · exact n1 z hz
      · exact fun h => n2 z hz ((m1 z).2 (.inl h))
    · rw [List.nodup_append]
      exact ⟨d1, d2, fun p hp q hq e => by subst e; exact n2 p hq ((m1 p).2 (.inr hp))⟩

theorem mkBody_no : ∀ {u : Ty} (x : List u.T), (∀ t, u = .os t → t.flat = false) → mkBody u x = .arr u x
  | .os t, x, h => by simp only [mkBody, h t rfl]
  | .int _, _, _ => rfl
  | .bool, _, _ => rfl
  | .str, _, _ => rfl
  | .sl _, _, _ => rfl
  | .pair _ _, _, _ => rfl

/-- An owned slice put in. -/
theorem giveO_sim {s : S} (hs : StR s) {u : Ty} {x : List u.T} {w : Value} {ids : List Nat} (ho : OwnS s.N s.H s.lim u x w ids) (hl : ∀ z ∈ ids, s.Lim z) :
    ∃ s', s'.L = lpush s.L (mkBody u x) ∧ s'.H = s.H ∧ Keep s s' ∧ StR s' ∧ LR0 s' (.osl s.L.bl.length 0 none) w ∧ (∀ z, s.N z → s'.N z) ∧ (∀ z, s.Lim z → z ∉ ids → s'.Lim z) := by
  by_cases hu : ∃ t, u = .os t ∧ t.flat = true
  · obtain ⟨t, rfl, hf⟩ := hu
    have hmk : mkBody (.os t) x = .rows t x none := by simp only [mkBody, hf]
    rw [hmk]
    rcases ho with ⟨rfl, rfl, rfl⟩ | ⟨z, oo, k, ks, rfl, q0, rfl, q1, q2, q3, q4, q5, q6, q7, q8, Kf, q9, q10⟩
    · obtain ⟨s1, e1, e2, e3, k1, t1, l1, _, n1⟩ := hs.push0R t hf
      refine ⟨s1, e1, e2, k1, t1, ⟨by rw [e1, lpush_len]; omega, ?_⟩, n1, fun z hz _ => by rw [l1]; exact hz⟩
      rw [e3]; simp
    · have hz : s.Lim z := hl z (by simp)
      rw [show (Ty.os t).size = 1 from rfl, Nat.mul_one] at q4 q5 q10
      obtain ⟨s1, e1, e2, e3, k1, t1, l1, o1⟩ := hs.adoptR (.rows t x none) ⟨z, oo, 1, x.length⟩ hz Kf (fun y i e => ⟨hl y (by simp [q9 y i e]), fun h => q0 (by subst h; exact q9 _ i e), q8 y (q9 y i e)⟩) (fun s' hk hm hH hkid => by
        unfold BR; simp only [hm]
        refine ⟨trivial, hf, trivial, trivial, k, by rw [hH]; exact q1, q4, q2, by rw [hk.lim]; exact q3, fun i hi _ => ?_⟩
        obtain ⟨v, p1, p2⟩ := q10 i hi
        refine ⟨v, ?_, ?_⟩
        · rw [List.getElem?_take_of_lt hi, List.getElem?_drop] at p1; exact p1
        · rw [hk.lim]; exact p2.mono hf (fun y hy => ⟨hkid y i hy, by rw [hH]⟩))
      refine ⟨s1, e1, e2, k1, t1, ⟨by rw [e1, lpush_len]; omega, ?_⟩, fun z' hz' => ⟨fun h => hz'.1 ((o1 z').1 h), by rw [k1.ban]; exact hz'.2⟩, fun z' hz' hn => (l1 z').2 ⟨hz', fun e => hn (by simp [e]), ?_⟩⟩
      · rw [e3]; simp [Ty.size]
      · cases e : Kf z' with
        | none => rfl
        | some i => exact absurd (List.mem_cons_of_mem _ (q9 z' i e)) hn
  · have hno : ∀ t, u = .os t → t.flat = false := fun t e => by
      cases h : t.flat with
      | false => rfl
      | true => exact absurd ⟨t, e, h⟩ hu
    rw [mkBody_no x hno]
    rcases ho with ⟨rfl, rfl, rfl⟩ | ⟨z, oo, k, ks, rfl, q0, rfl, q1, q2, q3, q4, q5, q6⟩
    · obtain ⟨s1, e1, e2, e3, k1, t1, l1, n1⟩ := hs.push0 u
      refine ⟨s1, e1, e2, k1, t1, ⟨by rw [e1, lpush_len]; omega, ?_⟩, n1, fun z hz _ => by rw [l1]; exact hz⟩
      rw [e3]; simp
    · have hz : s.Lim z := hl z (by simp)
      obtain ⟨s1, e1, e2, e3, k1, t1, l1, o1⟩ := hs.adopt (.arr u x) ⟨z, oo, u.size, x.length⟩ hz (fun s' hk hm hH hNi => by
        unfold BR; simp only [hm]
        refine ⟨trivial, trivial, k, by rw [hH]; exact q1, q4, fun i hi => ?_, fun _ => ⟨q2, by rw [hk.lim]; exact q3⟩, fun e => absurd e (by decide)⟩
        have := q5.2 i hi
        have hmi := mul_lt (k := u.size) hi
        unfold seg at this; rw [List.drop_take, List.take_take, Nat.min_eq_left (by omega), List.drop_drop] at this
        rw [hH]; exact Rep.mono (fun z hz => (hNi z).2 hz) _ this)
      refine ⟨s1, e1, e2, k1, t1, ⟨by rw [e1, lpush_len]; omega, ?_⟩, fun z' hz' => ⟨fun h => hz'.1 ((o1 z').1 h), by rw [k1.ban]; exact hz'.2⟩, fun z' hz' hn => (l1 z').2 ⟨hz', fun e => hn (by simp [e])⟩⟩
      rw [e3]; simp

theorem giveC_get : ∀ (t : Ty) {x : t.T} {L : LS}, L.bl.length ≤ (giveC t x L).2.bl.length ∧ ∀ b, b < L.bl.length → lget (giveC t x L).2 b = lget L b
  | .int k, _, L => ⟨Nat.le_refl _, fun _ _ => rfl⟩
  | .bool, _, L => ⟨Nat.le_refl _, fun _ _ => rfl⟩
  | .str, _, L => ⟨Nat.le_refl _, fun _ _ => rfl⟩
  | .sl t, _, L => ⟨Nat.le_refl _, fun _ _ => rfl⟩
  | .os u, x, L => by
    simp only [giveC]
    exact ⟨by rw [lpush_len]; omega, fun b hb => lget_push hb⟩
  | .pair a c, x, L => by
    simp only [giveC]
    obtain ⟨a1, a2⟩ := giveC_get a (x := x.1) (L := L)
    obtain ⟨b1, b2⟩ := giveC_get c (x := x.2) (L := (giveC a x.1 L).2)
    exact ⟨Nat.le_trans a1 b1, fun b hb => by rw [b2 b (Nat.lt_of_lt_of_le hb a1), a2 b hb]⟩

/-- A value put in, with what it owns. -/
theorem giveC_sim : ∀ (t : Ty) {s : S} {x : t.T} {vs : List Value} {ids : List Nat}, StR s → RepO s.N s.H s.lim t x vs ids → (∀ z ∈ ids, s.Lim z) → ids.Nodup →
    ∃ s', s'.L = (giveC t x s.L).2 ∧ s'.H = s.H ∧ Keep s s' ∧ StR s' ∧ LRs s' (giveC t x s.L).1 vs ∧ (∀ z, s.N z → s'.N z) ∧ (∀ z, s.Lim z → z ∉ ids → s'.Lim z)
  | .int k, s, x, vs, ids, hs, hr, _, _ => ⟨s, rfl, rfl, Keep.refl s, hs, reify_rel (.int k) (Rep.mono (fun z hz => S.NN_clk hz) _ hr.2), fun _ h => h, fun _ h _ => h⟩
  | .bool, s, x, vs, ids, hs, hr, _, _ => ⟨s, rfl, rfl, Keep.refl s, hs, reify_rel .bool (Rep.mono (fun z hz => S.NN_clk hz) _ hr.2), fun _ h => h, fun _ h _ => h⟩
  | .str, s, x, vs, ids, hs, hr, _, _ => ⟨s, rfl, rfl, Keep.refl s, hs, reify_rel .str (Rep.mono (fun z hz => S.NN_clk hz) _ hr.2), fun _ h => h, fun _ h _ => h⟩
  | .sl t, s, x, vs, ids, hs, hr, _, _ => ⟨s, rfl, rfl, Keep.refl s, hs, reify_rel (.sl t) (Rep.mono (fun z hz => S.NN_clk hz) _ hr.2), fun _ h => h, fun _ h _ => h⟩
  | .os u, s, x, vs, ids, hs, hr, hl, hn => by
    obtain ⟨w, rfl, ho⟩ := hr
    obtain ⟨s1, a1, a2, a3, a4, a5, a6, a7⟩ := giveO_sim hs ho hl
    exact ⟨s1, a1, a2, a3, a4, ⟨a5, trivial⟩, a6, a7⟩
  | .pair a b, s, x, vs, ids, hs, hr, hl, hn => by
    obtain ⟨i, j, rfl, r1, r2⟩ := hr
    rw [List.nodup_append] at hn
    obtain ⟨n1, n2, n3⟩ := hn
    obtain ⟨s1, a1, a2, a3, a4, a5, a6, a7⟩ := giveC_sim a hs r1 (fun z hz => hl z (by simp [hz])) n1
    obtain ⟨s2, b1, b2, b3, b4, b5, b6, b7⟩ := giveC_sim b a4 (RepO.frame (H := s.H) (G := s1.H) (M := s1.N) (fun z hz _ => ⟨a6 z hz, by rw [a2]⟩) b (by rw [a3.lim]; exact r2) (fun z _ => by rw [a2])) (fun z hz => a7 z (hl z (by simp [hz])) (fun h => n3 z h z hz rfl)) n2
    simp only [giveC]
    rw [a1] at b1 b5
    refine ⟨s2, b1, b2.trans a2, a3.trans b3, b4, ?_, fun z hz => b6 z (a6 z hz), fun z hz hm => b7 z (a7 z hz (fun h => hm (by simp [h]))) (fun h => hm (by simp [h]))⟩
    have := All2.append (b3.LRs a5) b5
    rw [List.take_append_drop] at this
    exact this

theorem isVal_of {s : S} {t : Ty} {p : PV} {w : Value} (hr : ER s p w) (ho : okV p = true) (hs : shapeOk t p = true) : IsVal t w.cells.toList w := by
  have leaf : ∀ v, LR0 s p v → v.cells.toList = [v] := by
    intro v hv
    have := hv.cell
    cases v <;> first | rfl | simp [isCell] at this
  cases p with
  | tup cs => simp [okV] at ho
  | fn f a b => simp [okV] at ho
  | undef => simp [okV] at ho
  | agg cs =>
    obtain ⟨vs, rfl, _⟩ := hr
    cases t <;> first | rfl | simp [shapeOk] at hs
  | _ =>
    have := leaf w hr
    cases t <;> first | exact this | simp [shapeOk] at hs

/-- What is lent or moved, parameter by parameter. -/
def TM (s : S) (lim : Nat) : List (PM × Ty) → List PV → List Value → List (Option TV) → List (List Nat) → Prop
  | [], [], [], [], [] => True
  | (m, t) :: ps, p :: args, w :: ws, o :: os, ids :: idss => (match m with
      | .ro => o = none ∧ ids = []
      | .cl g => ids = [] ∧ w = .func (.func g) ⟨[]⟩ ⟨[]⟩ ∧ ∃ x, o = some x
      | .mv => ∃ x, o = some x ∧ x.1 = t ∧ HR s.N s.H lim .os x w ids ∧ ∀ z ∈ ids, s.Lim z
      | .io => ∃ x b u, o = some x ∧ x.1 = t ∧ t = .sl u ∧ p = .osl b 0 none ∧ HR s.N s.H lim .os x w ids ∧ ids = (match s.μ b with | none => [] | some m => [m.z])
      | .ps => ∃ x b m j, o = some x ∧ x.1 = t ∧ p = .ptr b 0 ∧ HR s.N s.H lim .cb x w ids ∧ s.μ b = some m ∧ ids = m.z :: j ∧ ∀ z ∈ j, s.Lim z) ∧ TM s lim ps args ws os idss
  | _, _, _, _, _ => False

theorem TM.keep {s s' : S} {lim : Nat} (hk : Keep s s') (hH : s'.H = s.H) (hu : s'.μ = s.μ) (hl : ∀ z, s.Lim z → s'.Lim z) : ∀ {ps : List (PM × Ty)} {args : List PV} {ws : List Value} {os : List (Option TV)} {idss : List (List Nat)}, TM s lim ps args ws os idss → TM s' lim ps args ws os idss
  | [], [], [], [], [], _ => trivial
  | (m, t) :: ps, p :: args, w :: ws, o :: os, ids :: idss, h => by
    have fr : ∀ {kd : Kd} {x : TV}, HR s.N s.H lim kd x w ids → HR s'.N s'.H lim kd x w ids := fun h => h.frame (fun z hz hlt => ⟨hk.N hlt hz, hk.fr z hlt hz.1⟩) (fun z _ => by rw [hH])
    refine ⟨?_, TM.keep hk hH hu hl h.2⟩
    have h1 := h.1
    cases m with
    | ro => exact h1
    | cl g => exact h1
    | mv => obtain ⟨x, a, b, c, d⟩ := h1; exact ⟨x, a, b, fr c, fun z hz => hl z (d z hz)⟩
    | io => obtain ⟨x, b, u, a1, a2, a3, a4, a5, a6⟩ := h1; exact ⟨x, b, u, a1, a2, a3, a4, fr a5, by rw [hu]; exact a6⟩
    | ps => obtain ⟨x, b, m, j, a1, a2, a3, a4, a5, a6, a7⟩ := h1; exact ⟨x, b, m, j, a1, a2, a3, fr a4, by rw [hu]; exact a5, a6, fun z hz => hl z (a7 z hz)⟩

/-- What is lent is owned at the end. -/
def LentLive (s : S) : List (PM × Ty) → List PV → Prop
  | [], _ => True
  | (.io, _) :: ps, .osl b _ _ :: args => (∃ B, lget s.L b = some B ∧ B.rw = true) ∧ LentLive s ps args
  | (.ps, _) :: ps, .ptr b _ :: args => (∃ B, lget s.L b = some B ∧ B.rw = true) ∧ LentLive s ps args
  | _ :: ps, _ :: args => LentLive s ps args
  | _ :: _, [] => True

theorem contains_not {l : List Nat} {b : Nat} (h : l.contains b = false) : b ∉ l := by
  intro hm; rw [List.contains_iff_mem.2 hm] at h; simp at h

theorem takeM_sim : ∀ {ps : List (PM × Ty)} {args : List PV} {ws : List Value} {lent lent' : List Nat} {s : S} {os : List (Option TV)} {L1 : LS}, StR s → All2 (ER s) args ws → takeM ps args lent s.L = some (os, lent', L1) →
    ∃ s1 idss, s1.L = L1 ∧ s1.H = s.H ∧ s1.μ = s.μ ∧ Keep s s1 ∧ StR s1 ∧ (∀ z, Own s1 z → Own s z) ∧ (∀ z, s.Lim z → s1.Lim z) ∧ TM s1 s.lim ps args ws os idss ∧ (∀ b, b ∈ lent → b ∈ lent') ∧
      ∀ s2, Keep s1 s2 → (∀ z, s1.Lim z → s2.Lim z) → StR s2 → s2.μ = s.μ → LentLive s2 ps args → idss.flatten.Nodup ∧ ∀ z ∈ idss.flatten, (s2.Lim z ∧ ¬ s.Lim z) ∨ ∃ b B m, b ∉ lent ∧ b ∈ lent' ∧ lget s2.L b = some B ∧ B.rw = true ∧ s2.μ b = some m ∧ m.z = z
  | [], [], [], lent, lent', s, os, L1, hs, _, h => by
    simp [takeM] at h; obtain ⟨rfl, rfl, rfl⟩ := h
    exact ⟨s, [], rfl, rfl, rfl, Keep.refl s, hs, fun _ h => h, fun _ h => h, trivial, fun _ h => h, fun s2 _ _ _ _ _ => by simp⟩
  | (m, t) :: ps, p :: args, w :: ws, lent, lent', s, os, L1, hs, hr, h => by
    obtain ⟨hr1, hr2⟩ := hr
    simp only [takeM] at h
    have mvcase : ∀ (hm : m = .mv), (obind (outOne true t p s.L) fun x => obind (takeM ps args lent x.2) fun r => some (some x.1 :: r.1, r.2.1, r.2.2)) = some (os, lent', L1) → ∃ s1 idss, s1.L = L1 ∧ s1.H = s.H ∧ s1.μ = s.μ ∧ Keep s s1 ∧ StR s1 ∧ (∀ z, Own s1 z → Own s z) ∧ (∀ z, s.Lim z → s1.Lim z) ∧ TM s1 s.lim ((m, t) :: ps) (p :: args) (w :: ws) os idss ∧ (∀ b, b ∈ lent → b ∈ lent') ∧
      ∀ s2, Keep s1 s2 → (∀ z, s1.Lim z → s2.Lim z) → StR s2 → s2.μ = s.μ → LentLive s2 ((m, t) :: ps) (p :: args) → idss.flatten.Nodup ∧ ∀ z ∈ idss.flatten, (s2.Lim z ∧ ¬ s.Lim z) ∨ ∃ b B m, b ∉ lent ∧ b ∈ lent' ∧ lget s2.L b = some B ∧ B.rw = true ∧ s2.μ b = some m ∧ m.z = z := by
      clear h
      intro hm h
      subst hm
      replace h := ob h; obtain ⟨⟨x, L2⟩, h1, h⟩ := h
      replace h := ob h; obtain ⟨⟨os', lt', L3⟩, h2, h⟩ := h
      simp at h; obtain ⟨rfl, rfl, rfl⟩ := h
      obtain ⟨hx, s1, ids, l1, g1, u1, k1, t1, hh, hl, hnl, hnd, ho⟩ := outOne_own hs hr1 h1
      simp only at h2
      rw [← l1] at h2
      obtain ⟨s2, idss, l2, g2, u2, k2, t2, o2, m2, tm2, sub2, nd2⟩ := takeM_sim t1 (All2.mono (fun _ _ => k1.ER) hr2) h2
      have hlim : s1.lim = s.lim := k1.lim
      refine ⟨s2, ids :: idss, l2, g2.trans g1, u2.trans u1, k1.trans k2, t2, fun z hz => (ho z).1 (o2 z hz), fun z hz => m2 z ((hl z).2 (.inl hz)), ⟨⟨x, rfl, hx, hh.frame (fun z hz hlt => ⟨k2.N hlt hz, k2.fr z hlt hz.1⟩) (fun z _ => by rw [g2]), fun z hz => m2 z ((hl z).2 (.inr hz))⟩, by rw [← hlim]; exact tm2⟩, sub2, ?_⟩
      intro s3 k3 m3 t3 u3 hll
      obtain ⟨n1, n2⟩ := nd2 s3 k3 m3 t3 (u3.trans u1.symm) hll
      refine ⟨?_, fun z hz => ?_⟩
      · rw [List.flatten_cons, List.nodup_append]
        refine ⟨hnd, n1, fun a ha b hb e => ?_⟩
        subst e
        have hla : s1.Lim a := (hl a).2 (.inr ha)
        rcases n2 a hb with ⟨_, h5⟩ | ⟨b', B, mm, _, _, h6, h7, h8, rfl⟩
        · exact h5 hla
        · exact t3.lm b' B mm h6 h8 (m3 _ (m2 _ hla))
      · rw [List.flatten_cons, List.mem_append] at hz
        rcases hz with hz | hz
        · exact .inl ⟨m3 z (m2 z ((hl z).2 (.inr hz))), hnl z hz⟩
        · rcases n2 z hz with ⟨h4, h5⟩ | h6
          · exact .inl ⟨h4, fun h => h5 ((hl z).2 (.inl h))⟩
          · exact .inr h6
    cases m with
    | ro =>
      simp only at h
      replace h := ob h; obtain ⟨⟨os', lt', L3⟩, h2, h⟩ := h
      simp at h; obtain ⟨rfl, rfl, rfl⟩ := h
      obtain ⟨s2, idss, l2, g2, u2, k2, t2, o2, m2, tm2, sub2, nd2⟩ := takeM_sim hs hr2 h2
      refine ⟨s2, [] :: idss, l2, g2, u2, k2, t2, o2, m2, ⟨⟨rfl, rfl⟩, tm2⟩, sub2, fun s3 k3 m3 t3 u3 hll => ?_⟩
      simpa using nd2 s3 k3 m3 t3 u3 hll
    | cl g =>
      simp only at h
      split at h
      · rename_i f
        split at h
        · rename_i hfg
          have hfg := Nat.eq_of_beq_eq_true hfg
          subst hfg
          replace h := ob h; obtain ⟨⟨os', lt', L3⟩, h2, h⟩ := h
          simp at h; obtain ⟨rfl, rfl, rfl⟩ := h
          obtain ⟨s2, idss, l2, g2, u2, k2, t2, o2, m2, tm2, sub2, nd2⟩ := takeM_sim hs hr2 h2
          have hw : w = .func (.func f) ⟨[]⟩ ⟨[]⟩ := by
            obtain ⟨a', b', rfl, q1, q2⟩ := hr1
            cases a' with
            | nil => cases b' with
              | nil => rfl
              | cons _ _ => exact absurd q2 id
            | cons _ _ => exact absurd q1 id
          refine ⟨s2, [] :: idss, l2, g2, u2, k2, t2, o2, m2, ⟨⟨rfl, hw, _, rfl⟩, tm2⟩, sub2, fun s3 k3 m3 t3 u3 hll => ?_⟩
          have hll : LentLive s3 ps args := hll
          simpa using nd2 s3 k3 m3 t3 u3 hll
        · simp at h
      · simp at h
    | mv =>
      simp only at h
      split at h
      · split at h
        · simp at h
        · exact mvcase rfl h
      · split at h
        · simp at h
        · exact mvcase rfl h
      · exact mvcase rfl h
    | io =>
      simp only at h
      split at h
      · rename_i u b
        split at h
        · simp at h
        · rename_i hnc
          have hnc := contains_not hnc
          replace h := ob h; obtain ⟨x, h1, h⟩ := h
          replace h := ob h; obtain ⟨⟨os', lt', L3⟩, h2, h⟩ := h
          simp at h; obtain ⟨rfl, rfl, rfl⟩ := h
          obtain ⟨s2, idss, l2, g2, u2, k2, t2, o2, m2, tm2, sub2, nd2⟩ := takeM_sim hs hr2 h2
          unfold outAb at h1
          split at h1
          · rename_i ver wt xs hb
            split at h1
            · simp at h1
            rename_i hno0
            have hno : ∀ t, wt ≠ .os t := fun t e => by subst e; simp [Ty.isOs] at hno0
            replace h1 := ob h1; obtain ⟨y, h3, h1⟩ := h1
            simp at h1; subst h1
            have e0 := tcast_eq h3
            injection e0 with e0; subst e0
            have := tcast_self h3; subst this
            have hr1 : LR0 s (.osl b 0 none) w := hr1
            obtain ⟨hlb, hr1⟩ := hr1
            refine ⟨s2, (match s.μ b with | none => [] | some m => [m.z]) :: idss, l2, g2, u2, k2, t2, o2, m2, ⟨⟨_, b, wt, rfl, rfl, rfl, rfl, ?_, by rw [u2]⟩, tm2⟩, fun q hq => sub2 q (by simp [hq]), ?_⟩
            · cases hm : s.μ b with
              | none =>
                rw [hm] at hr1; obtain ⟨_, _, rfl⟩ := hr1
                have hx := arr_nil hs hb hm; subst hx
                exact ⟨wt, [], rfl, .inl ⟨rfl, rfl, rfl⟩⟩
              | some m =>
                rw [hm] at hr1; obtain ⟨g0, rfl⟩ := hr1
                obtain ⟨a1, a2, k, a3, a4, a5, a6, a7⟩ := arr_info hs hb hm
                refine ⟨wt, xs, rfl, .inr ⟨m.z, m.sh, k, [], rfl, by simp, by simp [a1, a2], by rw [g2]; exact a3, (a6 rfl).1, (a6 rfl).2, arr_fit hs hb hm a3, (RL.ofBlk a4 a5).frame (fun z hz hl => ⟨k2.N hl hz, k2.fr z hl hz.1⟩), InR.ofNo hno⟩⟩
            · intro s3 k3 m3 t3 u3 hll
              obtain ⟨⟨B, hB1, hB2⟩, hll⟩ := hll
              obtain ⟨n1, n2⟩ := nd2 s3 k3 m3 t3 u3 hll
              have hbl : b ∈ lt' := sub2 b (by simp)
              cases hm : s.μ b with
              | none =>
                simp only [List.flatten_cons, List.nil_append]
                refine ⟨n1, fun z hz => ?_⟩
                rcases n2 z hz with h6 | ⟨b', B', mm, h5, h6⟩
                · exact .inl h6
                · exact .inr ⟨b', B', mm, fun h => h5 (by simp [h]), h6⟩
              | some m =>
                have hm3 : s3.μ b = some m := by rw [u3]; exact hm
                refine ⟨?_, fun z hz => ?_⟩
                · rw [List.flatten_cons, List.nodup_append]
                  refine ⟨by simp, n1, fun a ha q hq e => ?_⟩
                  simp at ha; subst ha; subst e
                  rcases n2 _ hq with ⟨h5, _⟩ | ⟨b', B', mm, h5, _, h6, h7, h8, h9⟩
                  · exact t3.lm b B m hB1 hm3 h5
                  · have := t3.inj b' b B' B mm m h6 hB1 h7 h8 hm3 h9
                    exact h5 (by simp [this])
                · rw [List.flatten_cons, List.mem_append] at hz
                  rcases hz with hz | hz
                  · simp at hz; subst hz
                    exact .inr ⟨b, B, m, hnc, hbl, hB1, hB2, hm3, rfl⟩
                  · rcases n2 z hz with h6 | ⟨b', B', mm, h5, h6⟩
                    · exact .inl h6
                    · exact .inr ⟨b', B', mm, fun h => h5 (by simp [h]), h6⟩
          · simp at h1
      · simp at h
    | ps =>
      simp only at h
      split at h
      · rename_i b
        split at h
        · simp at h
        · rename_i hnc
          have hnc := contains_not hnc
          replace h := ob h; obtain ⟨⟨x, L2⟩, h1, h⟩ := h
          replace h := ob h; obtain ⟨⟨os', lt', L3⟩, h2, h⟩ := h
          simp at h; obtain ⟨rfl, rfl, rfl⟩ := h
          unfold outCo at h1
          split at h1
          · rename_i ver cs hb
            replace h1 := ob h1; obtain ⟨⟨y, L4⟩, h3, h1⟩ := h1
            simp at h1; obtain ⟨rfl, rfl⟩ := h1
            have hB := hs.blk b _ hb
            unfold BR at hB; simp only at hB
            obtain ⟨_, m, k, hm, hsh, hk, hcs, hro, hlm⟩ := hB
            obtain ⟨s1, j, l1, g1, u1, k1, t1, rr1, li1, nl1, nd1, o1⟩ := takeC_sim t hs hcs h3
            simp only at h2
            rw [← l1] at h2
            obtain ⟨s2, idss, l2, g2, u2, k2, t2, o2, m2, tm2, sub2, nd2⟩ := takeM_sim t1 (All2.mono (fun _ _ => k1.ER) hr2) h2
            have hlim : s1.lim = s.lim := k1.lim
            have hr1 : LR0 s (.ptr b 0) w := hr1
            obtain ⟨hlb, m', hm', _, rfl⟩ := hr1
            rw [hm] at hm'; injection hm' with hm'; subst hm'
            have hgH : s2.H = s.H := g2.trans g1
            refine ⟨s2, (m.z :: j) :: idss, l2, hgH, u2.trans u1, k1.trans k2, t2, fun z hz => o1 z (o2 z hz), fun z hz => m2 z ((li1 z).2 (.inl hz)), ⟨⟨_, b, m, j, rfl, rfl, rfl, ⟨m.z, k, j, rfl, rfl, by rw [hgH]; exact hk, hro, hlm, RepO.frame (fun z hz hlt => ⟨k2.N hlt hz, by rw [g2]⟩) t rr1 (fun z _ => by rw [g2])⟩, by rw [u2, u1]; exact hm, rfl, fun z hz => m2 z ((li1 z).2 (.inr hz))⟩, by rw [← hlim]; exact tm2⟩, fun q hq => sub2 q (by simp [hq]), ?_⟩
            intro s3 k3 m3 t3 u3 hll
            obtain ⟨⟨B, hB1, hB2⟩, hll⟩ := hll
            obtain ⟨n1, n2⟩ := nd2 s3 k3 m3 t3 (u3.trans u1.symm) hll
            have hbl : b ∈ lt' := sub2 b (by simp)
            have hm3 : s3.μ b = some m := by rw [u3]; exact hm
            have hmj : m.z ∉ j := fun h => t3.lm b B m hB1 hm3 (m3 _ (m2 _ ((li1 _).2 (.inr h))))
            refine ⟨?_, fun z hz => ?_⟩
            · rw [List.flatten_cons, List.nodup_append]
              refine ⟨List.nodup_cons.2 ⟨hmj, nd1⟩, n1, fun a ha q hq e => ?_⟩
              subst e
              rcases List.mem_cons.1 ha with rfl | ha
              · rcases n2 _ hq with ⟨h5, _⟩ | ⟨b', B', mm, h5, _, h6, h7, h8, h9⟩
                · exact t3.lm b B m hB1 hm3 h5
                · have := t3.inj b' b B' B mm m h6 hB1 h7 h8 hm3 h9
                  exact h5 (by simp [this])
              · have hla : s1.Lim a := (li1 a).2 (.inr ha)
                rcases n2 _ hq with ⟨_, h5⟩ | ⟨b', B', mm, _, _, h6, h7, h8, rfl⟩
                · exact h5 hla
                · exact t3.lm b' B' mm h6 h8 (m3 _ (m2 _ hla))
            · rw [List.flatten_cons, List.mem_append] at hz
              rcases hz with hz | hz
              · rcases List.mem_cons.1 hz with rfl | hz
                · exact .inr ⟨b, B, m, hnc, hbl, hB1, hB2, hm3, rfl⟩
                · exact .inl ⟨m3 z (m2 z ((li1 z).2 (.inr hz))), nl1 z hz⟩
              · rcases n2 z hz with ⟨h6, h7⟩ | ⟨b', B', mm, h5, h6⟩
                · exact .inl ⟨h6, fun h => h7 ((li1 z).2 (.inl h))⟩
                · exact .inr ⟨b', B', mm, fun h => h5 (by simp [h]), h6⟩
          · simp at h1
      · simp at h
  | [], _ :: _, _, _, _, _, _, _, _, _, h => by simp [takeM] at h
  | _ :: _, [], _, _, _, _, _, _, _, _, h => by simp [takeM] at h

end Go.Pv
