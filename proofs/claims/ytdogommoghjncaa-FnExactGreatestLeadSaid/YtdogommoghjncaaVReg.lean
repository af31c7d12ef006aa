/-
  Regions: operations one behind the other, and drawn ones.
  Conditions: the state is a good one; callees agree.
-/
import Derived.Test.YtdogommoghjncaaVCall3
set_option linter.all false
namespace Go.Pv
open Go.Ev

structure XOk {A : AnnV} {β : Type} (X : CxV A β) (XE : Cx) : Prop where
  P : X.P = XE.P
  nt : X.nt = XE.nt
  ann : X.eann = XE.ann
  fuel : XE.fuel = A.fuel
  call : ∀ f, A.inline f = false → FnOk (A.sig f) (X.call f) (XE.call f) XE.lim
  inl : ∀ f, A.inline f = true → ∀ {γ : Type} {args : List PV} {ws : List Value} {s : S} {KV : PV → LS → Option β} {KE : Value → Heap → Option γ} {r : β} {Q : γ → Prop}, StR s → s.lim = XE.lim → All2 (ER s) args ws → KOk s r KV KE Q → X.inl f args s.L KV = some r →
    ∃ y, (obind (XE.call f ws XE.lim s.H) fun q => KE q.1 q.2) = some y ∧ Q y

theorem LRs.ers {s : S} {ps : List PV} {vs : List Value} (h : LRs s ps vs) : All2 (ER s) ps vs := All2.mono (fun _ _ => ER.of0) h

section
variable {A : AnnV} {β γ : Type} {s : S} {env : PEnv} {e : Env} {X : CxV A β} {XE : Cx} {o : Oper} {r : β} {Q : γ → Prop}

theorem sim_call {c : Call} {KV : PV → LS → Option β} {KE : Value → Heap → Option γ} (hX : XOk X XE) (hlim : s.lim = XE.lim) (ho : o.op = .call c) (hs : StR s) (he : EnvR s env e) (hK : KOk s r KV KE Q) (h : vop X o env s.L KV = some r) : ∃ y, evOp XE o e s.H KE = some y ∧ Q y := by
  simp only [vop, ho] at h; simp only [evOp, ho]
  split at h
  · rename_i b hc
    rw [hc]; simp only
    replace h := ob h; obtain ⟨ps, h1, h⟩ := h
    obtain ⟨vs, e1, r1⟩ := pevs_rel he h1
    rw [e1]; simp only [obind]
    exact sim_builtin hX.P hlim.symm hs r1 hK h
  · rename_i f hc
    rw [hc]; simp only
    replace h := ob h; obtain ⟨g, h1, h⟩ := h
    replace h := ob h; obtain ⟨ps, h2, h⟩ := h
    obtain ⟨gv, e1, r1⟩ := pev_rel he h1
    obtain ⟨vs, e2, r2⟩ := pevs_rel he h2
    rw [e1, e2]; simp only [obind]
    split at h
    · rename_i n first cap
      obtain ⟨fa, ca, rfl, q1, q2⟩ := r1
      simp only
      have hr : All2 (ER s) (first ++ ps ++ cap) (fa ++ vs ++ ca) := All2.append (All2.append q1.ers r2) q2.ers
      have hK' : KOk s r (fun u L' => match tmplOf X.P o.type with
          | some tm => match fitT tm u with
            | true => KV u L'
            | false => none
          | none => KV u L') (fun v H => match tmplOf XE.P o.type with
          | some tm => viewT tm v fun u => KE u H
          | none => KE v H) Q := by
        intro pv v s' hk hs' hr' h
        simp only at h
        rw [← hX.P]
        split at h
        · rename_i tm htm
          split at h
          · rename_i hf
            simp only [htm]
            rw [fitT_view hr' hf]
            exact hK pv v s' hk hs' hr' h
          · simp at h
        · rename_i htm
          simp only [htm]
          exact hK pv v s' hk hs' hr' h
      unfold pcall at h
      split at h
      · rename_i hi
        exact hX.inl n hi hs hlim hr hK' h
      · rename_i hi
        have hF := hX.call n hi
        rw [← hlim] at hF ⊢
        exact call_sim hF hs hr hK' h
    · simp at h
  · simp at h

theorem vop_sim {KV : PV → LS → Option β} {KE : Value → Heap → Option γ} (hX : XOk X XE) (hlim : s.lim = XE.lim) (hs : StR s) (he : EnvR s env e) (hK : KOk s r KV KE Q) (h : vop X o env s.L KV = some r) : ∃ y, evOp XE o e s.H KE = some y ∧ Q y := by
  cases hop : o.op with
  | move x => simp only [vop, hop] at h; simp only [evOp, hop]; exact sim_move hs he hK h
  | assign x => simp only [vop, hop] at h; simp only [evOp, hop]; exact sim_move hs he hK h
  | pick c a b => exact sim_pick hop hs he hK h
  | alloc t => exact sim_alloc hX.P hop hs he hK h
  | box t x => exact sim_box hop hs he hK h
  | build t ps => exact sim_build hX.P hop hs he hK h
  | buildSlice t n ps => exact sim_buildSlice hX.P hop hs he hK h
  | load t a => exact sim_load hX.P hop hs he hK h
  | store t a x => exact sim_store hX.P hlim.symm hop hs he hK h
  | nilCheck x => exact sim_nilCheck hop hs he hK h
  | binOp op t x y u => exact sim_binOp hX.P hop hs he hK h
  | unOp op t x => exact sim_unOp hop hs he hK h
  | convert a b x => exact sim_convert hX.P hop hs he hK h
  | makeFunc fn a b =>
    cases fn with
    | func f => exact sim_makeFunc hop hs he hK h
    | _ => simp [vop, hop] at h
  | makeSlice t l c => exact sim_makeSlice hX.P hop hs he hK h
  | slice t x lo hi mx =>
    cases mx with
    | none => exact sim_slice hX.P hop hs he hK h
    | some m => simp [vop, hop] at h
  | fieldAddr t x f => exact sim_fieldAddr hX.P hop hs he hK h
  | field t x f => exact sim_field hX.P hop hs he hK h
  | indexAddr t x i => exact sim_indexAddr hX.P hop hs he hK h
  | index t x i => exact sim_index hX.P hop hs he hK h
  | extract x i => exact sim_extract hop hs he hK h
  | call c => exact sim_call hX hlim hop hs he hK h
  | _ => simp [vop, hop] at h

/-- Variables outside a list are as they were, or gone. -/
def Unch (W : List Nat) (env env' : PEnv) (e e' : Env) : Prop := ∀ q, q ∉ W → pget env' q = none ∨ (pget env' q = pget env q ∧ eget e' q = eget e q)

theorem Unch.refl (W : List Nat) (env : PEnv) (e : Env) : Unch W env env e e := fun _ _ => .inr ⟨rfl, rfl⟩
theorem Unch.trans {W : List Nat} {env env' env'' : PEnv} {e e' e'' : Env} (h : Unch W env env' e e') (g : Unch W env' env'' e' e'') : Unch W env env'' e e'' := by
  intro q hq
  rcases g q hq with g1 | ⟨g1, g2⟩
  · exact .inl g1
  · rcases h q hq with h1 | ⟨h1, h2⟩
    · exact .inl (g1.trans h1)
    · exact .inr ⟨g1.trans h1, g2.trans h2⟩
theorem Unch.mono {W V : List Nat} {env env' : PEnv} {e e' : Env} (h : Unch W env env' e e') (hs : ∀ q, q ∈ W → q ∈ V) : Unch V env env' e e' := fun q hq => h q (fun hw => hq (hs q hw))
theorem Unch.cons {W : List Nat} {env : PEnv} {e : Env} {d : Nat} {p : PV} {v : Value} (hd : d ∈ W) : Unch W env ((d, p) :: env) e ((d, v) :: e) := by
  intro q hq
  have hne : Nat.beq d q = false := by
    cases hb : Nat.beq d q with
    | false => rfl
    | true => exact absurd (Nat.eq_of_beq_eq_true hb ▸ hd) hq
  right; simp only [pget, eget, hne]; exact ⟨trivial, trivial⟩

/-- What follows agrees, from a state and its variables on. -/
def COk (W : List Nat) (env0 : PEnv) (e0 : Env) (s : S) (r : β) (KV : PEnv → LS → Option β) (KE : Env → Heap → Option γ) (Q : γ → Prop) : Prop :=
  ∀ env e s', Keep s s' → StR s' → EnvR s' env e → Unch W env0 env e0 e → KV env s'.L = some r → ∃ y, KE e s'.H = some y ∧ Q y

theorem wanted_sim {ops : Array Oper} {W : List Nat} {KV : Bool → PEnv → Option β} {KE : Bool → Env → Option γ} (hW : ∀ (j : Nat) (d : Nat), (ops[j]?).bind (fun (x : Oper) => x.dst) = some d → d ∈ W) (he : EnvR s env e) (h : pwanted ops o env KV = some r) (hK : ∀ t env' e', EnvR s env' e' → Unch W env env' e e' → KV t env' = some r → ∃ y, KE t e' = some y ∧ Q y) : ∃ y, wantedK ops o e KE = some y ∧ Q y := by
  unfold pwanted at h; unfold wantedK
  cases hg : o.guard with
  | none => rw [hg] at h; exact hK _ _ _ he (Unch.refl _ _ _) h
  | some jw =>
    obtain ⟨j, want⟩ := jw
    rw [hg] at h
    simp only at h ⊢
    cases hd : (ops[j]?).bind (·.dst) with
    | none => rw [hd] at h; simp at h
    | some d =>
      rw [hd] at h
      simp only at h ⊢
      replace h := ob h; obtain ⟨p, h1, h⟩ := h
      obtain ⟨v, e1, r1⟩ := he.get h1
      simp only [e1, obind]
      split at h
      · rename_i b
        obtain rfl : v = .bool b := r1
        simp only
        cases b with
        | true => simp only [oif] at h ⊢; exact hK _ _ _ (he.cons (p := .bool true) rfl) (Unch.cons (hW j d hd)) h
        | false => simp only [oif] at h ⊢; exact hK _ _ _ (he.cons (p := .bool false) rfl) (Unch.cons (hW j d hd)) h
      · obtain rfl : v = undef := r1
        exact hK _ _ _ he (Unch.refl _ _ _) h
      · simp at h

theorem put_sim {nt : Nat} {W : List Nat} {dst : Option Tmp} {p : PV} {v : Value} {KV : PEnv → Option β} {KE : Env → Option γ} (hW : ∀ d, dst = some d → d ∈ W) (he : EnvR s env e) (hr : ER s p v) (h : pputE nt dst p env KV = some r) (hK : ∀ env' e', EnvR s env' e' → Unch W env env' e e' → KV env' = some r → ∃ y, KE e' = some y ∧ Q y) : ∃ y, putE nt dst v e KE = some y ∧ Q y := by
  unfold pputE at h; unfold putE
  split at h
  · exact hK _ _ he (Unch.refl _ _ _) h
  · rename_i d
    split at h
    · rename_i hd; simp only [hd]; exact hK _ _ (he.cons hr) (Unch.cons (hW d rfl)) h
    · simp at h

theorem vops_sim {ops : Array Oper} {W : List Nat} {KV : PEnv → LS → Option β} {KE : Env → Heap → Option γ} (hX : XOk X XE) (hW : ∀ (j : Nat) (d : Nat), (ops[j]?).bind (fun (x : Oper) => x.dst) = some d → d ∈ W) (env0 : PEnv) (e0 : Env) : ∀ {l : List Oper} {s : S} {env : PEnv} {e : Env}, (∀ o ∈ l, ∀ d, o.dst = some d → d ∈ W) → s.lim = XE.lim → StR s → EnvR s env e → Unch W env0 env e0 e → COk W env0 e0 s r KV KE Q → vops X ops l env s.L KV = some r → ∃ y, evOps XE ops l e s.H KE = some y ∧ Q y
  | [], s, env, e, _, hlim, hs, he, hu, hK, h => hK env e s (Keep.refl s) hs he hu h
  | o :: l, s, env, e, hl, hlim, hs, he, hu, hK, h => by
    simp only [vops] at h; simp only [evOps]
    refine wanted_sim hW he h (fun t env' e' he' hu' h => ?_)
    cases t with
    | true =>
      simp only at h ⊢
      refine vop_sim hX hlim hs he' (fun pv v s' hk hs' hr h => ?_) h
      rw [hX.nt] at h
      refine put_sim (hl o (by simp)) (hk.env he') hr h (fun env2 e2 he2 hu2 h => ?_)
      exact vops_sim hX hW env0 e0 (fun o ho => hl o (by simp [ho])) (hk.lim.trans hlim) hs' he2 ((hu.trans hu').trans hu2) (fun env3 e3 s3 k3 => hK env3 e3 s3 (hk.trans k3)) h
    | false =>
      simp only at h ⊢
      rw [hX.nt] at h
      refine put_sim (hl o (by simp)) he' (p := .undef) rfl h (fun env2 e2 he2 hu2 h => ?_)
      exact vops_sim hX hW env0 e0 (fun o ho => hl o (by simp [ho])) hlim hs he2 ((hu.trans hu').trans hu2) hK h

/-- The states before the operations, the latest first. -/
def TrR : List S → List (PEnv × LS) → List (Env × Heap) → Prop
  | [], [], [] => True
  | s :: ss, (env, L) :: tr, (e, H) :: te => s.L = L ∧ s.H = H ∧ StR s ∧ EnvR s env e ∧ (∀ t ∈ ss, Keep t s) ∧ TrR ss tr te
  | _, _, _ => False

theorem vopsT_sim {ops : Array Oper} {W : List Nat} {KV : List (PEnv × LS) → PEnv → LS → Option β} {KE : List (Env × Heap) → Env → Heap → Option γ} (hX : XOk X XE) (hW : ∀ (j : Nat) (d : Nat), (ops[j]?).bind (fun (x : Oper) => x.dst) = some d → d ∈ W) (env0 : PEnv) (e0 : Env) (s0 : S) : ∀ {l : List Oper} {s : S} {env : PEnv} {e : Env} {ss : List S} {tr : List (PEnv × LS)} {te : List (Env × Heap)}, (∀ o ∈ l, ∀ d, o.dst = some d → d ∈ W) → s.lim = XE.lim → StR s → EnvR s env e → Unch W env0 env e0 e → TrR ss tr te → (∀ t ∈ ss, Keep t s) → Keep s0 s → (∀ t ∈ ss, Keep s0 t) →
    (∀ env' e' s' ss' tr' te', Keep s s' → StR s' → EnvR s' env' e' → Unch W env0 env' e0 e' → TrR (s' :: ss') ((env', s'.L) :: tr') ((e', s'.H) :: te') → (∀ t ∈ s' :: ss', Keep s0 t) → KV ((env', s'.L) :: tr') env' s'.L = some r → ∃ y, KE ((e', s'.H) :: te') e' s'.H = some y ∧ Q y) →
    vopsT X ops l env s.L tr KV = some r → ∃ y, evOpsT XE ops l e s.H te KE = some y ∧ Q y
  | [], s, env, e, ss, tr, te, _, hlim, hs, he, hu, ht, hss, h0, hs0, hK, h =>
    hK env e s ss tr te (Keep.refl s) hs he hu ⟨rfl, rfl, hs, he, hss, ht⟩ (fun t ht' => by rcases List.mem_cons.1 ht' with rfl | h1; exact h0; exact hs0 t h1) h
  | o :: l, s, env, e, ss, tr, te, hl, hlim, hs, he, hu, ht, hss, h0, hs0, hK, h => by
    simp only [vopsT] at h; simp only [evOpsT]
    refine wanted_sim hW he h (fun t env' e' he' hu' h => ?_)
    have hall : ∀ t ∈ s :: ss, Keep s0 t := fun t ht' => by
      rcases List.mem_cons.1 ht' with rfl | h1
      · exact h0
      · exact hs0 t h1
    cases t with
    | true =>
      simp only at h ⊢
      refine vop_sim hX hlim hs he' (fun pv v s' hk hs' hr h => ?_) h
      rw [hX.nt] at h
      refine put_sim (hl o (by simp)) (hk.env he') hr h (fun env2 e2 he2 hu2 h => ?_)
      exact vopsT_sim hX hW env0 e0 s0 (ss := s :: ss) (tr := (env', s.L) :: tr) (fun o ho => hl o (by simp [ho])) (hk.lim.trans hlim) hs' he2 ((hu.trans hu').trans hu2) ⟨rfl, rfl, hs, he', hss, ht⟩ (fun t ht' => by
        rcases List.mem_cons.1 ht' with rfl | h1
        · exact hk
        · exact (hss t h1).trans hk) (h0.trans hk) hall (fun env3 e3 s3 ss3 tr3 te3 k3 => hK env3 e3 s3 ss3 tr3 te3 (hk.trans k3)) h
    | false =>
      simp only at h ⊢
      rw [hX.nt] at h
      refine put_sim (hl o (by simp)) he' (p := .undef) rfl h (fun env2 e2 he2 hu2 h => ?_)
      exact vopsT_sim hX hW env0 e0 s0 (ss := s :: ss) (tr := (env', s.L) :: tr) (fun o ho => hl o (by simp [ho])) hlim hs he2 ((hu.trans hu').trans hu2) ⟨rfl, rfl, hs, he', hss, ht⟩ (fun t ht' => by
        rcases List.mem_cons.1 ht' with rfl | h1
        · exact Keep.refl _
        · exact hss t h1) h0 hall hK h

end
end Go.Pv
