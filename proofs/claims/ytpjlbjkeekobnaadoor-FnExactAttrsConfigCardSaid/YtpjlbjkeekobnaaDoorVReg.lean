/-
  Regions: operations one behind the other, and drawn ones.
  Conditions: the state is a good one; callees agree.
-/
import Derived.Test.YtpjlbjkeekobnaaDoorVCall3
set_option linter.all false
namespace Go.Pv
open Go.Ev

structure XOk {A : AnnV} {β : Type} (X : CxV A β) (XE : Cx) : Prop where
  P : X.P = XE.P
  nt : X.nt = XE.nt
  ann : X.eann = XE.ann
  fuel : XE.fuel = A.fuel
  call : ∀ f, A.inline f = false → FnOk (A.sig f) (X.call f) (XE.call f) XE.lim
  inl : ∀ f, A.inline f = true → ∀ {γ : Type} {args : List PV} {ws : List Value} {s : S} {KV : PV → LS → Option β} {KE : Value → Heap → Option γ} {r : β} {Q : γ → Prop}, StR s → s.lim = XE.lim → All2 (ER s) args ws → KOk s r KV KE Q → X.inl f args s.L KV = some r →
    ∃ y, (obind (XE.call f ws XE.lim s.H) fun q => KE q.1 q.2) = some y ∧ Q y

theorem LRs.ers {s : S} {ps : List PV} {vs : List Value} (h : LRs s ps vs) : All2 (ER s) ps vs := All2.mono (fun _ _ => ER.of0) h

section
variable {A : AnnV} {β γ : Type} {s : S} {env : PEnv} {e : Env} {X : CxV A β} {XE : Cx} {o : Oper} {r : β} {Q : γ → Prop}

theorem set_same_blk {H : Heap} {z : Nat} {k : Blk} (h : hget H z = some k) : H.set z (some k) = H := by
  unfold hget at h
  split at h
  · rename_i k' hk
    injection h with h; subst h
    obtain ⟨hlt, e⟩ := List.getElem?_eq_some_iff.1 hk
    rw [← e]; exact List.set_getElem_self hlt
  · simp at h

theorem lay_same {c : List Value} {j : Nat} {v : Value} (h : c[j]? = some v) : lay c j [v] = c := by
  have hlt := (List.getElem?_eq_some_iff.1 h).1
  apply List.ext_getElem?; intro i
  rw [lay1_get _ _ _ hlt]
  split
  · rename_i e; subst e; exact h.symm
  · rfl

/-- A call that is lent a row. -/
theorem row_call {f : FuncId} {b i ver : Nat} {w : Ty} {x : List w.T} {rest : List PV} {wv : Value} {ws : List Value} {callE : List Value → Nat → Heap → Option (Value × Heap)} {KV : PV → LS → Option β} {KE : Value → Heap → Option γ} (hs : StR s) (hr1 : LR0 s (.rw b i ver w x) wv) (hr2 : All2 (ER s) rest ws) (hfl : w.flat = true)
    (hK : KOk s r KV KE Q) (hF : FnOk (A.sig f) (X.call f) callE s.lim) (h : (rowIn b i ver w x s.L fun L2 n => pcall0 X f (.osl n 0 none :: rest) L2 fun u L3 => rowOut b i (ver + 1) w n L3 fun L4 => KV u L4) = some r) :
    ∃ y, (obind (callE (wv :: ws) s.lim s.H) fun q => KE q.1 q.2) = some y ∧ Q y := by
  unfold rowIn at h
  split at h
  · rename_i v0 t xs hb
    replace h := ob h; obtain ⟨y, hy, h⟩ := h
    unfold oif at h; split at h
    · rename_i hlen
      have hlen := Nat.eq_of_beq_eq_true hlen
      replace h := ob h; obtain ⟨⟨x1, L1⟩, ht, h⟩ := h
      simp only at h
      obtain ⟨s1, ids, l1, g1, u1, k1, t1, ho, hlm, hnl, hnd, hown⟩ := takeO_own hs hr1 ht
      have ho' : OwnS s1.N s1.H s1.lim w x1 wv ids := by rw [k1.lim]; exact ho
      obtain ⟨s2, l2, g2, k2, t2, q2, n2, m2⟩ := giveO_sim t1 ho' (fun z hz => (hlm z).2 (.inr hz))
      have hno : ∀ t, w = .os t → t.flat = false := fun t e => by subst e; simp [Ty.flat] at hfl
      rw [mkBody_no x1 hno] at l2
      -- what the store is
      obtain ⟨hv0, hL1⟩ : v0 = ver ∧ L1 = lset s.L b ⟨v0 + 1, true, .rows t xs (some i)⟩ := by
        unfold takeO at ht
        simp only [hb] at ht
        split at ht
        · rename_i hv
          replace ht := ob ht; obtain ⟨z, _, ht⟩ := ht
          simp at ht
          exact ⟨Nat.eq_of_beq_eq_true hv, ht.2.symm⟩
        · simp at ht
      subst hv0
      obtain ⟨hlb, _, hval⟩ : LR0 s (.rw b i v0 w x) wv := hr1
      obtain ⟨_, _, hwh⟩ := (hval _ hb).2 rfl
      have hb1 : lget L1 b = some ⟨v0 + 1, true, .rows t xs (some i)⟩ := by rw [hL1]; exact lget_set_self hlb
      have hb2 : lget s2.L b = some ⟨v0 + 1, true, .rows t xs (some i)⟩ := by
        rw [l2, lget_push (by rw [l1]; exact lget_lt hb1), l1]; exact hb1
      have k12 := k1.trans k2
      rw [l1] at l2 q2
      rw [← l2] at h
      obtain ⟨hj, ej⟩ := List.getElem?_eq_some_iff.1 hy
      obtain ⟨_, hft, ⟨_, hx0⟩ | ⟨m, k, hm, a1, a2, a3, a4, a5, a6, a7⟩⟩ := rows_info hs hb
      · rw [hx0] at hj; simp at hj
      have hcell := (hwh _ _ _ _ m k hb rfl hm a3 y hy).2 hlen
      have hl2 : s2.lim = s.lim := k12.lim
      have hH2 : s2.H = s.H := g2.trans g1
      unfold pcall0 at h
      have main := call_sim (s := s2) (KE := KE) (Q := Q) (sig := A.sig f) (call := X.call f) (callE := callE) (by rw [hl2]; exact hF) t2 (args := .osl L1.bl.length 0 none :: rest) (ws := wv :: ws) ⟨ER.of0 q2, All2.mono (fun _ _ => k12.ER) hr2⟩ (KV := fun u L3 => rowOut b i (v0 + 1) w L1.bl.length L3 fun L4 => KV u L4) (r := r) (by
        intro pv v s3 k3 t3 r3 h3
        simp only at h3
        unfold rowOut at h3
        replace h3 := ob h3; obtain ⟨⟨x2, L4⟩, ht3, h3⟩ := h3
        have q3 : LR0 s3 (.osl L1.bl.length 0 none) wv := k3.LR0 q2
        obtain ⟨s4, l4, g4, u4, k4, t4, rc, lm4, _, _⟩ := takeO_row t3 hfl q3 ht3
        simp only at h3
        rw [← l4] at h3
        split at h3
        · rename_i v' e xs' h' hb4
          split at h3
          · rename_i hv4
            have hv4 := Nat.eq_of_beq_eq_true hv4
            subst hv4
            replace h3 := ob h3; obtain ⟨z, hz, h3⟩ := h3
            have k34 := k3.trans k4
            obtain ⟨B0, e1, e2, e3⟩ := k34.live b _ (lget_lt hb2) hb4
            rw [hb2] at e1; injection e1 with e1; subst e1
            obtain ⟨eB, eh, _⟩ := e3 rfl
            injection eB with _ _ eB
            injection eB with eB1 eB2 eB3
            subst eB1
            replace eB2 := eq_of_heq eB2
            subst eB2 eB3
            have ew := tcast_eq hz
            injection ew with ew; subst ew
            have := tcast_self hz; subst this
            have hm2 : s2.μ b = some m := by rw [k12.mu b (lget_lt hb)]; exact hm
            have hm4 : s4.μ b = some m := by rw [k34.mu b (lget_lt hb2)]; exact hm2
            have hk4 : hget s4.H m.z = some k := by rw [eh m hm2, hH2]; exact a3
            have hp : sameLeaf wv wv = true := by
              rcases rc with ⟨_, e⟩ | ⟨_, _, _, e, _⟩ <;> rw [e] <;> simp [sameLeaf]
            obtain ⟨s5, l5, g5, k5, t5, _⟩ := place_row t4 hb4 hm4 hk4 hj (.inr rfl) (y := x2) (v := wv) (by
              rw [k4.lim]; exact rc.mono hfl (fun z hz => ⟨.inl hz.1, by rw [g4]⟩)) hp
            have hkk : (⟨lay k.cells (m.sh + i) [wv], false⟩ : Blk) = k := by
              rw [lay_same hcell]
              obtain ⟨kc, kr⟩ := k
              simp only at a5; rw [a5]
            rw [hkk, set_same_blk hk4, g4] at g5
            have := hK pv v s5 (k12.trans (k34.trans k5)) t5 ((k4.trans k5).ER r3) (by rw [l5]; exact h3)
            rw [g5] at this; exact this
          · simp at h3
        · simp at h3) h
      rw [hl2, hH2] at main
      exact main
    · simp at h
  · simp at h

theorem pcallN_sim {f : FuncId} {args : List PV} {ws : List Value} {callE : List Value → Nat → Heap → Option (Value × Heap)} {KV : PV → LS → Option β} {KE : Value → Heap → Option γ} (hs : StR s) (hr : All2 (ER s) args ws)
    (hK : KOk s r KV KE Q) (hF : FnOk (A.sig f) (X.call f) callE s.lim) (h : pcallN X f args s.L KV = some r) :
    ∃ y, (obind (callE ws s.lim s.H) fun q => KE q.1 q.2) = some y ∧ Q y := by
  unfold pcallN at h
  split at h
  · rename_i b i ver w x rest
    cases ws with
    | nil => exact absurd hr id
    | cons wv ws =>
      split at h
      · split at h
        · rename_i hfl
          exact row_call hs hr.1 hr.2 hfl hK hF h
        · simp at h
      · unfold pcall0 at h; exact call_sim hF hs hr hK h
  · unfold pcall0 at h; exact call_sim hF hs hr hK h

theorem sim_call {c : Call} {KV : PV → LS → Option β} {KE : Value → Heap → Option γ} (hX : XOk X XE) (hlim : s.lim = XE.lim) (ho : o.op = .call c) (hs : StR s) (he : EnvR s env e) (hK : KOk s r KV KE Q) (h : vop X o env s.L KV = some r) : ∃ y, evOp XE o e s.H KE = some y ∧ Q y := by
  simp only [vop, ho] at h; simp only [evOp, ho]
  split at h
  · rename_i b hc
    rw [hc]; simp only
    replace h := ob h; obtain ⟨ps, h1, h⟩ := h
    obtain ⟨vs, e1, r1⟩ := pevs_rel he h1
    rw [e1]; simp only [obind]
    exact sim_builtin hX.P hlim.symm hs r1 hK h
  · rename_i f hc
    rw [hc]; simp only
    replace h := ob h; obtain ⟨g, h1, h⟩ := h
    replace h := ob h; obtain ⟨ps, h2, h⟩ := h
    obtain ⟨gv, e1, r1⟩ := pev_rel he h1
    obtain ⟨vs, e2, r2⟩ := pevs_rel he h2
    rw [e1, e2]; simp only [obind]
    split at h
    · rename_i n first cap
      obtain ⟨fa, ca, rfl, q1, q2⟩ := r1
      simp only
      have hr : All2 (ER s) (first ++ ps ++ cap) (fa ++ vs ++ ca) := All2.append (All2.append q1.ers r2) q2.ers
      have hK' : KOk s r (fun u L' => match tmplOf X.P o.type with
          | some tm => match fitT tm u with
            | true => KV u L'
            | false => none
          | none => KV u L') (fun v H => match tmplOf XE.P o.type with
          | some tm => viewT tm v fun u => KE u H
          | none => KE v H) Q := by
        intro pv v s' hk hs' hr' h
        simp only at h
        rw [← hX.P]
        split at h
        · rename_i tm htm
          split at h
          · rename_i hf
            simp only [htm]
            rw [fitT_view hr' hf]
            exact hK pv v s' hk hs' hr' h
          · simp at h
        · rename_i htm
          simp only [htm]
          exact hK pv v s' hk hs' hr' h
      unfold pcall at h
      split at h
      · rename_i hi
        exact hX.inl n hi hs hlim hr hK' h
      · rename_i hi
        have hF := hX.call n hi
        rw [← hlim] at hF ⊢
        exact pcallN_sim hs hr hK' hF h
    · simp at h
  · simp at h

theorem vop_sim {KV : PV → LS → Option β} {KE : Value → Heap → Option γ} (hX : XOk X XE) (hlim : s.lim = XE.lim) (hs : StR s) (he : EnvR s env e) (hK : KOk s r KV KE Q) (h : vop X o env s.L KV = some r) : ∃ y, evOp XE o e s.H KE = some y ∧ Q y := by
  cases hop : o.op with
  | move x => simp only [vop, hop] at h; simp only [evOp, hop]; exact sim_move hs he hK h
  | assign x => simp only [vop, hop] at h; simp only [evOp, hop]; exact sim_move hs he hK h
  | pick c a b => exact sim_pick hop hs he hK h
  | alloc t => exact sim_alloc hX.P hop hs he hK h
  | box t x => exact sim_box hop hs he hK h
  | build t ps => exact sim_build hX.P hop hs he hK h
  | buildSlice t n ps => exact sim_buildSlice hX.P hop hs he hK h
  | load t a => exact sim_load hX.P hop hs he hK h
  | store t a x => exact sim_store hX.P hlim.symm hop hs he hK h
  | nilCheck x => exact sim_nilCheck hop hs he hK h
  | binOp op t x y u => exact sim_binOp hX.P hop hs he hK h
  | unOp op t x => exact sim_unOp hop hs he hK h
  | convert a b x => exact sim_convert hX.P hop hs he hK h
  | makeFunc fn a b =>
    cases fn with
    | func f => exact sim_makeFunc hop hs he hK h
    | _ => simp [vop, hop] at h
  | makeSlice t l c => exact sim_makeSlice hX.P hop hs he hK h
  | slice t x lo hi mx =>
    cases mx with
    | none => exact sim_slice hX.P hop hs he hK h
    | some m => simp [vop, hop] at h
  | fieldAddr t x f => exact sim_fieldAddr hX.P hop hs he hK h
  | field t x f => exact sim_field hX.P hop hs he hK h
  | indexAddr t x i => exact sim_indexAddr hX.P hop hs he hK h
  | index t x i => exact sim_index hX.P hop hs he hK h
  | extract x i => exact sim_extract hop hs he hK h
  | call c => exact sim_call hX hlim hop hs he hK h
  | _ => simp [vop, hop] at h

/-- Variables outside a list are as they were, or gone. -/
def Unch (W : List Nat) (env env' : PEnv) (e e' : Env) : Prop := ∀ q, q ∉ W → pget env' q = none ∨ (pget env' q = pget env q ∧ eget e' q = eget e q)

theorem Unch.refl (W : List Nat) (env : PEnv) (e : Env) : Unch W env env e e := fun _ _ => .inr ⟨rfl, rfl⟩
theorem Unch.trans {W : List Nat} {env env' env'' : PEnv} {e e' e'' : Env} (h : Unch W env env' e e') (g : Unch W env' env'' e' e'') : Unch W env env'' e e'' := by
  intro q hq
  rcases g q hq with g1 | ⟨g1, g2⟩
  · exact .inl g1
  · rcases h q hq with h1 | ⟨h1, h2⟩
    · exact .inl (g1.trans h1)
    · exact .inr ⟨g1.trans h1, g2.trans h2⟩
theorem Unch.mono {W V : List Nat} {env env' : PEnv} {e e' : Env} (h : Unch W env env' e e') (hs : ∀ q, q ∈ W → q ∈ V) : Unch V env env' e e' := fun q hq => h q (fun hw => hq (hs q hw))
theorem Unch.cons {W : List Nat} {env : PEnv} {e : Env} {d : Nat} {p : PV} {v : Value} (hd : d ∈ W) : Unch W env ((d, p) :: env) e ((d, v) :: e) := by
  intro q hq
  have hne : Nat.beq d q = false := by
    cases hb : Nat.beq d q with
    | false => rfl
    | true => exact absurd (Nat.eq_of_beq_eq_true hb ▸ hd) hq
  right; simp only [pget, eget, hne]; exact ⟨trivial, trivial⟩

/-- What follows agrees, from a state and its variables on. -/
def COk (W : List Nat) (env0 : PEnv) (e0 : Env) (s : S) (r : β) (KV : PEnv → LS → Option β) (KE : Env → Heap → Option γ) (Q : γ → Prop) : Prop :=
  ∀ env e s', Keep s s' → StR s' → EnvR s' env e → Unch W env0 env e0 e → KV env s'.L = some r → ∃ y, KE e s'.H = some y ∧ Q y

theorem wanted_sim {ops : Array Oper} {W : List Nat} {KV : Bool → PEnv → Option β} {KE : Bool → Env → Option γ} (hW : ∀ (j : Nat) (d : Nat), (ops[j]?).bind (fun (x : Oper) => x.dst) = some d → d ∈ W) (he : EnvR s env e) (h : pwanted ops o env KV = some r) (hK : ∀ t env' e', EnvR s env' e' → Unch W env env' e e' → KV t env' = some r → ∃ y, KE t e' = some y ∧ Q y) : ∃ y, wantedK ops o e KE = some y ∧ Q y := by
  unfold pwanted at h; unfold wantedK
  cases hg : o.guard with
  | none => rw [hg] at h; exact hK _ _ _ he (Unch.refl _ _ _) h
  | some jw =>
    obtain ⟨j, want⟩ := jw
    rw [hg] at h
    simp only at h ⊢
    cases hd : (ops[j]?).bind (·.dst) with
    | none => rw [hd] at h; simp at h
    | some d =>
      rw [hd] at h
      simp only at h ⊢
      replace h := ob h; obtain ⟨p, h1, h⟩ := h
      obtain ⟨v, e1, r1⟩ := he.get h1
      simp only [e1, obind]
      split at h
      · rename_i b
        obtain rfl : v = .bool b := r1
        simp only
        cases b with
        | true => simp only [oif] at h ⊢; exact hK _ _ _ (he.cons (p := .bool true) rfl) (Unch.cons (hW j d hd)) h
        | false => simp only [oif] at h ⊢; exact hK _ _ _ (he.cons (p := .bool false) rfl) (Unch.cons (hW j d hd)) h
      · obtain rfl : v = undef := r1
        exact hK _ _ _ he (Unch.refl _ _ _) h
      · simp at h

theorem put_sim {nt : Nat} {W : List Nat} {dst : Option Tmp} {p : PV} {v : Value} {KV : PEnv → Option β} {KE : Env → Option γ} (hW : ∀ d, dst = some d → d ∈ W) (he : EnvR s env e) (hr : ER s p v) (h : pputE nt dst p env KV = some r) (hK : ∀ env' e', EnvR s env' e' → Unch W env env' e e' → KV env' = some r → ∃ y, KE e' = some y ∧ Q y) : ∃ y, putE nt dst v e KE = some y ∧ Q y := by
  unfold pputE at h; unfold putE
  split at h
  · exact hK _ _ he (Unch.refl _ _ _) h
  · rename_i d
    split at h
    · rename_i hd; simp only [hd]; exact hK _ _ (he.cons hr) (Unch.cons (hW d rfl)) h
    · simp at h

theorem vops_sim {ops : Array Oper} {W : List Nat} {KV : PEnv → LS → Option β} {KE : Env → Heap → Option γ} (hX : XOk X XE) (hW : ∀ (j : Nat) (d : Nat), (ops[j]?).bind (fun (x : Oper) => x.dst) = some d → d ∈ W) (env0 : PEnv) (e0 : Env) : ∀ {l : List Oper} {s : S} {env : PEnv} {e : Env}, (∀ o ∈ l, ∀ d, o.dst = some d → d ∈ W) → s.lim = XE.lim → StR s → EnvR s env e → Unch W env0 env e0 e → COk W env0 e0 s r KV KE Q → vops X ops l env s.L KV = some r → ∃ y, evOps XE ops l e s.H KE = some y ∧ Q y
  | [], s, env, e, _, hlim, hs, he, hu, hK, h => hK env e s (Keep.refl s) hs he hu h
  | o :: l, s, env, e, hl, hlim, hs, he, hu, hK, h => by
    simp only [vops] at h; simp only [evOps]
    refine wanted_sim hW he h (fun t env' e' he' hu' h => ?_)
    cases t with
    | true =>
      simp only at h ⊢
      refine vop_sim hX hlim hs he' (fun pv v s' hk hs' hr h => ?_) h
      rw [hX.nt] at h
      refine put_sim (hl o (by simp)) (hk.env he') hr h (fun env2 e2 he2 hu2 h => ?_)
      exact vops_sim hX hW env0 e0 (fun o ho => hl o (by simp [ho])) (hk.lim.trans hlim) hs' he2 ((hu.trans hu').trans hu2) (fun env3 e3 s3 k3 => hK env3 e3 s3 (hk.trans k3)) h
    | false =>
      simp only at h ⊢
      rw [hX.nt] at h
      refine put_sim (hl o (by simp)) he' (p := .undef) rfl h (fun env2 e2 he2 hu2 h => ?_)
      exact vops_sim hX hW env0 e0 (fun o ho => hl o (by simp [ho])) hlim hs he2 ((hu.trans hu').trans hu2) hK h

/-- The states before the operations, the latest first. -/
def TrR : List S → List (PEnv × LS) → List (Env × Heap) → Prop
  | [], [], [] => True
  | s :: ss, (env, L) :: tr, (e, H) :: te => s.L = L ∧ s.H = H ∧ StR s ∧ EnvR s env e ∧ (∀ t ∈ ss, Keep t s) ∧ TrR ss tr te
  | _, _, _ => False

theorem vopsT_sim {ops : Array Oper} {W : List Nat} {KV : List (PEnv × LS) → PEnv → LS → Option β} {KE : List (Env × Heap) → Env → Heap → Option γ} (hX : XOk X XE) (hW : ∀ (j : Nat) (d : Nat), (ops[j]?).bind (fun (x : Oper) => x.dst) = some d → d ∈ W) (env0 : PEnv) (e0 : Env) (s0 : S) : ∀ {l : List Oper} {s : S} {env : PEnv} {e : Env} {ss : List S} {tr : List (PEnv × LS)} {te : List (Env × Heap)}, (∀ o ∈ l, ∀ d, o.dst = some d → d ∈ W) → s.lim = XE.lim → StR s → EnvR s env e → Unch W env0 env e0 e → TrR ss tr te → (∀ t ∈ ss, Keep t s) → Keep s0 s → (∀ t ∈ ss, Keep s0 t) →
    (∀ env' e' s' ss' tr' te', Keep s s' → StR s' → EnvR s' env' e' → Unch W env0 env' e0 e' → TrR (s' :: ss') ((env', s'.L) :: tr') ((e', s'.H) :: te') → (∀ t ∈ s' :: ss', Keep s0 t) → KV ((env', s'.L) :: tr') env' s'.L = some r → ∃ y, KE ((e', s'.H) :: te') e' s'.H = some y ∧ Q y) →
    vopsT X ops l env s.L tr KV = some r → ∃ y, evOpsT XE ops l e s.H te KE = some y ∧ Q y
  | [], s, env, e, ss, tr, te, _, hlim, hs, he, hu, ht, hss, h0, hs0, hK, h =>
    hK env e s ss tr te (Keep.refl s) hs he hu ⟨rfl, rfl, hs, he, hss, ht⟩ (fun t ht' => by rcases List.mem_cons.1 ht' with rfl | h1; exact h0; exact hs0 t h1) h
  | o :: l, s, env, e, ss, tr, te, hl, hlim, hs, he, hu, ht, hss, h0, hs0, hK, h => by
    simp only [vopsT] at h; simp only [evOpsT]
    refine wanted_sim hW he h (fun t env' e' he' hu' h => ?_)
    have hall : ∀ t ∈ s :: ss, Keep s0 t := fun t ht' => by
      rcases List.mem_cons.1 ht' with rfl | h1
      · exact h0
      · exact hs0 t h1
    cases t with
    | true =>
      simp only at h ⊢
      refine vop_sim hX hlim hs he' (fun pv v s' hk hs' hr h => ?_) h
      rw [hX.nt] at h
      refine put_sim (hl o (by simp)) (hk.env he') hr h (fun env2 e2 he2 hu2 h => ?_)
      exact vopsT_sim hX hW env0 e0 s0 (ss := s :: ss) (tr := (env', s.L) :: tr) (fun o ho => hl o (by simp [ho])) (hk.lim.trans hlim) hs' he2 ((hu.trans hu').trans hu2) ⟨rfl, rfl, hs, he', hss, ht⟩ (fun t ht' => by
        rcases List.mem_cons.1 ht' with rfl | h1
        · exact hk
        · exact (hss t h1).trans hk) (h0.trans hk) hall (fun env3 e3 s3 ss3 tr3 te3 k3 => hK env3 e3 s3 ss3 tr3 te3 (hk.trans k3)) h
    | false =>
      simp only at h ⊢
      rw [hX.nt] at h
      refine put_sim (hl o (by simp)) he' (p := .undef) rfl h (fun env2 e2 he2 hu2 h => ?_)
      exact vopsT_sim hX hW env0 e0 s0 (ss := s :: ss) (tr := (env', s.L) :: tr) (fun o ho => hl o (by simp [ho])) hlim hs he2 ((hu.trans hu').trans hu2) ⟨rfl, rfl, hs, he', hss, ht⟩ (fun t ht' => by
        rcases List.mem_cons.1 ht' with rfl | h1
        · exact Keep.refl _
        · exact hss t h1) h0 hall hK h

end
end Go.Pv
